/- Lemmas for the law ShardPuts: Words for memory and for numbers, used by all walks of this seat: what a slice value reads as, what a call leaves below. No condition.; The model's integer operations at UInt8, UInt32, UInt64, as rules of the walk: a value of such a kind is written by its UInt. No condition.; Rows of bytes: append, new rows, whole reads, as laws of the walk; slices.Clone and slices.Equal at bytes. The rows are readable slices.; Rows of anything: how a thing lies in cells (a codec), slices that read as a list, rows of the call's own; append, load and store laws.; What came in: arguments that read as data, opened to what they read as.; A region that draws its order: if each operation, in whatever later world, from operands that meet their own facts, yields a value that meets its fact, then the region's end meets all facts, whatever the order. The facts are such as later worlds keep. No condition beyond these.; Regions that draw their order and end in operations that wait for all others (an append, a store): the others by facts on their values, the end in its own order.; A region that draws its order, in which ONE operation (a call) changes the world, and whose end waits for all the others: the others by facts on their values, which speak of no world.; The obligations of the law of one world-changing operation, one by one.; Numbers as bytes (varint), plainly.; Neighbours (gaps), plainly.; varint.Put and the reference's Num append, and make, a number's bytes; varint.Reader: each method's step; Ro. No condition. -/
import Derived.WalkKit
import Derived.WalkSpells
import Derived.WalkLawsBesides
import Derived.Deep.AppendLies
import Derived.Deep.Draws
import Derived.Deep.QuietTactic
import Derived.BigQuiet
import Derived.Lib.Hide
import Derived.Laws.BitsAllLaws
import Derived.Test.YthfnikdapknohaaRows
import Derived.ChangeArms
import Derived.DataReads
import Derived.WideShapes
import Derived.ProofKit
import Derived.OpenShut
import Derived.ShutString
import Derived.ChangeOld
import Derived.Below
import Derived.Carry
import Derived.Lib.SmallJoins
import Derived.RegionTactic
import Derived.StillTailTactics
import Derived.Outline
import Derived.Lib.BitFns
import Derived.ChangeAlike
import Derived.Laws.StructEq
namespace Go.Proofs.Ythfnikdapknohaa
set_option linter.unusedSimpArgs false
set_option linter.unusedVariables false
open Go.RowKit

/-! ### addresses -/
theorem add_block (a : Addr) (n : Nat) : (a.add n).block = a.block := by unfold Addr.add; split <;> rfl
theorem add_add (a : Addr) (i j : Nat) : (a.add i).add j = a.add (i + j) := by
  unfold Addr.add
  by_cases hi : i = 0 <;> by_cases hj : j = 0 <;> simp [hi, hj, Nat.add_assoc]
theorem add_zero' (a : Addr) : a.add 0 = a := by simp [Addr.add]

/-! ### 'Below' once more -/
theorem bdrewN {B : Nat} {a w : World} (h : Below B a w) (n : Nat) : Below B a (w.drewN n) := ⟨h.os, h.tape, h.output, h.size, h.block⟩
theorem bsetRow {B : Nat} {a w : World} (h : Below B a w) {g : Nat} (hg : B ≤ g) (cs : Array Value) : Below B a (w.setRow g cs) :=
  h.trans ⟨rfl, rfl, rfl, by simp, fun k hk => setRow_other w g k cs (by omega)⟩
theorem bstep {a b c : World} (h : Below a.heap.size a b) (k : Below b.heap.size b c) : Below a.heap.size a c := h.trans (k.mono h.size)
theorem bstepB {B : Nat} {a b c : World} (h : Below B a b) (k : Below b.heap.size b c) (hB : B ≤ b.heap.size) : Below B a c := h.trans (k.mono hB)
theorem balloc (w : World) (o : Obj) : Below w.heap.size w (w.alloc o) := (Below.refl _ _).alloc (Nat.le_refl _) o

/-! ### a slice that reads as a list of cells; nil let in -/
/-- the slice address A with n elements of 'size' cells reads as xs, all in blocks below B -/
def Rd (w : World) (B size : Nat) (A : Option Addr) (n : Nat) (xs : List Value) : Prop :=
  xs.length = n * size ∧ (0 < n → ∃ ad, A = some ad ∧ ad.block < B ∧ ∀ j u, xs[j]? = some u → w.cell? (ad.add j) = some u)

section
variable {w w' : World} {B B' size n : Nat} {A : Option Addr} {xs : List Value}
theorem Rd.none_ : Rd w B size A 0 [] := ⟨by simp, fun h => absurd h (by omega)⟩
theorem Rd.ad (h : Rd w B size A n xs) (hn : 0 < n) : ∃ ad, A = some ad ∧ ad.block < B ∧ ∀ j u, xs[j]? = some u → w.cell? (ad.add j) = some u := h.2 hn
theorem Rd.keep (h : Rd w B size A n xs) (hk : ∀ p : Addr, p.block < B → w'.cell? p = w.cell? p) : Rd w' B size A n xs :=
  ⟨h.1, fun hn => by
    obtain ⟨ad, e, hb, hc⟩ := h.2 hn
    exact ⟨ad, e, hb, fun j u hu => (hk _ (by rw [add_block]; exact hb)).trans (hc j u hu)⟩⟩
theorem Rd.more (h : Rd w B size A n xs) (hB : B ≤ B') : Rd w B' size A n xs :=
  ⟨h.1, fun hn => by
    obtain ⟨ad, e, hb, hc⟩ := h.2 hn
    exact ⟨ad, e, by omega, hc⟩⟩
theorem Rd.below (h : Rd w B size A n xs) (hb : Below B w w') : Rd w' B size A n xs := h.keep fun _ hp => hb.cell hp
theorem Rd.alloc (h : Rd w B size A n xs) (hB : B ≤ w.heap.size) (o : Obj) : Rd (w.alloc o) B size A n xs := h.keep fun p hp => World.cell?_alloc_lt w o p (by omega)
theorem Rd.cut (h : Rd w B size A n xs) {k cap : Nat} (hk : k ≤ n) (hc : n ≤ cap) :
    Rd w B size (if cap = k then A else A.map (·.add (k * size))) (n - k) (xs.drop (k * size)) := by
  refine ⟨by rw [List.length_drop, h.1, Nat.sub_mul], fun hn => ?_⟩
  obtain ⟨ad, rfl, hb, hcell⟩ := h.2 (by omega)
  rw [if_neg (by omega)]
  refine ⟨ad.add (k * size), rfl, by rw [add_block]; exact hb, fun j u hu => ?_⟩
  rw [add_add]
  exact hcell _ u (by rw [← hu, List.getElem?_drop])
theorem Rd.front (h : Rd w B size A n xs) {k : Nat} (hk : k ≤ n) : Rd w B size A k (xs.take (k * size)) := by
  refine ⟨by rw [List.length_take, h.1]; exact Nat.min_eq_left (Nat.mul_le_mul_right _ hk), fun hn => ?_⟩
  obtain ⟨ad, rfl, hb, hcell⟩ := h.2 (by omega)
  refine ⟨ad, rfl, hb, fun j u hu => hcell j u ?_⟩
  rw [List.getElem?_take] at hu
  split at hu
  · exact hu
  · cases hu
theorem Rd.of_own {base : Nat} {e : TypeId} {c : Nat} (h : w.ownsRow base e size (.slice A n c) n xs) : Rd w w.heap.size size A n xs := by
  refine ⟨h.1, fun hn => ?_⟩
  obtain ⟨g, cap, hv, _, hlt⟩ := h.form hn
  have hA : A = some ⟨g, 0, none⟩ := by injection hv
  subst hA
  exact ⟨_, rfl, hlt, h.cells (g := g) rfl⟩
end

/-! ### append from any readable source -/
section
variable {P : Program} (w : World)

theorem run_append_of_nil (base : Nat) (t ty e : TypeId) (i : TypeInfo) (size : Nat) (ht : P.underlying t = some (.slice e)) (hi : P.info? e = some i)
    (v : Value) (n : Nat) (xs : List Value) (hown : w.ownsRow base e size v n xs) (c : Nat) : (Builtin.append_ #[t, t] ty #[v, .slice none 0 c]).run P w = .ok v w := by
  rcases hown.2 with ⟨rfl, rfl⟩ | ⟨g, cap, cur, rfl, _, _, hnc, _⟩
  · simp [Builtin.append_, run_underlying ht, sizeOf, typeInfo, hi, Builtin.lenOf, Builtin.firstCells]
  · simp [Builtin.append_, run_underlying ht, sizeOf, typeInfo, hi, Builtin.lenOf, Builtin.firstCells, hnc, storeCells]

theorem run_append_rd (base : Nat) (t ty e : TypeId) (i : TypeInfo) (z : Value) (size bytes : Nat) (ht : P.underlying t = some (.slice e)) (hi : P.info? e = some i) (hz : i.zero = some z)
    (hsize : i.size = size) (hby : i.bytes = bytes) (hzs : z.cells.size = size) (hsz : 0 < size)
    (v : Value) (n : Nat) (xs : List Value) (hown : w.ownsRow base e size v n xs)
    (B : Nat) (A : Option Addr) (m c : Nat) (news : List Value) (hr : Rd w B size A m news) (h1 : ∀ u ∈ news, u.oneCell' = true)
    (h63 : n + m ≤ maxLen) (hbytes : (n + m) * bytes ≤ 140737488355328) (hbase : base ≤ w.heap.size) :
    ∃ v' w', (Builtin.append_ #[t, t] ty #[v, .slice A m c]).run P w = .ok v' w' ∧ w'.ownsRow base e size v' (n + m) (xs ++ news) ∧ w.grownBy w' v.ownBlock ∧
      (v'.ownBlock = v.ownBlock ∨ v'.ownBlock = some w.heap.size) := by
  rcases A with _ | ad
  · have hm : m = 0 := by
      rcases Nat.eq_zero_or_pos m with h0 | h0
      · exact h0
      · obtain ⟨ad, h, _⟩ := hr.2 h0
        cases h
    subst hm
    have hn : news = [] := List.eq_nil_of_length_eq_zero (by simpa using hr.1)
    subst hn
    exact ⟨v, w, run_append_of_nil w base t ty e i size ht hi v n xs hown c, by simpa using hown, World.grownBy.refl w _, .inl rfl⟩
  · have hcells : ∀ j u, news[j]? = some u → w.cell? (ad.add j) = some u := by
      intro j u hu
      rcases Nat.eq_zero_or_pos m with h0 | h0
      · subst h0
        have hn : news = [] := List.eq_nil_of_length_eq_zero (by simpa using hr.1)
        subst hn
        simp at hu
      · obtain ⟨ad', h, _, hc⟩ := hr.2 h0
        injection h with h
        subst h
        exact hc j u hu
    obtain ⟨v', w', hrun, h2, h3, _, h5⟩ := run_append_own_at (P := P) w base t ty e i z size bytes ht hi hz hsize hby hzs hsz v n xs hown ad m c news hr.1 hcells h1 h63 hbytes hbase
    exact ⟨v', w', hrun, h2, h3, h5⟩
end

/-! ### a whole struct or array, stored into a block -/
section
variable {P : Program}
theorem run_storeVar_at (w : World) (g o : Nat) (t ty : TypeId) (cur vals : Array Value) (hg : w.heap[g]? = some (.cells cur t (0, 0))) (hi : (P.info? ty).map (·.size) = some vals.size)
    (hfit : o + vals.size ≤ cur.size) (h1 : ∀ v ∈ vals.toList, v.oneCell' = true) :
    (storeVar ty ⟨g, o, none⟩ (.agg vals)).run P w = .ok () (w.setRow g (cur.toList.take o ++ vals.toList ++ cur.toList.drop (o + vals.size)).toArray) := by
  have hst := run_storeCells_at P g o t vals.toList 0 cur w hg (by simpa using hfit) h1
  cases hq : P.info? ty with
  | none => simp [hq] at hi
  | some i =>
    have hs : i.size = vals.size := by simpa [hq] using hi
    simp [storeVar, Value.cells, sizeOf, typeInfo, hq, hs, hst]
theorem run_storeVar_row (w : World) (g : Nat) (t ty : TypeId) (cur vals : Array Value) (hg : w.heap[g]? = some (.cells cur t (0, 0))) (hi : (P.info? ty).map (·.size) = some vals.size)
    (hfit : vals.size = cur.size) (h1 : ∀ v ∈ vals.toList, v.oneCell' = true) : (storeVar ty ⟨g, 0, none⟩ (.agg vals)).run P w = .ok () (w.setRow g vals) := by
  rw [run_storeVar_at w g 0 t ty cur vals hg hi (by omega) h1]
  have : cur.toList.drop (0 + vals.size) = [] := List.drop_eq_nil_of_le (by simp; omega)
  rw [this]
  simp
theorem wpList_store_row {ops : Array Oper} {rest : List Oper} {o : Oper} {a : Act} {w : World} {Q : Exit → Act → World → Prop} (hgd : o.guard = none) (ty : TypeId) (x y : Operand) (ho : o.op = .store ty x y)
    (g : Nat) (vals : Array Value) (hx : a.eval x = .pointer (some ⟨g, 0, none⟩)) (hy : a.eval y = .agg vals) (t : TypeId) (cur : Array Value) (hg : w.heap[g]? = some (.cells cur t (0, 0)))
    (hi : (P.info? ty).map (·.size) = some vals.size) (hfit : vals.size = cur.size) (h1 : ∀ v ∈ vals.toList, v.oneCell' = true)
    (h : wpList P ops Q rest (a.put o.dst undef) (w.setRow g vals)) : wpList P ops Q (o :: rest) a w :=
  wpList_plain hgd fun K hK => by
    unfold Oper.wp execOp
    simp only [ho, hx, hy, Instr.storeAt, Instr.sureAddr, Sem.run_bind, Sem.run_pure, Result.andThen_ok, run_storeVar_row w g t ty cur vals hg hi hfit h1]
    exact hK _ _ h
end

/-! ### bytes -/
/-- a byte as a value -/
def b8 (b : UInt8) : Value := .int .u8 (b.toNat : Int)
/-- the cells of a list of bytes -/
def b8s (l : List UInt8) : List Value := l.map b8
theorem b8s_length (l : List UInt8) : (b8s l).length = l.length := by simp [b8s]
theorem b8s_get (l : List UInt8) (k : Nat) (h : k < l.length) : (b8s l)[k]? = some (.int .u8 ((l[k]).toNat : Int)) := by simp [b8s, h, b8]
theorem b8s_append (a b : List UInt8) : b8s (a ++ b) = b8s a ++ b8s b := by simp [b8s]
theorem b8s_one (l : List UInt8) : ∀ u ∈ b8s l, u.oneCell' = true := by
  intro u hu
  obtain ⟨_, _, rfl⟩ := List.mem_map.1 hu
  rfl

/-- the value v is a slice of bytes that reads as l, in blocks below B -/
def By (w : World) (B : Nat) (v : Value) (l : List UInt8) : Prop :=
  ∃ A c, v = .slice A l.length c ∧ l.length ≤ c ∧ c ≤ maxLen ∧ Rd w B 1 A l.length (b8s l)

/-- the value v is a slice of bytes of the call's own, all of whose cells lie in blocks from base on -/
def Ow (w : World) (base : Nat) (v : Value) (l : List UInt8) : Prop := w.ownsRow base 5 1 v l.length (b8s l)

section
variable {w w' : World} {B B' : Nat} {v : Value} {l : List UInt8}
theorem By.below (h : By w B v l) (hb : Below B w w') : By w' B v l := by
  obtain ⟨A, c, h1, h2, h3, h4⟩ := h
  exact ⟨A, c, h1, h2, h3, h4.below hb⟩
theorem By.more (h : By w B v l) (hB : B ≤ B') : By w B' v l := by
  obtain ⟨A, c, h1, h2, h3, h4⟩ := h
  exact ⟨A, c, h1, h2, h3, h4.more hB⟩
theorem By.alloc (h : By w B v l) (hB : B ≤ w.heap.size) (o : Obj) : By (w.alloc o) B v l := by
  obtain ⟨A, c, h1, h2, h3, h4⟩ := h
  exact ⟨A, c, h1, h2, h3, h4.alloc hB o⟩
theorem By.step (h : By w w.heap.size v l) (hb : Below w.heap.size w w') : By w' w'.heap.size v l := (h.below hb).more hb.size
theorem By.nil_ : By w B (.slice none 0 0) [] := ⟨none, 0, rfl, Nat.le_refl _, Nat.zero_le _, Rd.none_⟩
theorem Ow.by_ {base : Nat} (h : Ow w base v l) : By w w.heap.size v l := by
  unfold Ow at h
  rcases h.2 with ⟨rfl, hn⟩ | ⟨g, cap, cur, rfl, _, hg, hnc, hcm, _⟩
  · have : l = [] := List.eq_nil_of_length_eq_zero hn
    subst this
    exact By.nil_
  · exact ⟨_, cap, rfl, hnc, hcm, Rd.of_own h⟩
theorem Ow.mono {base base' : Nat} (h : Ow w base v l) (hb : base' ≤ base) : Ow w base' v l := by
  refine ⟨h.1, ?_⟩
  rcases h.2 with h2 | ⟨g, cap, cur, h1, h2, h3⟩
  · exact .inl h2
  · exact .inr ⟨g, cap, cur, h1, Nat.le_trans hb h2, h3⟩
end

/-- one new cell reads as a row of one -/
theorem rd1 (w : World) (x : Value) (t : TypeId) (hx : x.oneCell' = true) : Rd (w.alloc (.cells #[x] t)) (w.alloc (.cells #[x] t)).heap.size 1 (some ⟨w.heap.size, 0, none⟩) 1 [x] :=
  have _ := hx
  ⟨rfl, fun _ => ⟨_, rfl, by simp, cell_one_new w x t⟩⟩
theorem one_by {w : World} {B : Nat} {v : Value} {l : List UInt8} (h : By w B v l) : ∀ k (h1 : k < [v].length) (h2 : k < [l].length), By w B [v][k] [l][k] := by
  intro k h1 h2
  have : k = 0 := by simp at h1; omega
  subst this
  exact h
end Go.Proofs.Ythfnikdapknohaa

namespace Go.Proofs.Ythfnikdapknohaa
set_option linter.unusedSimpArgs false
set_option linter.unusedVariables false

theorem u8_lt (x : UInt8) : x.toNat < 256 := x.toNat_lt
theorem u16_lt (x : UInt16) : x.toNat < 65536 := x.toNat_lt
theorem u32_lt (x : UInt32) : x.toNat < 4294967296 := x.toNat_lt
theorem u64_lt (x : UInt64) : x.toNat < 18446744073709551616 := x.toNat_lt

/-! conversions -/
theorem wrap_u8_u8 (x : UInt8) : IntKind.u8.wrap (x.toNat : Int) = (x.toNat : Int) := by rw [IntKind.wrap_u8']; have := u8_lt x; omega
theorem wrap_u8_u32 (x : UInt32) : IntKind.u8.wrap (x.toNat : Int) = (x.toUInt8.toNat : Int) := by
  rw [IntKind.wrap_u8', UInt32.toNat_toUInt8]; simp
theorem wrap_u8_u64 (x : UInt64) : IntKind.u8.wrap (x.toNat : Int) = (x.toUInt8.toNat : Int) := by
  rw [IntKind.wrap_u8', UInt64.toNat_toUInt8]; simp
theorem wrap_u32_u8 (x : UInt8) : IntKind.u32.wrap (x.toNat : Int) = (x.toUInt32.toNat : Int) := by
  rw [IntKind.wrap_u32', UInt8.toNat_toUInt32]; have := u8_lt x; omega
theorem wrap_u32_u32 (x : UInt32) : IntKind.u32.wrap (x.toNat : Int) = (x.toNat : Int) := by rw [IntKind.wrap_u32']; have := u32_lt x; omega
theorem wrap_u32_u64 (x : UInt64) : IntKind.u32.wrap (x.toNat : Int) = (x.toUInt32.toNat : Int) := by
  rw [IntKind.wrap_u32', UInt64.toNat_toUInt32]; simp
theorem wrap_u64 (n : Int) : IntKind.u64.wrap n = n % 18446744073709551616 := by simp [IntKind.wrap, IntKind.bits, IntKind.signed]
theorem wrap_i64 (n : Int) : IntKind.i64.wrap n = (n + 9223372036854775808) % 18446744073709551616 - 9223372036854775808 := by
  simp [IntKind.wrap, IntKind.bits, IntKind.signed]
  omega
theorem wrap_u64_u8 (x : UInt8) : IntKind.u64.wrap (x.toNat : Int) = (x.toUInt64.toNat : Int) := by
  rw [wrap_u64, UInt8.toNat_toUInt64]; have := u8_lt x; omega
theorem wrap_u64_u32 (x : UInt32) : IntKind.u64.wrap (x.toNat : Int) = (x.toUInt64.toNat : Int) := by
  rw [wrap_u64, UInt32.toNat_toUInt64]; have := u32_lt x; omega
theorem wrap_u64_u64 (x : UInt64) : IntKind.u64.wrap (x.toNat : Int) = (x.toNat : Int) := by rw [wrap_u64]; have := u64_lt x; omega
theorem wrap_i64_u8 (x : UInt8) : IntKind.i64.wrap (x.toNat : Int) = (x.toNat : Int) := by rw [wrap_i64]; have := u8_lt x; omega
theorem wrap_i64_u32 (x : UInt32) : IntKind.i64.wrap (x.toNat : Int) = (x.toNat : Int) := by rw [wrap_i64]; have := u32_lt x; omega

/-! bits -/
theorem and_u8 (a b : UInt8) : bits .and .u8 (a.toNat : Int) (b.toNat : Int) = ((a &&& b).toNat : Int) := by rw [u8_and_nat _ _ (u8_lt a) (u8_lt b), UInt8.toNat_and]
theorem or_u8 (a b : UInt8) : bits .or .u8 (a.toNat : Int) (b.toNat : Int) = ((a ||| b).toNat : Int) := by rw [u8_or_nat _ _ (u8_lt a) (u8_lt b), UInt8.toNat_or]
theorem xor_u8 (a b : UInt8) : bits .xor .u8 (a.toNat : Int) (b.toNat : Int) = ((a ^^^ b).toNat : Int) := by rw [u8_xor_nat _ _ (u8_lt a) (u8_lt b), UInt8.toNat_xor]
theorem and_u32 (a b : UInt32) : bits .and .u32 (a.toNat : Int) (b.toNat : Int) = ((a &&& b).toNat : Int) := by rw [u32_and_nat _ _ (u32_lt a) (u32_lt b), UInt32.toNat_and]
theorem or_u32 (a b : UInt32) : bits .or .u32 (a.toNat : Int) (b.toNat : Int) = ((a ||| b).toNat : Int) := by rw [u32_or_nat _ _ (u32_lt a) (u32_lt b), UInt32.toNat_or]
theorem xor_u32 (a b : UInt32) : bits .xor .u32 (a.toNat : Int) (b.toNat : Int) = ((a ^^^ b).toNat : Int) := by rw [u32_xor_nat _ _ (u32_lt a) (u32_lt b), UInt32.toNat_xor]
theorem and_u64 (a b : UInt64) : bits .and .u64 (a.toNat : Int) (b.toNat : Int) = ((a &&& b).toNat : Int) := by rw [u64_and_nat _ _ (u64_lt a) (u64_lt b), UInt64.toNat_and]
theorem or_u64 (a b : UInt64) : bits .or .u64 (a.toNat : Int) (b.toNat : Int) = ((a ||| b).toNat : Int) := by rw [u64_or_nat _ _ (u64_lt a) (u64_lt b), UInt64.toNat_or]
theorem xor_u64 (a b : UInt64) : bits .xor .u64 (a.toNat : Int) (b.toNat : Int) = ((a ^^^ b).toNat : Int) := by rw [u64_xor_nat _ _ (u64_lt a) (u64_lt b), UInt64.toNat_xor]

/-! shifts by a literal -/
theorem shr_u32 (a : UInt32) (k : Nat) (hk : k < 32) : ((a.toNat : Int)).fdiv (2 ^ k) = ((a >>> (UInt32.ofNat k)).toNat : Int) := by
  have h : (UInt32.ofNat k).toNat % 32 = k := by rw [UInt32.toNat_ofNat']; omega
  rw [UInt32.toNat_shiftRight, h, Nat.shiftRight_eq_div_pow, Int.fdiv_eq_ediv_of_nonneg _ (by exact Int.le_of_lt (Int.pow_pos (by decide)))]
  simp
theorem shr_u64 (a : UInt64) (k : Nat) (hk : k < 64) : ((a.toNat : Int)).fdiv (2 ^ k) = ((a >>> (UInt64.ofNat k)).toNat : Int) := by
  have h : (UInt64.ofNat k).toNat % 64 = k := by rw [UInt64.toNat_ofNat']; omega
  rw [UInt64.toNat_shiftRight, h, Nat.shiftRight_eq_div_pow, Int.fdiv_eq_ediv_of_nonneg _ (by exact Int.le_of_lt (Int.pow_pos (by decide)))]
  simp
theorem not_u32 (a : UInt32) : IntKind.u32.wrap (-(a.toNat : Int) - 1) = ((~~~a).toNat : Int) := by
  have := u32_lt a
  rw [IntKind.wrap_u32', UInt32.toNat_not]; simp only [UInt32.size]; omega
theorem not_u64 (a : UInt64) : IntKind.u64.wrap (-(a.toNat : Int) - 1) = ((~~~a).toNat : Int) := by
  have := u64_lt a
  rw [wrap_u64, UInt64.toNat_not]; simp only [UInt64.size]; omega
theorem mul_u32 (a b : UInt32) : IntKind.u32.wrap ((a.toNat : Int) * (b.toNat : Int)) = ((a * b).toNat : Int) := by
  rw [IntKind.wrap_u32', UInt32.toNat_mul]; simp
theorem mul_u64 (a b : UInt64) : IntKind.u64.wrap ((a.toNat : Int) * (b.toNat : Int)) = ((a * b).toNat : Int) := by
  rw [wrap_u64, UInt64.toNat_mul]; simp
theorem add_u32 (a b : UInt32) : IntKind.u32.wrap ((a.toNat : Int) + (b.toNat : Int)) = ((a + b).toNat : Int) := by
  rw [IntKind.wrap_u32', UInt32.toNat_add]; simp
theorem add_u64 (a b : UInt64) : IntKind.u64.wrap ((a.toNat : Int) + (b.toNat : Int)) = ((a + b).toNat : Int) := by
  rw [wrap_u64, UInt64.toNat_add]; simp

theorem compl_u32 (a : UInt32) : bits .xor .u32 IntKind.u32.max (a.toNat : Int) = ((~~~a).toNat : Int) := by
  have h : (-1 : UInt32) ^^^ a = ~~~a := by rw [UInt32.xor_comm, UInt32.xor_neg_one]
  rw [← h, ← xor_u32]; rfl
theorem compl_u64 (a : UInt64) : bits .xor .u64 IntKind.u64.max (a.toNat : Int) = ((~~~a).toNat : Int) := by
  have h : (-1 : UInt64) ^^^ a = ~~~a := by rw [UInt64.xor_comm, UInt64.xor_neg_one]
  rw [← h, ← xor_u64]; rfl

/-! in the walk's own forms: a conversion to uint8 is '% 256', a shift is a division -/
theorem mod_u8_u32 (x : UInt32) : (x.toNat : Int) % 256 = (x.toUInt8.toNat : Int) := by rw [← wrap_u8_u32, IntKind.wrap_u8']
theorem mod_u8_u64 (x : UInt64) : (x.toNat : Int) % 256 = (x.toUInt8.toNat : Int) := by rw [← wrap_u8_u64, IntKind.wrap_u8']
theorem div_u32 (x : UInt32) (k : Nat) (hk : k < 32) (d : Int) (hd : d = 2 ^ k) : (x.toNat : Int) / d = ((x >>> UInt32.ofNat k).toNat : Int) := by
  rw [hd, ← shr_u32 x k hk, Int.fdiv_eq_ediv_of_nonneg _ (by exact Int.le_of_lt (Int.pow_pos (by decide)))]
theorem div_u64 (x : UInt64) (k : Nat) (hk : k < 64) (d : Int) (hd : d = 2 ^ k) : (x.toNat : Int) / d = ((x >>> UInt64.ofNat k).toNat : Int) := by
  rw [hd, ← shr_u64 x k hk, Int.fdiv_eq_ediv_of_nonneg _ (by exact Int.le_of_lt (Int.pow_pos (by decide)))]
end Go.Proofs.Ythfnikdapknohaa

namespace Go.Proofs.Ythfnikdapknohaa
set_option linter.unusedSimpArgs false
set_option linter.unusedVariables false
open Go.RowKit

/-! ### what an append onto an own row leaves -/
structure Ext (w w' : World) (v v' : Value) : Prop where
  gr : w.grownBy w' v.ownBlock
  at_ : v'.ownBlock = v.ownBlock ∨ ∀ k, v'.ownBlock = some k → w.heap.size ≤ k
theorem Ext.refl (w : World) (v : Value) : Ext w w v v := ⟨World.grownBy.refl _ _, .inl rfl⟩
theorem Ext.trans {a b c : World} {u v x : Value} (h : Ext a b u v) (k : Ext b c v x) : Ext a c u x := by
  refine ⟨⟨k.gr.os.trans h.gr.os, k.gr.tape.trans h.gr.tape, k.gr.output.trans h.gr.output, Nat.le_trans h.gr.size k.gr.size, fun i hi hne => ?_⟩, ?_⟩
  · refine (k.gr.block i (Nat.lt_of_lt_of_le hi h.gr.size) (fun e => ?_)).trans (h.gr.block i hi hne)
    rcases h.at_ with h1 | h1
    · exact hne (by rw [e, h1])
    · exact absurd (h1 i e.symm) (by omega)
  · rcases k.at_ with k1 | k1
    · rcases h.at_ with h1 | h1
      · exact .inl (k1.trans h1)
      · exact .inr fun i hi => h1 i (by rw [← k1]; exact hi)
    · exact .inr fun i hi => Nat.le_trans h.gr.size (k1 i hi)
theorem Ext.below {w w' : World} {v v' : Value} (h : Ext w w' v v') {B : Nat} (hB : B ≤ w.heap.size) (hv : ∀ k, v.ownBlock = some k → B ≤ k) : Below B w w' :=
  (Below.refl B w).grown h.gr hB hv
theorem Ext.after {a w w' : World} {v v' : Value} (h : Ext w w' v v') (hb : Below a.heap.size a w) (row : Value) (hv : v.ownBlock = row.ownBlock) : Ext a w' row v' := by
  refine ⟨⟨h.gr.os.trans hb.os, h.gr.tape.trans hb.tape, h.gr.output.trans hb.output, Nat.le_trans hb.size h.gr.size, fun i hi hne => ?_⟩, ?_⟩
  · exact (h.gr.block i (Nat.lt_of_lt_of_le hi hb.size) (by rw [hv]; exact hne)).trans (hb.block i hi)
  · rcases h.at_ with h1 | h1
    · exact .inl (h1.trans hv)
    · exact .inr fun k hk => Nat.le_trans hb.size (h1 k hk)
theorem Ext.then_ {w w' w'' : World} {v v' : Value} (h : Ext w w' v v') (hb : Below w'.heap.size w' w'') : Ext w w'' v v' :=
  ⟨⟨hb.os.trans h.gr.os, hb.tape.trans h.gr.tape, hb.output.trans h.gr.output, Nat.le_trans h.gr.size hb.size, fun i hi hne => (hb.block i (Nat.lt_of_lt_of_le hi h.gr.size)).trans (h.gr.block i hi hne)⟩, h.at_⟩

/-! ### own rows of bytes -/
theorem info8 : (Try.prog.info? 5).map (fun i => (i.zero, i.size, i.bytes)) = some (some (.int .u8 0), 1, 1) := by kernel_rfl
theorem size8 : (Try.prog.info? 5).map (·.size) = some 1 := by kernel_rfl
section
variable {w w' : World} {base B : Nat} {v : Value} {l : List UInt8}
theorem Ow.blk (h : Ow w base v l) : ∀ k, v.ownBlock = some k → base ≤ k ∧ k < w.heap.size := World.ownsRow.lt h
theorem Ow.keep (h : Ow w base v l) {row : Option Nat} (hg : w.grownBy w' row) (hne : v.ownBlock = none ∨ v.ownBlock ≠ row) : Ow w' base v l := World.ownsRow.kept h hg hne
theorem Ow.below_ (h : Ow w base v l) (hb : Below w.heap.size w w') : Ow w' base v l :=
  World.ownsRow.kept h (row := none) ⟨hb.os, hb.tape, hb.output, hb.size, fun k hk _ => hb.block k hk⟩ (by cases hv : v.ownBlock <;> simp)
theorem Ow.nil_ (w : World) (base : Nat) : Ow w base (.slice none 0 0) [] := World.ownsRow_nil _ _ _ _
theorem Ow.alloc (h : Ow w base v l) (o : Obj) : Ow (w.alloc o) base v l := World.ownsRow.alloc h o
theorem Ow.form (h : Ow w base v l) (hl : l ≠ []) : ∃ g cap, v = .slice (some ⟨g, 0, none⟩) l.length cap ∧ l.length ≤ cap ∧ cap ≤ maxLen ∧ base ≤ g ∧ g < w.heap.size := by
  obtain ⟨g, cap, hv, hb, hlt⟩ := World.ownsRow.form (size := 1) h (List.length_pos_iff.2 hl)
  rcases h.2 with ⟨rfl, _⟩ | ⟨g', cap', cur, hv', _, _, h1, h2, _⟩
  · cases hv
  · rw [hv] at hv'
    injection hv' with e1 e2 e3
    subst e3
    exact ⟨g, cap, hv, h1, h2, hb, hlt⟩
end

/-- a new row of bytes, written out -/
theorem By.new_ (w : World) (l : List UInt8) (hm : l.length ≤ maxLen) : By (w.alloc (.cells (b8s l).toArray 5)) (w.heap.size + 1) (.slice (some ⟨w.heap.size, 0, none⟩) l.length l.length) l :=
  ⟨_, _, rfl, Nat.le_refl _, hm, by simp [b8s_length], fun _ => ⟨_, rfl, by simp, fun j u hu => World.news_of_block (heap_alloc_new w _) j u (by simpa using hu)⟩⟩
theorem By.newF (w : World) (l : List UInt8) (hm : l.length ≤ maxLen) (fr : Nat × Nat) : By (w.alloc (.cells (b8s l).toArray 5 fr)) (w.heap.size + 1) (.slice (some ⟨w.heap.size, 0, none⟩) l.length l.length) l :=
  ⟨_, _, rfl, Nat.le_refl _, hm, by simp [b8s_length], fun _ => ⟨_, rfl, by simp, fun j u hu => World.news_of_block (heap_alloc_new w _) j u (by simpa using hu)⟩⟩
theorem Ow.new_ (w : World) (l : List UInt8) (hm : l.length ≤ maxLen) : Ow (w.alloc (.cells (b8s l).toArray 5)) w.heap.size (.slice (some ⟨w.heap.size, 0, none⟩) l.length l.length) l := by
  refine ⟨by simp [b8s_length], .inr ⟨w.heap.size, l.length, _, rfl, Nat.le_refl _, heap_alloc_new w _, Nat.le_refl _, hm, by simp [b8s_length], ?_⟩⟩
  exact List.take_of_length_le (by simp [b8s_length])

/-- append(s, x...), s the call's own, x any readable row -/
theorem wpList_app8 {ops : Array Oper} {rest : List Oper} {o : Oper} {a : Act} {w : World} {Q : Exit → Act → World → Prop} (hgd : o.guard = none) (s x : Operand)
    (ho : o.op = .call { callee := .builtin .append, args := #[s, x], argTypes := #[25, 25] })
    {base B : Nat} {v v2 : Value} {l l2 : List UInt8} (hown : Ow w base v l) (hby : By w B v2 l2) (hs : a.eval s = v) (hx : a.eval x = v2)
    (hsz : l.length + l2.length ≤ 140737488355328) (hbase : base ≤ w.heap.size)
    (h : ∀ v' w', Ow w' base v' (l ++ l2) → Ext w w' v v' → wpList Try.prog ops Q rest (a.put o.dst v') w') : wpList Try.prog ops Q (o :: rest) a w := by
  obtain ⟨i, hi, hz0, hz1, hz2⟩ := info_parts info8
  obtain ⟨A, c, rfl, _, _, hrd⟩ := hby
  refine wpList_plain hgd fun K hK => ?_
  obtain ⟨v', w', hr, h2, h3, h5⟩ := run_append_rd (P := Try.prog) w base 25 o.type 5 i (.int .u8 0) 1 1 Try.underlying25 hi hz0 hz1 hz2 rfl (by omega) v l.length (b8s l) hown B A l2.length c (b8s l2) hrd (b8s_one l2)
    (by unfold maxLen; omega) (by omega) hbase
  unfold Oper.wp execOp
  simp only [ho, resolve, invoke, builtin, Sem.run_bind, Sem.run_pure, Result.andThen_ok, List.map_toArray, List.map_cons, List.map_nil, hs, hx, hr]
  refine hK _ _ (h v' w' ?_ ⟨h3, ?_⟩)
  · unfold Ow
    rw [List.length_append, b8s_append]
    exact h2
  · rcases h5 with h5 | h5
    · exact .inl h5
    · exact .inr fun k hk => by rw [h5] at hk; injection hk with hk; omega

/-! ### bytes to a string -/
def bst (l : List UInt8) : ByteArray := ⟨l.toArray⟩
theorem bst_toList (l : List UInt8) : (bst l).toList = l := ByteArray.toList_mk l
theorem foldl_push8 : ∀ (ns : List UInt8) (s : ByteArray), (ns.map fun b => (b.toNat : Int)).foldl (fun r n => r.push (UInt8.ofNat n.toNat)) s = ⟨s.data ++ ns.toArray⟩ := by
  intro ns
  induction ns with
  | nil => intro s; simp
  | cons n ns ih =>
    intro s
    rw [List.map_cons, List.foldl_cons, ih]
    simp [ByteArray.push]
theorem conv8 {w : World} {B : Nat} {v : Value} {l : List UInt8} (h : By w B v l) : (convert 25 9 v).run Try.prog w = .ok (.string (bst l)) w := by
  obtain ⟨A, c, rfl, _, _, hr⟩ := h
  rw [run_convert_bytes_string w _ _ 5 A l.length c Try.underlying25 Try.underlying5 Try.underlying9]
  cases A with
  | none =>
    have h0 : l.length = 0 := by
      rcases Nat.eq_zero_or_pos l.length with h | h
      · exact h
      · obtain ⟨_, h, _⟩ := hr.ad h; cases h
    have hl : l = [] := List.eq_nil_of_length_eq_zero h0
    subst hl
    rfl
  | some ad =>
    have hc : ∀ j u, (b8s l)[j]? = some u → w.cell? (ad.add j) = some u := by
      intro j u hu
      rcases Nat.eq_zero_or_pos l.length with h | h
      · have hl : l = [] := List.eq_nil_of_length_eq_zero h
        subst hl
        simp [b8s] at hu
      · obtain ⟨ad', e, _, hc⟩ := hr.ad h
        injection e with e
        subst e
        exact hc j u hu
    have hl := run_loadCells_list (P := Try.prog) w ad (b8s l) hc
    rw [b8s_length] at hl
    have hm : b8s l = (l.map fun b => (b.toNat : Int)).map (Value.int .u8) := by simp [b8s, b8]
    rw [hm] at hl
    rw [run_bytesToString w ad l.length c (l.map fun b => (b.toNat : Int)) hl, foldl_push8]
    simp [bst, ByteArray.empty, ByteArray.emptyWithCapacity]
    rfl
theorem bst_eq (a b : List UInt8) : ((bst a).toList == (bst b).toList) = decide (a = b) := by rw [bst_toList, bst_toList, Bool.eq_iff_iff]; simp

theorem eqnil (t e : TypeId) (h : Try.prog.underlying t = some (.slice e)) (w : World) (A : Option Addr) (n c : Nat) : (binOp .eql t (.slice A n c) (.slice none 0 0)).run Try.prog w = .ok (.bool A.isNone) w := Lib.run_eql_slice_nil w t e A n c 0 0 h

set_option maxHeartbeats 400000 in
/-- slices.Clone at bytes: the same bytes in memory of one's own -/
theorem clone8 (w : World) (v : Value) (l : List UInt8) (hby : By w w.heap.size v l) (hsz : l.length ≤ 140737488355328) :
    Calls Try.prog 92 #[v] w fun e w' => ∃ v', e = .returned v' ∧ Ow w' w.heap.size v' l ∧ Below w.heap.size w w' := by
  have hby2 := hby.alloc (Nat.le_refl _) (.cells #[] 5)
  obtain ⟨A, c, rfl, hc1, hc2, hrd⟩ := hby
  have hn := eqnil 25 5 Try.underlying25
  cases A with
  | none =>
    have h0 : l.length = 0 := by
      rcases Nat.eq_zero_or_pos l.length with h | h
      · exact h
      · obtain ⟨_, h, _⟩ := hrd.ad h; cases h
    have hl : l = [] := List.eq_nil_of_length_eq_zero h0
    subst hl
    go_enter Try.func92, Try.ntmps92
    go_wp2
    go_ret
    exact ⟨_, rfl, Ow.nil_ _ _, Below.refl _ _⟩
  | some ad =>
    go_enter Try.func92, Try.ntmps92
    go_wp2_with (first
      | (at_builtin
         refine wpList_app8 rfl (.tmp 5) (.tmp 6) rfl (Ow.new_ w [] (Nat.zero_le _)) hby2 rfl rfl (by simpa using hsz) (by simp) ?_
         intro v1 w1 hown1 hext1))
    go_ret
    exact ⟨_, rfl, by simpa using hown1, ((Below.refl _ _).alloc (Nat.le_refl _) _).trans (hext1.below (by simp) (by simp [Value.ownBlock]))⟩

/-! ### reading and writing an own row -/
section
variable {w : World} {base g n cap : Nat} {l : List UInt8} {v : Value}
theorem Ow.cellAt (h : Ow w base (.slice (some ⟨g, 0, none⟩) n cap) l) (hn : n = l.length) (j : Nat) (hj : j < l.length) : w.cell? ⟨g, j, none⟩ = some (.int .u8 ((l[j]).toNat : Int)) := by
  subst hn
  rw [World.ownsRow.cellAt h j (by simpa using hj), b8s_get l j hj]
theorem Ow.cell_ (h : Ow w base (.slice (some ⟨g, 0, none⟩) n cap) l) (hn : n = l.length) (j : Nat) (b : UInt8) (hb : l[j]? = some b) : w.cell? ⟨g, j, none⟩ = some (.int .u8 (b.toNat : Int)) := by
  obtain ⟨hj, e⟩ := List.getElem?_eq_some_iff.1 hb
  rw [h.cellAt hn j hj, e]
theorem Ow.frozenAt (h : Ow w base (.slice (some ⟨g, 0, none⟩) n cap) l) (hn : n = l.length) (j : Nat) : w.frozen? ⟨g, j, none⟩ = false := by
  subst hn
  exact World.ownsRow.frozenAt h j
theorem Ow.put_ (h : Ow w base (.slice (some ⟨g, 0, none⟩) n cap) l) (hn : n = l.length) (j : Nat) (b : UInt8) :
    Ow (w.setCell ⟨g, j, none⟩ (.int .u8 (b.toNat : Int))) base (.slice (some ⟨g, 0, none⟩) n cap) (l.set j b) := by
  subst hn
  have := (World.ownsRow.stored h j (b8 b)).1
  unfold Ow
  rw [List.length_set, show b8s (l.set j b) = (b8s l).set j (b8 b) from by simp [b8s, List.map_set]]
  exact this
theorem Ow.drew (h : Ow w base v l) : Ow w.drew base v l := h
end

theorem Ow.form_ {w : World} {base : Nat} {v : Value} {l : List UInt8} (h : Ow w base v l) :
    ∃ A cap, v = .slice A l.length cap ∧ l.length ≤ cap ∧ cap ≤ maxLen ∧ (0 < l.length → ∃ g, A = some ⟨g, 0, none⟩ ∧ base ≤ g ∧ g < w.heap.size) := by
  rcases Nat.eq_zero_or_pos l.length with h0 | h0
  · obtain ⟨A, c, rfl, h1, h2, _⟩ := h.by_
    exact ⟨A, c, rfl, h1, h2, fun h => by omega⟩
  · obtain ⟨g, cap, rfl, h1, h2, h3, h4⟩ := h.form (fun e => by subst e; simp at h0)
    exact ⟨_, cap, rfl, h1, h2, fun _ => ⟨g, rfl, h3, h4⟩⟩

/-! ### cuts -/
theorem By.front_ {w : World} {B : Nat} {A : Option Addr} {n c : Nat} {l : List UInt8} (h : By w B (.slice A n c) l) {k : Nat} (hk : k ≤ l.length) : By w B (.slice A k c) (l.take k) := by
  obtain ⟨A', c', e, h1, h2, hr⟩ := h
  injection e with e1 e2 e3
  subst e1; subst e2; subst e3
  refine ⟨A, c, by simp [hk], by simp; omega, h2, ?_⟩
  have := hr.front hk
  simpa [b8s, List.map_take, hk] using this
theorem By.back_ {w : World} {B : Nat} {A : Option Addr} {n c : Nat} {l : List UInt8} (h : By w B (.slice A n c) l) {k : Nat} (hk : k ≤ l.length) :
    By w B (.slice (if c = k then A else A.map (·.add k)) (l.length - k) (c - k)) (l.drop k) := by
  obtain ⟨A', c', e, h1, h2, hr⟩ := h
  injection e with e1 e2 e3
  subst e1; subst e2; subst e3
  refine ⟨if c = k then A else A.map (·.add k), c - k, by simp, by simp; omega, by omega, ?_⟩
  have := hr.cut hk h1
  simpa [b8s, List.map_drop] using this
theorem By.len_ {w : World} {B : Nat} {A : Option Addr} {n c : Nat} {l : List UInt8} (h : By w B (.slice A n c) l) : n = l.length ∧ l.length ≤ c ∧ c ≤ maxLen := by
  obtain ⟨A', c', e, h1, h2, hr⟩ := h
  injection e with e1 e2 e3
  exact ⟨e2, by omega, by omega⟩

/-! ### what a law's frame tells of a slice of bytes that came in -/
theorem u8_of_wf {n : Int} (h : (Lit.int .u8 n).wf = true) : ∃ b : UInt8, n = (b.toNat : Int) := by
  have hb : 0 ≤ n ∧ n ≤ 255 := by
    simp [Lit.wf, IntKind.min, IntKind.max, IntKind.bits, IntKind.signed] at h
    omega
  refine ⟨UInt8.ofNat n.toNat, ?_⟩
  rw [UInt8.toNat_ofNat']
  omega
theorem u32_of_wf {n : Int} (h : (Lit.int .u32 n).wf = true) : ∃ b : UInt32, n = (b.toNat : Int) := by
  have hb : 0 ≤ n ∧ n ≤ 4294967295 := by
    simp [Lit.wf, IntKind.min, IntKind.max, IntKind.bits, IntKind.signed] at h
    omega
  refine ⟨UInt32.ofNat n.toNat, ?_⟩
  rw [UInt32.toNat_ofNat']
  omega
theorem u64_of_wf {n : Int} (h : (Lit.int .u64 n).wf = true) : ∃ b : UInt64, n = (b.toNat : Int) := by
  have hb : 0 ≤ n ∧ n ≤ 18446744073709551615 := by
    simp [Lit.wf, IntKind.min, IntKind.max, IntKind.bits, IntKind.signed] at h
    omega
  refine ⟨UInt64.ofNat n.toNat, ?_⟩
  rw [UInt64.toNat_ofNat']
  omega
theorem i64_of_wf {n : Int} (h : (Lit.int .i64 n).wf = true) : -9223372036854775808 ≤ n ∧ n ≤ 9223372036854775807 := by
  simp [Lit.wf, IntKind.min, IntKind.max, IntKind.bits, IntKind.signed] at h
  omega
theorem by_of_row {w : World} {a : Option Addr} {len cap : Nat} {zs : List Int}
    (h : (a = none ∧ len = 0 ∧ cap = 0 ∧ zs = []) ∨
      ∃ x, a = some x ∧ len ≤ cap ∧ cap ≤ maxLen ∧ zs.length = cap ∧ (∀ i, i < zs.length → w.cell? (x.add i) = some (.int .u8 (zs.getD i 0))) ∧ ∀ n ∈ zs, (Lit.int .u8 n).wf = true) :
    ∃ l : List UInt8, l.length = len ∧ By w w.heap.size (.slice a len cap) l := by
  rcases h with ⟨rfl, rfl, rfl, rfl⟩ | ⟨x, rfl, hlc, hcm, hz, hcell, hwf⟩
  · exact ⟨[], rfl, By.nil_⟩
  · refine ⟨(zs.take len).map fun n => UInt8.ofNat n.toNat, by simp; omega, some x, cap, by simp; omega, by simp; omega, hcm, ?_⟩
    refine ⟨by simp [b8s], fun hn => ⟨x, rfl, ?_, ?_⟩⟩
    · have h0 := hcell 0 (by simp at hn; omega)
      have := World.block_lt_of_cell? w (x.add 0) h0
      rwa [add_block] at this
    · intro j u hu
      simp only [b8s, List.map_map, List.getElem?_map, List.getElem?_take] at hu
      by_cases hj : j < len
      · rw [if_pos hj] at hu
        have hjz : j < zs.length := by omega
        rw [List.getElem?_eq_getElem hjz] at hu
        simp only [Option.map_some, Option.some.injEq] at hu
        rw [hcell j hjz, ← hu]
        have hd : zs.getD j 0 = zs[j] := by simp [hjz]
        rw [hd]
        obtain ⟨b, hb⟩ := u8_of_wf (hwf _ (List.getElem_mem hjz))
        rw [hb]
        simp [b8]
      · rw [if_neg hj] at hu
        simp at hu
end Go.Proofs.Ythfnikdapknohaa

namespace Go.Proofs.Ythfnikdapknohaa
set_option linter.unusedSimpArgs false
set_option linter.unusedVariables false
open Go.RowKit

/-- how a thing lies in cells; S: the blocks in which what it leads to may be -/
structure Cdc (α : Type) where
  n : Nat
  at_ : World → (Nat → Prop) → List Value → α → Prop
  len : ∀ {w S cs x}, at_ w S cs x → cs.length = n
  one : ∀ {w S cs x}, at_ w S cs x → ∀ u ∈ cs, u.oneCell' = true
  keep : ∀ {w w' S cs x}, at_ w S cs x → (∀ p : Addr, S p.block → w'.cell? p = w.cell? p) → at_ w' S cs x
  mono : ∀ {w S S' cs x}, at_ w S cs x → (∀ k, S k → S' k) → at_ w S' cs x

/-- a thing without pointers -/
def Cdc.flat {α : Type} (n : Nat) (enc : α → List Value) (ok : α → Prop) (hl : ∀ x, (enc x).length = n) (h1 : ∀ x, ∀ u ∈ enc x, u.oneCell' = true) : Cdc α where
  n := n
  at_ := fun _ _ cs x => cs = enc x ∧ ok x
  len := fun h => by rw [h.1]; exact hl _
  one := fun h => by rw [h.1]; exact h1 _
  keep := fun h _ => h
  mono := fun h _ => h

/-- the slice value v reads as xs: its row in a block of O, what the elements lead to in blocks of S -/
def RowOn {α : Type} (C : Cdc α) (w : World) (O S : Nat → Prop) (v : Value) (xs : List α) : Prop :=
  ∃ A c, v = .slice A xs.length c ∧ xs.length ≤ c ∧ c ≤ maxLen ∧ (0 < xs.length → ∃ ad, A = some ad ∧ O ad.block ∧
    ∀ (i : Nat) (x : α), xs[i]? = some x → ∃ cs, C.at_ w S cs x ∧ ∀ (j : Nat) (u : Value), cs[j]? = some u → w.cell? (ad.add (i * C.n + j)) = some u)

section
variable {α β : Type} {C : Cdc α} {w w' : World} {O O' S S' : Nat → Prop} {v : Value} {xs : List α}
theorem RowOn.keep (h : RowOn C w O S v xs) (hO : ∀ p : Addr, O p.block → w'.cell? p = w.cell? p) (hS : ∀ p : Addr, S p.block → w'.cell? p = w.cell? p) : RowOn C w' O S v xs := by
  obtain ⟨A, c, h1, h2, h3, h4⟩ := h
  refine ⟨A, c, h1, h2, h3, fun hn => ?_⟩
  obtain ⟨ad, e, hb, hc⟩ := h4 hn
  refine ⟨ad, e, hb, fun i x hx => ?_⟩
  obtain ⟨cs, ha, hcs⟩ := hc i x hx
  exact ⟨cs, C.keep ha hS, fun j u hu => (hO _ (by rw [add_block]; exact hb)).trans (hcs j u hu)⟩
theorem RowOn.mono (h : RowOn C w O S v xs) (hO : ∀ k, O k → O' k) (hS : ∀ k, S k → S' k) : RowOn C w O' S' v xs := by
  obtain ⟨A, c, h1, h2, h3, h4⟩ := h
  refine ⟨A, c, h1, h2, h3, fun hn => ?_⟩
  obtain ⟨ad, e, hb, hc⟩ := h4 hn
  refine ⟨ad, e, hO _ hb, fun i x hx => ?_⟩
  obtain ⟨cs, ha, hcs⟩ := hc i x hx
  exact ⟨cs, C.mono ha hS, hcs⟩
theorem RowOn.nil_ : RowOn C w O S (.slice none 0 0) [] := ⟨none, 0, rfl, Nat.le_refl _, Nat.zero_le _, fun h => absurd h (by simp)⟩
theorem RowOn.form (h : RowOn C w O S v xs) : ∃ A c, v = .slice A xs.length c ∧ xs.length ≤ c ∧ c ≤ maxLen := by
  obtain ⟨A, c, h1, h2, h3, _⟩ := h
  exact ⟨A, c, h1, h2, h3⟩
theorem RowOn.len_ {A : Option Addr} {n c : Nat} (h : RowOn C w O S (.slice A n c) xs) : n = xs.length ∧ xs.length ≤ c ∧ c ≤ maxLen := by
  obtain ⟨A', c', e, h1, h2, _⟩ := h
  injection e with e1 e2 e3
  subst e3
  exact ⟨e2, h1, h2⟩
/-- the cells of one element -/
theorem RowOn.at_ {A : Option Addr} {n c : Nat} (h : RowOn C w O S (.slice A n c) xs) (i : Nat) (x : α) (hx : xs[i]? = some x) :
    ∃ ad cs, A = some ad ∧ O ad.block ∧ C.at_ w S cs x ∧ ∀ (j : Nat) (u : Value), cs[j]? = some u → w.cell? (ad.add (i * C.n + j)) = some u := by
  obtain ⟨A', c', e, h1, h2, h3⟩ := h
  injection e with e1 e2 e3
  subst e1
  obtain ⟨ad, ea, hb, hc⟩ := h3 (by have := (List.getElem?_eq_some_iff.1 hx).1; omega)
  obtain ⟨cs, ha, hcs⟩ := hc i x hx
  exact ⟨ad, cs, ea, hb, ha, hcs⟩
theorem RowOn.front {A : Option Addr} {n c : Nat} (h : RowOn C w O S (.slice A n c) xs) {k : Nat} (hk : k ≤ xs.length) : RowOn C w O S (.slice A k c) (xs.take k) := by
  obtain ⟨A', c', e, h1, h2, h3⟩ := h
  injection e with e1 e2 e3
  subst e1; subst e3
  refine ⟨A, c, by simp [hk], by simp; omega, h2, fun hn => ?_⟩
  obtain ⟨ad, ea, hb, hc⟩ := h3 (by simp at hn; omega)
  refine ⟨ad, ea, hb, fun i x hx => hc i x ?_⟩
  rw [List.getElem?_take] at hx
  split at hx
  · exact hx
  · cases hx
theorem RowOn.back {A : Option Addr} {n c : Nat} (h : RowOn C w O S (.slice A n c) xs) {k : Nat} (hk : k ≤ xs.length) :
    RowOn C w O S (.slice (if c = k then A else A.map (·.add (k * C.n))) (xs.length - k) (c - k)) (xs.drop k) := by
  obtain ⟨A', c', e, h1, h2, h3⟩ := h
  injection e with e1 e2 e3
  subst e1; subst e3
  refine ⟨if c = k then A else A.map (·.add (k * C.n)), c - k, by simp, by simp; omega, by omega, fun hn => ?_⟩
  simp only [List.length_drop] at hn
  obtain ⟨ad, rfl, hb, hc⟩ := h3 (by omega)
  rw [if_neg (by omega)]
  refine ⟨ad.add (k * C.n), rfl, by rw [add_block]; exact hb, fun i x hx => ?_⟩
  rw [List.getElem?_drop] at hx
  obtain ⟨cs, ha, hcs⟩ := hc _ x hx
  refine ⟨cs, ha, fun j u hu => ?_⟩
  rw [add_add, ← hcs j u hu]
  congr 2
  rw [Nat.add_mul, Nat.add_assoc]

/-- a slice as a thing of one cell -/
def Cdc.row (C : Cdc α) : Cdc (List α) where
  n := 1
  at_ := fun w S cs xs => ∃ v, cs = [v] ∧ RowOn C w S S v xs
  len := fun h => by obtain ⟨v, rfl, _⟩ := h; rfl
  one := fun h => by obtain ⟨v, rfl, h⟩ := h; obtain ⟨A, c, rfl, _⟩ := h; intro u hu; simp at hu; subst hu; rfl
  keep := fun h hk => by obtain ⟨v, e, h⟩ := h; exact ⟨v, e, h.keep hk hk⟩
  mono := fun h hk => by obtain ⟨v, e, h⟩ := h; exact ⟨v, e, h.mono hk hk⟩
/-- one thing behind another -/
def Cdc.pair (C : Cdc α) (D : Cdc β) : Cdc (α × β) where
  n := C.n + D.n
  at_ := fun w S cs x => ∃ c1 c2, cs = c1 ++ c2 ∧ C.at_ w S c1 x.1 ∧ D.at_ w S c2 x.2
  len := fun h => by obtain ⟨c1, c2, rfl, h1, h2⟩ := h; simp [C.len h1, D.len h2]
  one := fun h => by
    obtain ⟨c1, c2, rfl, h1, h2⟩ := h
    intro u hu
    rcases List.mem_append.1 hu with hu | hu
    · exact C.one h1 u hu
    · exact D.one h2 u hu
  keep := fun h hk => by obtain ⟨c1, c2, e, h1, h2⟩ := h; exact ⟨c1, c2, e, C.keep h1 hk, D.keep h2 hk⟩
  mono := fun h hk => by obtain ⟨c1, c2, e, h1, h2⟩ := h; exact ⟨c1, c2, e, C.mono h1 hk, D.mono h2 hk⟩
/-- the same, read as another type -/
def Cdc.map (C : Cdc α) (f : β → α) : Cdc β where
  n := C.n
  at_ := fun w S cs x => C.at_ w S cs (f x)
  len := fun h => C.len h
  one := fun h => C.one h
  keep := fun h hk => C.keep h hk
  mono := fun h hk => C.mono h hk

end

/-! ### lists of lists of one length -/
theorem flat_get {α : Type} (n : Nat) : ∀ (css : List (List α)) (_ : ∀ cs ∈ css, cs.length = n) (i : Nat) (cs : List α) (j : Nat), css[i]? = some cs → j < n → css.flatten[i * n + j]? = cs[j]?
  | [], _, i, cs, j, h, _ => by simp at h
  | c :: css, hl, 0, cs, j, h, hj => by
    simp at h; subst h
    simp only [Nat.zero_mul, Nat.zero_add, List.flatten_cons]
    rw [List.getElem?_append_left (by rw [hl c (by simp)]; exact hj)]
  | c :: css, hl, i + 1, cs, j, h, hj => by
    have h' : css[i]? = some cs := by simpa using h
    rw [List.flatten_cons, List.getElem?_append_right (by rw [hl c (by simp), Nat.add_mul]; omega), hl c (by simp)]
    rw [show (i + 1) * n + j - n = i * n + j from by rw [Nat.add_mul]; omega]
    exact flat_get n css (fun c hc => hl c (by simp [hc])) i cs j h' hj
theorem flat_len {α : Type} (n : Nat) : ∀ (css : List (List α)) (_ : ∀ cs ∈ css, cs.length = n), css.flatten.length = css.length * n
  | [], _ => by simp
  | c :: css, hl => by
    rw [List.flatten_cons, List.length_append, flat_len n css (fun c hc => hl c (by simp [hc])), hl c (by simp), List.length_cons, Nat.add_mul]; omega

/-! ### rows of the call's own -/
/-- a slice of the call's own (its row in a block from base on), what the elements lead to in blocks of S -/
def OwnR {α : Type} (E : TypeId) (C : Cdc α) (w : World) (base : Nat) (S : Nat → Prop) (v : Value) (xs : List α) : Prop :=
  ∃ css : List (List Value), css.length = xs.length ∧ w.ownsRow base E C.n v xs.length css.flatten ∧
    (∀ (i : Nat) (cs : List Value) (x : α), css[i]? = some cs → xs[i]? = some x → C.at_ w S cs x) ∧ ∀ k, S k → k < w.heap.size ∧ v.ownBlock ≠ some k
/-- the same of things without pointers -/
abbrev OwnF {α : Type} (E : TypeId) (C : Cdc α) (w : World) (base : Nat) (v : Value) (xs : List α) : Prop := OwnR E C w base (fun _ => False) v xs

section
variable {α : Type} {E : TypeId} {C : Cdc α} {w w' : World} {base : Nat} {O S S' : Nat → Prop} {v : Value} {xs : List α}
theorem OwnR.clen {css : List (List Value)} (hl : css.length = xs.length) (h : ∀ (i : Nat) (cs : List Value) (x : α), css[i]? = some cs → xs[i]? = some x → C.at_ w S cs x) : ∀ cs ∈ css, cs.length = C.n := by
  intro cs hcs
  obtain ⟨i, hi, rfl⟩ := List.mem_iff_getElem.1 hcs
  exact C.len (h i _ (xs[i]'(by omega)) (List.getElem?_eq_getElem hi) (List.getElem?_eq_getElem (by omega)))
theorem OwnR.nil_ (hS : ∀ k, S k → k < w.heap.size) : OwnR E C w base S (.slice none 0 0) ([] : List α) :=
  ⟨[], rfl, World.ownsRow_nil _ _ _ _, fun i cs x h => by simp at h, fun k hk => ⟨hS k hk, by simp [Value.ownBlock]⟩⟩
theorem OwnF.nil_ (w : World) (base : Nat) : OwnF E C w base (.slice none 0 0) ([] : List α) := OwnR.nil_ fun _ h => h.elim
theorem OwnR.blk (h : OwnR E C w base S v xs) : ∀ k, v.ownBlock = some k → base ≤ k ∧ k < w.heap.size := by
  obtain ⟨css, _, h, _⟩ := h
  exact World.ownsRow.lt h
theorem OwnR.form (h : OwnR E C w base S v xs) : (v = .slice none 0 0 ∧ xs = []) ∨ ∃ g cap, v = .slice (some ⟨g, 0, none⟩) xs.length cap ∧ xs.length ≤ cap ∧ cap ≤ maxLen ∧ base ≤ g ∧ g < w.heap.size := by
  have hb := h.blk
  obtain ⟨css, hl, ⟨_, h2⟩, _⟩ := h
  rcases h2 with ⟨rfl, hn⟩ | ⟨g, cap, cur, rfl, h3, h4, h5, h6, _⟩
  · exact .inl ⟨rfl, List.eq_nil_of_length_eq_zero hn⟩
  · exact .inr ⟨g, cap, rfl, h5, h6, hb g rfl⟩
theorem OwnR.form' (h : OwnR E C w base S v xs) : ∃ A cap, v = .slice A xs.length cap ∧ xs.length ≤ cap ∧ cap ≤ maxLen ∧ (0 < xs.length → ∃ g, A = some ⟨g, 0, none⟩ ∧ base ≤ g ∧ g < w.heap.size) := by
  rcases h.form with ⟨rfl, rfl⟩ | ⟨g, cap, rfl, h1, h2, h3, h4⟩
  · exact ⟨none, 0, rfl, Nat.le_refl _, Nat.zero_le _, fun h => by simp at h⟩
  · exact ⟨_, cap, rfl, h1, h2, fun _ => ⟨g, rfl, h3, h4⟩⟩
theorem OwnR.keep {row : Option Nat} (h : OwnR E C w base S v xs) (hg : w.grownBy w' row) (hne : v.ownBlock = none ∨ v.ownBlock ≠ row) (hS : ∀ k, S k → row ≠ some k) : OwnR E C w' base S v xs := by
  obtain ⟨css, hl, h2, h3, h4⟩ := h
  exact ⟨css, hl, World.ownsRow.kept h2 hg hne, fun i cs x hc hx => C.keep (h3 i cs x hc hx) fun p hp => World.cell?_of_block (hg.block p.block (h4 _ hp).1 (fun e => hS _ hp e.symm)),
    fun k hk => ⟨Nat.lt_of_lt_of_le (h4 k hk).1 hg.size, (h4 k hk).2⟩⟩
theorem OwnR.below_ (h : OwnR E C w base S v xs) (hb : Below w.heap.size w w') : OwnR E C w' base S v xs :=
  h.keep (row := none) ⟨hb.os, hb.tape, hb.output, hb.size, fun i hi _ => hb.block i hi⟩ (by cases hv : v.ownBlock <;> simp) (fun k _ e => by cases e)
theorem OwnR.alloc (h : OwnR E C w base S v xs) (o : Obj) : OwnR E C (w.alloc o) base S v xs := h.below_ (balloc w o)
theorem OwnR.more {base' : Nat} (h : OwnR E C w base S v xs) (hb : base' ≤ base) : OwnR E C w base' S v xs := by
  obtain ⟨css, hl, ⟨h1, h2⟩, h3, h4⟩ := h
  refine ⟨css, hl, ⟨h1, ?_⟩, h3, h4⟩
  rcases h2 with h2 | ⟨g, cap, cur, e, hg, r⟩
  · exact .inl h2
  · exact .inr ⟨g, cap, cur, e, Nat.le_trans hb hg, r⟩
theorem OwnR.widen (h : OwnR E C w base S v xs) (hS : ∀ k, S k → S' k) (hlt : ∀ k, S' k → k < w.heap.size ∧ v.ownBlock ≠ some k) : OwnR E C w base S' v xs := by
  obtain ⟨css, hl, h2, h3, h4⟩ := h
  exact ⟨css, hl, h2, fun i cs x hc hx => C.mono (h3 i cs x hc hx) hS, hlt⟩
/-- an own row reads -/
theorem OwnR.row (h : OwnR E C w base S v xs) : RowOn C w (fun k => base ≤ k ∧ k < w.heap.size) S v xs := by
  have hb := h.blk
  obtain ⟨css, hl, h2, h3, h4⟩ := h
  have hcl := OwnR.clen hl h3
  have h2' := h2.2
  rcases h2' with ⟨rfl, hn⟩ | ⟨g, cap, cur, rfl, hg1, hg2, hg3, hg4, _⟩
  · have : xs = [] := List.eq_nil_of_length_eq_zero hn
    subst this
    exact RowOn.nil_
  · refine ⟨_, cap, rfl, hg3, hg4, fun hn => ⟨_, rfl, hb g rfl, fun i x hx => ?_⟩⟩
    have hi : i < css.length := by rw [hl]; exact (List.getElem?_eq_some_iff.1 hx).1
    refine ⟨css[i], h3 i _ x (List.getElem?_eq_getElem hi) hx, fun j u hu => ?_⟩
    have hj : j < C.n := by rw [← hcl _ (List.getElem_mem hi)]; exact (List.getElem?_eq_some_iff.1 hu).1
    refine World.ownsRow.cells h2 (g := g) rfl _ u ?_
    rw [flat_get C.n css hcl i _ j (List.getElem?_eq_getElem hi) hj, hu]
theorem OwnR.rowLt (h : OwnR E C w base S v xs) : RowOn C w (fun k => k < w.heap.size) S v xs := h.row.mono (fun _ hk => hk.2) fun _ hk => hk
theorem OwnR.rowAll (h : OwnR E C w base S v xs) : RowOn C w (fun k => k < w.heap.size) (fun k => k < w.heap.size) v xs := by
  have h4 : ∀ k, S k → k < w.heap.size := by obtain ⟨_, _, _, _, h4⟩ := h; exact fun k hk => (h4 k hk).1
  exact h.row.mono (fun _ hk => hk.2) h4
/-- a new row, written out -/
theorem OwnR.new_ (w : World) (css : List (List Value)) (hl : css.length = xs.length) (hm : xs.length ≤ maxLen)
    (h3 : ∀ (i : Nat) (cs : List Value) (x : α), css[i]? = some cs → xs[i]? = some x → C.at_ w S cs x) (hS : ∀ k, S k → k < w.heap.size) :
    OwnR E C (w.alloc (.cells css.flatten.toArray E)) w.heap.size S (.slice (some ⟨w.heap.size, 0, none⟩) xs.length xs.length) xs := by
  have hcl := OwnR.clen hl h3
  have hfl := flat_len C.n css hcl
  refine ⟨css, hl, ⟨by rw [hfl, hl], .inr ⟨w.heap.size, xs.length, _, rfl, Nat.le_refl _, heap_alloc_new w _, Nat.le_refl _, hm, by simp [hfl, hl], ?_⟩⟩, ?_, ?_⟩
  · exact List.take_of_length_le (by simp [hfl, hl])
  · intro i cs x hc hx
    exact C.keep (h3 i cs x hc hx) fun p hp => World.cell?_alloc_lt w _ p (hS _ hp)
  · intro k hk
    have := hS k hk
    refine ⟨by simp; omega, ?_⟩
    simp [Value.ownBlock]; omega

/-- append(s, x...), s the call's own, x any readable row -/
theorem wpList_appR {ops : Array Oper} {rest : List Oper} {o : Oper} {a : Act} {Q : Exit → Act → World → Prop} (hgd : o.guard = none) (s x : Operand) (t : TypeId)
    (ho : o.op = .call { callee := .builtin .append, args := #[s, x], argTypes := #[t, t] })
    (ht : Try.prog.underlying t = some (.slice E)) {z : Value} {bytes : Nat} (hinfo : (Try.prog.info? E).map (fun i => (i.zero, i.size, i.bytes)) = some (some z, C.n, bytes)) (hz2 : z.cells.size = C.n) (hn0 : 0 < C.n) (hb0 : bytes ≤ 256)
    {v2 : Value} {ys : List α} (hown : OwnR E C w base S v xs) (hrd : RowOn C w O S v2 ys) (hs : a.eval s = v) (hx : a.eval x = v2)
    (hsz : xs.length + ys.length ≤ 549755813888) (hbase : base ≤ w.heap.size)
    (h : ∀ v' w', OwnR E C w' base S v' (xs ++ ys) → Ext w w' v v' → wpList Try.prog ops Q rest (a.put o.dst v') w') : wpList Try.prog ops Q (o :: rest) a w := by
  obtain ⟨i, hi, hz0, hz1, hby⟩ := info_parts hinfo
  obtain ⟨css, hl, h2, h3, h4⟩ := hown
  have hcl := OwnR.clen hl h3
  obtain ⟨A, c, rfl, hc1, hc2, hcell⟩ := hrd
  -- the cells of the source
  obtain ⟨dss, hdl, hd3, hdr⟩ : ∃ dss : List (List Value), dss.length = ys.length ∧ (∀ (i : Nat) (cs : List Value) (y : α), dss[i]? = some cs → ys[i]? = some y → C.at_ w S cs y) ∧
      ∃ B, Rd w B C.n A ys.length dss.flatten := by
    rcases Nat.eq_zero_or_pos ys.length with h0 | h0
    · have : ys = [] := List.eq_nil_of_length_eq_zero h0
      subst this
      exact ⟨[], rfl, fun i cs y h => by simp at h, 0, by simp [Rd]⟩
    · obtain ⟨ad, rfl, _, hc⟩ := hcell h0
      have hex : ∀ i : Fin ys.length, ∃ cs, C.at_ w S cs (ys[i.1]'i.2) ∧ ∀ (j : Nat) (u : Value), cs[j]? = some u → w.cell? (ad.add (i.1 * C.n + j)) = some u := fun i => hc i.1 _ (List.getElem?_eq_getElem i.2)
      refine ⟨List.ofFn fun i => (hex i).choose, by simp, ?_, ad.block + 1, ?_⟩
      · intro i cs y hcs hy
        obtain ⟨hi', rfl⟩ := List.getElem?_eq_some_iff.1 hy
        rw [List.getElem?_ofFn, dif_pos hi'] at hcs
        injection hcs with hcs
        rw [← hcs]
        exact (hex ⟨i, hi'⟩).choose_spec.1
      · have hcl2 : ∀ cs ∈ (List.ofFn fun i => (hex i).choose), cs.length = C.n := by
          intro cs hcs
          obtain ⟨i, rfl⟩ := List.mem_ofFn.1 hcs
          exact C.len (hex i).choose_spec.1
        refine ⟨by rw [flat_len C.n _ hcl2]; simp, fun _ => ⟨ad, rfl, Nat.lt_succ_self _, fun j u hu => ?_⟩⟩
        have hj : j < ys.length * C.n := by
          have := (List.getElem?_eq_some_iff.1 hu).1
          rw [flat_len C.n _ hcl2] at this
          simpa using this
        have hi' : j / C.n < ys.length := Nat.div_lt_of_lt_mul (by rw [Nat.mul_comm]; exact hj)
        have hj2 : j % C.n < C.n := Nat.mod_lt _ hn0
        have hdm : j / C.n * C.n + j % C.n = j := by rw [Nat.mul_comm]; exact Nat.div_add_mod j C.n
        have := flat_get C.n _ hcl2 (j / C.n) (hex ⟨j / C.n, hi'⟩).choose (j % C.n) (by rw [List.getElem?_ofFn, dif_pos hi']) hj2
        rw [hdm, hu] at this
        have := (hex ⟨j / C.n, hi'⟩).choose_spec.2 (j % C.n) u this.symm
        rwa [hdm] at this
  obtain ⟨B, hrd⟩ := hdr
  have hcl2 := OwnR.clen hdl hd3
  refine wpList_plain hgd fun K hK => ?_
  obtain ⟨v', w', hr, g2, g3, g5⟩ := run_append_rd (P := Try.prog) w base t o.type E i z C.n bytes ht hi hz0 hz1 hby hz2 hn0 v xs.length css.flatten h2 B A ys.length c dss.flatten hrd (by
      intro u hu
      obtain ⟨cs, hcs, hu⟩ := List.mem_flatten.1 hu
      obtain ⟨i, hi', rfl⟩ := List.mem_iff_getElem.1 hcs
      exact C.one (hd3 i _ (ys[i]'(by omega)) (List.getElem?_eq_getElem hi') (List.getElem?_eq_getElem (by omega))) u hu)
    (by unfold maxLen; omega) (by
      calc (xs.length + ys.length) * bytes ≤ 549755813888 * 256 := Nat.mul_le_mul hsz hb0
        _ ≤ _ := by decide) hbase
  unfold Oper.wp execOp
  simp only [ho, resolve, invoke, builtin, Sem.run_bind, Sem.run_pure, Result.andThen_ok, List.map_toArray, List.map_cons, List.map_nil, hs, hx, hr]
  have hSame : ∀ p : Addr, S p.block → w'.cell? p = w.cell? p := fun p hp => World.cell?_of_block (g3.block p.block (h4 _ hp).1 (fun e => (h4 _ hp).2 e.symm))
  refine hK _ _ (h v' w' ⟨css ++ dss, by simp [hl, hdl], by rw [List.length_append, List.flatten_append]; exact g2, ?_, ?_⟩ ⟨g3, ?_⟩)
  · intro j cs x hc hx'
    refine C.keep ?_ hSame
    rcases Nat.lt_or_ge j xs.length with hj | hj
    · rw [List.getElem?_append_left (by omega)] at hc
      rw [List.getElem?_append_left hj] at hx'
      exact h3 j cs x hc hx'
    · rw [List.getElem?_append_right (by omega)] at hc
      rw [List.getElem?_append_right hj, ← hl] at hx'
      exact hd3 _ cs x hc hx'
  · intro k hk
    refine ⟨Nat.lt_of_lt_of_le (h4 k hk).1 g3.size, ?_⟩
    rcases g5 with g5 | g5
    · rw [g5]; exact (h4 k hk).2
    · rw [g5]; intro e; injection e with e; have := (h4 k hk).1; omega
  · rcases g5 with g5 | g5
    · exact .inl g5
    · exact .inr fun k hk => by rw [g5] at hk; injection hk with hk; omega

/-! ### a block that holds one thing (a struct whose address is taken) -/
/-- block g holds just these cells, of type T -/
def BoxAt (T : TypeId) (w : World) (g : Nat) (cs : List Value) : Prop := w.heap[g]? = some (.cells cs.toArray T (0, 0))
theorem BoxAt.new_ (T : TypeId) (w : World) (cs : List Value) : BoxAt T (w.alloc (.cells cs.toArray T)) w.heap.size cs := heap_alloc_new w _
end
section
variable {T : TypeId} {w w' : World} {g : Nat} {cs : List Value}
theorem BoxAt.lt (h : BoxAt T w g cs) : g < w.heap.size := (Array.getElem?_eq_some_iff.1 h).1
theorem BoxAt.alloc (h : BoxAt T w g cs) (o : Obj) : BoxAt T (w.alloc o) g cs := (heap_alloc_old w o h.lt).trans h
theorem BoxAt.below (h : BoxAt T w g cs) {B : Nat} (hg : g < B) (hb : Below B w w') : BoxAt T w' g cs := (hb.block g hg).trans h
theorem BoxAt.grown {row : Option Nat} (h : BoxAt T w g cs) (hg : w.grownBy w' row) (hne : row ≠ some g) : BoxAt T w' g cs := (hg.block g h.lt (fun e => hne e.symm)).trans h
theorem BoxAt.cell (h : BoxAt T w g cs) (j : Nat) (u : Value) (hu : cs[j]? = some u) : w.cell? { block := g, off := j } = some u := by
  unfold BoxAt at h; simp [World.cell?, h, hu]
theorem BoxAt.frozen (h : BoxAt T w g cs) (j : Nat) : w.frozen? { block := g, off := j } = false := by
  unfold BoxAt at h; simp [World.frozen?, h]
theorem BoxAt.put (h : BoxAt T w g cs) (j : Nat) (u : Value) : BoxAt T (w.setCell { block := g, off := j } u) g (cs.set j u) := by
  unfold BoxAt at h ⊢
  simp [World.setCell, h, Array.getElem?_modify]
theorem BoxAt.other (h : BoxAt T w g cs) (p : Addr) (u : Value) (hne : p.block ≠ g) : BoxAt T (w.setCell p u) g cs := (Below.heap_setCell w p u g (fun e => hne e.symm)).trans h
end
theorem gset (w : World) (p : Addr) (u : Value) : w.grownBy (w.setCell p u) (some p.block) :=
  ⟨rfl, rfl, rfl, by simp [World.setCell], fun k _ hne => Below.heap_setCell w p u k (fun e => hne (by rw [e]))⟩
theorem grefl (w : World) (row : Option Nat) : w.grownBy w row := World.grownBy.refl w row
theorem gtrans {a b c : World} {row : Option Nat} (h : a.grownBy b row) (k : b.grownBy c row) : a.grownBy c row :=
  ⟨k.os.trans h.os, k.tape.trans h.tape, k.output.trans h.output, Nat.le_trans h.size k.size, fun i hi hne => (k.block i (Nat.lt_of_lt_of_le hi h.size) hne).trans (h.block i hi hne)⟩
theorem gbelow {a b : World} (h : Below a.heap.size a b) (row : Option Nat) : a.grownBy b row := ⟨h.os, h.tape, h.output, h.size, fun i hi _ => h.block i hi⟩
/-- new blocks, of which one was written, behind other new blocks -/
theorem gnew {a b c : World} {row row' : Option Nat} (h : a.grownBy b row) (k : b.grownBy c row') (hr : ∀ i, row' = some i → a.heap.size ≤ i ∨ row = some i) : a.grownBy c row :=
  ⟨k.os.trans h.os, k.tape.trans h.tape, k.output.trans h.output, Nat.le_trans h.size k.size, fun i hi hne => (k.block i (Nat.lt_of_lt_of_le hi h.size) (fun e => by
    rcases hr i e.symm with h | h
    · omega
    · exact hne h.symm)).trans (h.block i hi hne)⟩
theorem gofBelow {a b : World} {row : Option Nat} (h : a.grownBy b row) {B : Nat} (hB : B ≤ a.heap.size) (hr : ∀ k, row = some k → B ≤ k) : Below B a b := (Below.refl B a).grown h hB hr

/-! ### whole things loaded and stored -/
theorem isAgg_run {T : TypeId} {d : TypeDesc} (hu : Try.prog.underlying T = some d) (hd : (match d with | .struct _ | .array _ _ => true | _ => false) = true) (w : World) : (isAgg T).run Try.prog w = .ok true w := by
  unfold isAgg
  rw [Sem.run_bind, run_underlying hu w]
  cases d <;> simp_all
theorem run_loadVar_cells (w : World) (a : Addr) (T : TypeId) (cs : List Value) (h : ∀ (j : Nat) (v : Value), cs[j]? = some v → w.cell? (a.add j) = some v) {d : TypeDesc} (hu : Try.prog.underlying T = some d)
    (hd : (match d with | .struct _ | .array _ _ => true | _ => false) = true) (hi : (Try.prog.info? T).map (·.size) = some cs.length) : (loadVar T a).run Try.prog w = .ok (.agg cs.toArray) w := by
  have hl := run_loadCells_list (P := Try.prog) w a cs h
  cases hq : Try.prog.info? T with
  | none => simp [hq] at hi
  | some i =>
    have hs : i.size = cs.length := by simpa [hq] using hi
    simp [loadVar, Sem.run_bind, isAgg_run hu hd w, sizeOf, typeInfo, hq, hs, hl]
/-- a whole thing is loaded out of cells that are known -/
theorem wpList_load_agg {ops : Array Oper} {rest : List Oper} {o : Oper} {a : Act} {w : World} {Q : Exit → Act → World → Prop} (hgd : o.guard = none) (T : TypeId) (x : Operand) (ho : o.op = .load T x)
    (ad : Addr) (hx : a.eval x = .pointer (some ad)) (cs : List Value) (hc : ∀ (j : Nat) (v : Value), cs[j]? = some v → w.cell? (ad.add j) = some v) {d : TypeDesc} (hu : Try.prog.underlying T = some d)
    (hd : (match d with | .struct _ | .array _ _ => true | _ => false) = true) (hi : (Try.prog.info? T).map (·.size) = some cs.length)
    (h : wpList Try.prog ops Q rest (a.put o.dst (.agg cs.toArray)) w) : wpList Try.prog ops Q (o :: rest) a w :=
  wpList_plain hgd fun K hK => by
    unfold Oper.wp execOp
    simp only [ho, hx, Instr.loadAt, Instr.sureAddr, Sem.run_bind, Sem.run_pure, Result.andThen_ok, run_loadVar_cells w ad T cs hc hu hd hi]
    exact hK _ _ h
theorem BoxAt.cells {T : TypeId} {w : World} {g : Nat} {cs : List Value} (h : BoxAt T w g cs) : ∀ (j : Nat) (v : Value), cs[j]? = some v → w.cell? ((⟨g, 0, none⟩ : Addr).add j) = some v := by
  intro j v hv
  have hadd : (⟨g, 0, none⟩ : Addr).add j = ⟨g, j, none⟩ := by unfold Addr.add; split <;> simp_all
  rw [hadd]
  exact h.cell j v hv
theorem BoxAt.setRow {T : TypeId} {w : World} {g : Nat} {cs : List Value} (h : BoxAt T w g cs) (ds : List Value) : BoxAt T (w.setRow g ds.toArray) g ds := setRow_heap _ _ _ _ _ _ h
theorem wpList_store_box {ops : Array Oper} {rest : List Oper} {o : Oper} {a : Act} {w : World} {Q : Exit → Act → World → Prop} (hgd : o.guard = none) (T T' : TypeId) (x y : Operand) (ho : o.op = .store T x y)
    (g : Nat) (cs ds : List Value) (hx : a.eval x = .pointer (some ⟨g, 0, none⟩)) (hy : a.eval y = .agg ds.toArray) (hs : BoxAt T' w g cs) (hl : ds.length = cs.length) (h1 : ∀ u ∈ ds, u.oneCell' = true)
    (hi : (Try.prog.info? T).map (·.size) = some ds.length)
    (h : BoxAt T' (w.setRow g ds.toArray) g ds → wpList Try.prog ops Q rest (a.put o.dst undef) (w.setRow g ds.toArray)) : wpList Try.prog ops Q (o :: rest) a w :=
  wpList_store_row hgd T x y ho g ds.toArray hx hy T' cs.toArray hs (by simpa using hi) (by simpa using hl) (by simpa using h1) (h (hs.setRow ds))
theorem By.empty {w : World} {B : Nat} (A : Option Addr) (c : Nat) (hc : c ≤ maxLen) : By w B (.slice A 0 c) [] := ⟨A, c, rfl, Nat.zero_le _, hc, by simp [b8s], fun h => by simp at h⟩
/-- results: a slot, then a struct that lies in memory -/
theorem results_tc {fn : Func} {p q : Tmp} {T : TypeId} (h : fn.results = #[.tmp q, .cell p T]) (tmps : Array Value) (w : World) (g : Nat) (cs : List Value)
    (hp : tmps.getD p undef = .pointer (some ⟨g, 0, none⟩)) (hs : ∀ (j : Nat) (v : Value), cs[j]? = some v → w.cell? ((⟨g, 0, none⟩ : Addr).add j) = some v) {d : TypeDesc} (hu : Try.prog.underlying T = some d)
    (hd : (match d with | .struct _ | .array _ _ => true | _ => false) = true) (hi : (Try.prog.info? T).map (·.size) = some cs.length) :
    (results fn tmps).run Try.prog w = .ok (.tuple #[tmps.getD q undef, .agg cs.toArray]) w := by
  have hp' : tmps[p]?.getD undef = .pointer (some ⟨g, 0, none⟩) := by simpa using hp
  have hr := run_loadVar_cells w ⟨g, 0, none⟩ T cs hs hu hd hi
  simp [results, h, hp', asAddr, hr]
/-- a result: a struct that lies in memory -/
theorem results_c {fn : Func} {p : Tmp} {T : TypeId} (h : fn.results = #[.cell p T]) (tmps : Array Value) (w : World) (g : Nat) (cs : List Value)
    (hp : tmps.getD p undef = .pointer (some ⟨g, 0, none⟩)) (hs : ∀ (j : Nat) (v : Value), cs[j]? = some v → w.cell? ((⟨g, 0, none⟩ : Addr).add j) = some v) {d : TypeDesc} (hu : Try.prog.underlying T = some d)
    (hd : (match d with | .struct _ | .array _ _ => true | _ => false) = true) (hi : (Try.prog.info? T).map (·.size) = some cs.length) :
    (results fn tmps).run Try.prog w = .ok (.agg cs.toArray) w := by
  have hp' : tmps[p]?.getD undef = .pointer (some ⟨g, 0, none⟩) := by simpa using hp
  have hr := run_loadVar_cells w ⟨g, 0, none⟩ T cs hs hu hd hi
  simp [results, h, hp', asAddr, hr]
theorem gsetRow' (w : World) (g : Nat) (cs : Array Value) : w.grownBy (w.setRow g cs) (some g) :=
  ⟨rfl, rfl, rfl, by simp, fun i _ hne => setRow_other w g i cs (fun e => hne (by rw [e]))⟩
/-- append(s, b), one byte -/
theorem wpList_app1 {ops : Array Oper} {rest : List Oper} {o : Oper} {a : Act} {w : World} {Q : Exit → Act → World → Prop} (hgd : o.guard = none) (s x : Operand)
    (ho : o.op = .call { callee := .builtin .append, args := #[s, x], argTypes := #[25, 25] })
    {base : Nat} {v u : Value} {l : List UInt8} {b : UInt8} (hown : Ow w base v l) (hu : u = b8 b) (hs : a.eval s = v) (hx : a.eval x = .slice (some ⟨w.heap.size, 0, none⟩) 1 1)
    (hsz : l.length ≤ 140737488355327) (hbase : base ≤ w.heap.size)
    (h : ∀ v' w', Ow w' base v' (l ++ [b]) → Ext w w' v v' → wpList Try.prog ops Q rest (a.put o.dst v') w') : wpList Try.prog ops Q (o :: rest) a (w.alloc (.cells #[u] 5)) := by
  subst hu
  exact wpList_app8 hgd s x ho (hown.below_ (balloc w _)) (By.new_ w [b] (by simp [maxLen])) hs hx (by simp; omega) (by simp; omega) fun v' w' h1 h2 => h v' w' h1 (h2.after (balloc w _) v rfl)
/-- append(s, y), one thing -/
theorem wpList_app1R {α : Type} {E : TypeId} {C : Cdc α} {S : Nat → Prop} {ops : Array Oper} {rest : List Oper} {o : Oper} {a : Act} {w : World} {Q : Exit → Act → World → Prop} (hgd : o.guard = none) (s x : Operand) (t : TypeId)
    (ho : o.op = .call { callee := .builtin .append, args := #[s, x], argTypes := #[t, t] })
    (ht : Try.prog.underlying t = some (.slice E)) {z : Value} {bytes : Nat} (hinfo : (Try.prog.info? E).map (fun i => (i.zero, i.size, i.bytes)) = some (some z, C.n, bytes)) (hz2 : z.cells.size = C.n) (hn0 : 0 < C.n) (hb0 : bytes ≤ 256)
    {base : Nat} {v : Value} {xs : List α} {y : α} (cs : List Value) (hown : OwnR E C w base S v xs) (hy : C.at_ w S cs y) (hs : a.eval s = v) (hx : a.eval x = .slice (some ⟨w.heap.size, 0, none⟩) 1 1)
    (hsz : xs.length ≤ 549755813887) (hbase : base ≤ w.heap.size)
    (h : ∀ v' w', OwnR E C w' base S v' (xs ++ [y]) → Ext w w' v v' → wpList Try.prog ops Q rest (a.put o.dst v') w') : wpList Try.prog ops Q (o :: rest) a (w.alloc (.cells cs.toArray E)) := by
  have hS : ∀ k, S k → k < w.heap.size := by obtain ⟨_, _, _, _, h4⟩ := hown; exact fun k hk => (h4 k hk).1
  have hrow : RowOn C (w.alloc (.cells cs.toArray E)) (fun k => k < w.heap.size + 1) S (.slice (some ⟨w.heap.size, 0, none⟩) 1 1) [y] := by
    refine ⟨_, 1, rfl, Nat.le_refl _, by simp [maxLen], fun _ => ⟨_, rfl, Nat.lt_succ_self _, fun i y' hi => ?_⟩⟩
    match i, hi with
    | 0, hi =>
      injection hi with hi
      subst hi
      refine ⟨cs, C.keep hy fun p hp => World.cell?_alloc_lt w _ p (hS _ hp), fun j u hu => ?_⟩
      rw [Nat.zero_mul, Nat.zero_add]
      exact World.news_of_block (heap_alloc_new w _) j u (by simpa using hu)
    | i + 1, hi => simp at hi
  exact wpList_appR hgd s x t ho ht hinfo hz2 hn0 hb0 (hown.alloc _) hrow hs hx (by simp; omega) (by simp; omega) fun v' w' h1 h2 => h v' w' h1 (h2.after (balloc w _) v rfl)
theorem Ow.newAt (w : World) (l : List UInt8) (g n base : Nat) (hg : w.heap.size = g) (hn : l.length = n) (hm : n ≤ maxLen) (hb : base ≤ g) : Ow (w.alloc (.cells (b8s l).toArray 5)) base (.slice (some ⟨g, 0, none⟩) n n) l := by
  subst hg; subst hn
  exact (Ow.new_ w l hm).mono hb
/-- two rows of the call's own that aren't one -/
def Apart (u v : Value) : Prop := ∀ q, u.ownBlock = some q → v.ownBlock ≠ some q
theorem Apart.symm {u v : Value} (h : Apart u v) : Apart v u := fun q hv hu => h q hu hv
theorem Apart.ne {u v : Value} (h : Apart u v) : u.ownBlock = none ∨ u.ownBlock ≠ v.ownBlock := by
  cases hu : u.ownBlock with
  | none => exact .inl rfl
  | some q => exact .inr fun e => h q hu e.symm
/-- an append onto one keeps it apart from another one that lies there -/
theorem Apart.ext {w w' : World} {u v v' : Value} (h : Apart u v) (hx : Ext w w' v v') (hu : ∀ q, u.ownBlock = some q → q < w.heap.size) : Apart u v' := by
  intro q hq e
  rcases hx.at_ with h1 | h1
  · exact h q hq (by rw [← h1]; exact e)
  · have := h1 q e; have := hu q hq; omega
theorem Apart.new_ {w : World} {u v : Value} (hu : ∀ q, u.ownBlock = some q → q < w.heap.size) (hv : ∀ q, v.ownBlock = some q → w.heap.size ≤ q) : Apart u v :=
  fun q hq e => by have := hu q hq; have := hv q e; omega

/-! ### what the walk meets as bytes -/
/-- a byte in one cell -/
def c8 : Cdc UInt8 := Cdc.flat 1 (fun b => [b8 b]) (fun _ => True) (fun _ => rfl) (fun x u hu => by simp at hu; subst hu; rfl)
def c32 : Cdc UInt32 := Cdc.flat 1 (fun b => [.int .u32 (b.toNat : Int)]) (fun _ => True) (fun _ => rfl) (fun x u hu => by simp at hu; subst hu; rfl)
def c64 : Cdc UInt64 := Cdc.flat 1 (fun b => [.int .u64 (b.toNat : Int)]) (fun _ => True) (fun _ => rfl) (fun x u hu => by simp at hu; subst hu; rfl)
def cInt : Cdc Int := Cdc.flat 1 (fun b => [.int .i64 b]) (fun b => -9223372036854775808 ≤ b ∧ b ≤ 9223372036854775807) (fun _ => rfl) (fun x u hu => by simp at hu; subst hu; rfl)
def cBool : Cdc Bool := Cdc.flat 1 (fun b => [.bool b]) (fun _ => True) (fun _ => rfl) (fun x u hu => by simp at hu; subst hu; rfl)
def cStr : Cdc ByteArray := Cdc.flat 1 (fun b => [.string b]) (fun b => b.size ≤ maxLen) (fun _ => rfl) (fun x u hu => by simp at hu; subst hu; rfl)

theorem RowOn.toBy {w : World} {B : Nat} {v : Value} {l : List UInt8} {S : Nat → Prop} (h : RowOn c8 w (fun k => k < B) S v l) : By w B v l := by
  obtain ⟨A, c, h1, h2, h3, h4⟩ := h
  refine ⟨A, c, h1, h2, h3, by simp [b8s_length], fun hn => ?_⟩
  obtain ⟨ad, e, hb, hc⟩ := h4 hn
  refine ⟨ad, e, hb, fun j u hu => ?_⟩
  obtain ⟨hj, he⟩ := List.getElem?_eq_some_iff.1 hu
  rw [b8s_length] at hj
  obtain ⟨cs, ⟨rfl, _⟩, hcs⟩ := hc j _ (List.getElem?_eq_getElem hj)
  have := hcs 0 _ rfl
  simp only [c8, Cdc.flat, Nat.mul_one, Nat.add_zero] at this
  rw [this, ← he]
  simp [b8s]
theorem By.toRow {w : World} {B : Nat} {v : Value} {l : List UInt8} {S : Nat → Prop} (h : By w B v l) : RowOn c8 w (fun k => k < B) S v l := by
  obtain ⟨A, c, h1, h2, h3, h4⟩ := h
  refine ⟨A, c, h1, h2, h3, fun hn => ?_⟩
  obtain ⟨ad, e, hb, hc⟩ := h4.2 hn
  refine ⟨ad, e, hb, fun i x hx => ⟨[b8 x], ⟨rfl, trivial⟩, fun j u hu => ?_⟩⟩
  match j, hu with
  | 0, hu =>
    injection hu with hu
    subst hu
    simp only [c8, Cdc.flat, Nat.mul_one, Nat.add_zero]
    refine hc i _ ?_
    simp [b8s, hx]
  | j + 1, hu => simp at hu
theorem flatten_b8 : ∀ l : List UInt8, (l.map fun b => [b8 b]).flatten = b8s l
  | [] => rfl
  | b :: l => by rw [List.map_cons, List.flatten_cons, flatten_b8 l]; rfl
theorem OwnF.toOw {w : World} {base : Nat} {v : Value} {l : List UInt8} (h : OwnF 5 c8 w base v l) : Ow w base v l := by
  obtain ⟨css, hl, h2, h3, _⟩ := h
  have : css.flatten = b8s l := by
    rw [← flatten_b8]
    congr 1
    refine List.ext_getElem? fun i => ?_
    rcases Nat.lt_or_ge i l.length with hi | hi
    · have := h3 i (css[i]'(by omega)) (l[i]'hi) (List.getElem?_eq_getElem (by omega)) (List.getElem?_eq_getElem hi)
      simp [List.getElem?_eq_getElem (show i < css.length by omega), List.getElem?_eq_getElem hi, this.1]
    · rw [List.getElem?_eq_none (by omega), List.getElem?_eq_none (by simpa using hi)]
  unfold Ow
  rw [← this]
  exact h2
theorem Ow.toOwn {w : World} {base : Nat} {v : Value} {l : List UInt8} (h : Ow w base v l) : OwnF 5 c8 w base v l := by
  refine ⟨l.map fun b => [b8 b], by simp, by rw [flatten_b8]; exact h, fun i cs x hc hx => ?_, fun _ hk => hk.elim⟩
  rw [List.getElem?_map, hx] at hc
  injection hc with hc
  exact ⟨hc.symm, trivial⟩
end Go.Proofs.Ythfnikdapknohaa

namespace Go.Proofs.Ythfnikdapknohaa
set_option linter.unusedSimpArgs false
set_option linter.unusedVariables false
set_option maxRecDepth 100000
open Go.ChangeShapes Go.WideShapes Go.ChangeAt Go.RowKit

/-- these cells read as data of type T -/
def InC (w : World) (T : TypeId) (cs : List Value) : Prop :=
  ∃ (H : Type) (enc : TypeId × Value → H) (n : Nat) (y : DataW H × List MemPlace), DataW.trod enc Try.prog w 0 (fun _ => true) true n T cs = some y

section
variable {w : World} {T e : TypeId} {cs : List Value}
theorem InC.of {H : Type} {enc : TypeId × Value → H} {v : Value} {d : DataW H} {p : List MemPlace} (h : DataW.Trod enc Try.prog w 0 (fun _ => true) true T v d p) : InC w T v.cells.toList := by
  obtain ⟨n, h⟩ := h
  exact ⟨_, enc, n, _, h⟩
theorem InC.int {k : IntKind} (ht : Try.prog.underlying T = some (.int k)) (h : InC w T cs) : ∃ n, cs = [.int k n] ∧ (Lit.int k n).wf = true := by
  obtain ⟨H, enc, m, y, h⟩ := h
  obtain ⟨n, h1, _, h3⟩ := DataW.trod_int ht h
  exact ⟨n, h1, h3⟩
theorem InC.bool (ht : Try.prog.underlying T = some .bool) (h : InC w T cs) : ∃ b, cs = [.bool b] := by
  obtain ⟨H, enc, m, y, h⟩ := h
  obtain ⟨b, h1, _⟩ := DataW.trod_bool ht h
  exact ⟨b, h1⟩
theorem InC.string (ht : Try.prog.underlying T = some .string) (h : InC w T cs) : ∃ s : ByteArray, cs = [.string s] ∧ s.size ≤ maxLen := by
  obtain ⟨H, enc, m, y, h⟩ := h
  obtain ⟨s, h1, _, h3⟩ := DataW.trod_string ht h
  exact ⟨s, h1, h3⟩
theorem InC.struct {fs : Array Field} (ht : Try.prog.underlying T = some (.struct fs)) (h : InC w T cs) :
    cs.length = Try.prog.cellsOf T ∧ ∀ (j : Nat) (f : Field), fs[j]? = some f → InC w f.type ((cs.drop f.offset).take (Try.prog.cellsOf f.type)) := by
  obtain ⟨H, enc, m, y, h⟩ := h
  obtain ⟨xs, n, _, _, hl, hlen, hf⟩ := DataW.trod_struct ht h
  refine ⟨hl, fun j f hj => ?_⟩
  have h1 := hf j f hj
  have hj' : j < fs.size := (Array.getElem?_eq_some_iff.1 hj).1
  exact ⟨H, enc, n, xs[j]'(by omega), by rw [h1]; exact List.getElem?_eq_getElem (by omega)⟩
theorem InC.slice (ht : Try.prog.underlying T = some (.slice e)) (h : InC w T cs) :
    cs = [.slice none 0 0] ∨ ∃ (a : Addr) (len cap : Nat), cs = [.slice (some a) len cap] ∧ len ≤ cap ∧ cap ≤ maxLen ∧
      ∀ i, i < len → ∃ cs', cs'.length = Try.prog.cellsOf e ∧ (∀ j, j < Try.prog.cellsOf e → w.cell? (a.add (i * Try.prog.cellsOf e + j)) = cs'[j]?) ∧ InC w e cs' := by
  obtain ⟨H, enc, m, y, h⟩ := h
  rcases DataW.trod_slice ht h with ⟨h0, _⟩ | ⟨a, len, cap, elems, rest, n, _, rfl, _, _, hl, hm, hlen, hel, _⟩
  · exact .inl h0
  · refine .inr ⟨a, len, cap, rfl, hl, hm, fun i hi => ?_⟩
    have h1 := hel i hi
    rw [List.getElem?_eq_getElem (by omega), Option.bind_eq_some_iff] at h1
    obtain ⟨cs', h2, h3⟩ := h1
    obtain ⟨_, h4, h5⟩ := World.cells?_some h2
    refine ⟨cs', h4, fun j hj => ?_, H, enc, n, _, h3⟩
    rw [← add_add]
    exact h5 j hj
/-- a slice that came in reads as a list -/
theorem InC.row {α : Type} {C : Cdc α} (ht : Try.prog.underlying T = some (.slice e)) (hn : Try.prog.cellsOf e = C.n) (hn0 : 0 < C.n)
    (hel : ∀ cs, InC w e cs → ∃ x, C.at_ w (fun k => k < w.heap.size) cs x) (h : InC w T cs) :
    ∃ v xs, cs = [v] ∧ RowOn C w (fun k => k < w.heap.size) (fun k => k < w.heap.size) v xs := by
  rcases h.slice ht with rfl | ⟨a, len, cap, rfl, hl, hm, hi⟩
  · exact ⟨_, [], rfl, RowOn.nil_⟩
  · rw [hn] at hi
    have hex : ∀ i : Fin len, ∃ (cs : List Value) (x : α), C.at_ w (fun k => k < w.heap.size) cs x ∧ ∀ (j : Nat) (u : Value), cs[j]? = some u → w.cell? (a.add (i.1 * C.n + j)) = some u := by
      intro i
      obtain ⟨cs, h1, h2, h3⟩ := hi i.1 i.2
      obtain ⟨x, hx⟩ := hel cs h3
      refine ⟨cs, x, hx, fun j u hu => ?_⟩
      rw [h2 j (by rw [← h1]; exact (List.getElem?_eq_some_iff.1 hu).1), hu]
    refine ⟨_, List.ofFn fun i => (hex i).choose_spec.choose, rfl, some a, cap, by simp, by simpa using hl, hm, fun hp => ⟨a, rfl, ?_, ?_⟩⟩
    · have hp' : 0 < len := by simpa using hp
      obtain ⟨cs, h1, h2, h3⟩ := hi 0 hp'
      have h4 := h2 0 hn0
      rw [List.getElem?_eq_getElem (by omega)] at h4
      have := World.block_lt_of_cell? w _ h4
      rwa [add_block] at this
    · intro i x hx
      rw [List.getElem?_ofFn] at hx
      split at hx
      · rename_i hi'
        injection hx with hx
        have := (hex ⟨i, hi'⟩).choose_spec.choose_spec
        rw [hx] at this
        exact ⟨_, this.1, this.2⟩
      · cases hx
/-- a struct of one-cell fields: field by field -/
theorem InC.fields {fs : Array Field} (ht : Try.prog.underlying T = some (.struct fs)) (hone : Go.Deep.oneCellFields Try.prog fs = true) (hC : Try.prog.cellsOf T = fs.size) (h : InC w T cs) :
    cs.length = fs.size ∧ ∀ (j : Nat) (f : Field), fs[j]? = some f → ∃ u, cs[j]? = some u ∧ InC w f.type [u] := by
  obtain ⟨hl, hf⟩ := h.struct ht
  rw [hC] at hl
  refine ⟨hl, fun j f hj => ?_⟩
  obtain ⟨ho, hk⟩ := Go.Deep.hone_of hone j f hj
  have h1 := hf j f hj
  have hj' : j < fs.size := (Array.getElem?_eq_some_iff.1 hj).1
  rw [ho, hk] at h1
  refine ⟨cs[j]'(by omega), List.getElem?_eq_getElem (by omega), ?_⟩
  have : (cs.drop j).take 1 = [cs[j]'(by omega)] := by
    rw [List.drop_eq_getElem_cons (by omega)]
    rfl
  rwa [this] at h1
theorem InC.agg {fs : Array Field} {v : Value} {base : Nat} (ht : Try.prog.underlying T = some (.struct fs)) (hv : Value.okWide Try.prog w .any base T v) (h : InC w T v.cells.toList) :
    ∃ cs : List Value, v = .agg cs.toArray ∧ InC w T cs := by
  obtain ⟨cs, rfl, _⟩ := okWide_struct ht hv
  exact ⟨cs.toList, by simp, by simpa [Value.cells] using h⟩
end

section
variable {w : World} {cs : List Value} {S : Nat → Prop} {T : TypeId}
theorem InC.u8 (ht : Try.prog.underlying T = some (.int .u8)) (h : InC w T cs) : ∃ x, c8.at_ w S cs x := by
  obtain ⟨n, rfl, hw⟩ := h.int ht
  obtain ⟨b, rfl⟩ := u8_of_wf hw
  exact ⟨b, rfl, trivial⟩
theorem InC.u32 (ht : Try.prog.underlying T = some (.int .u32)) (h : InC w T cs) : ∃ x, c32.at_ w S cs x := by
  obtain ⟨n, rfl, hw⟩ := h.int ht
  obtain ⟨b, rfl⟩ := u32_of_wf hw
  exact ⟨b, rfl, trivial⟩
theorem InC.u64 (ht : Try.prog.underlying T = some (.int .u64)) (h : InC w T cs) : ∃ x, c64.at_ w S cs x := by
  obtain ⟨n, rfl, hw⟩ := h.int ht
  obtain ⟨b, rfl⟩ := u64_of_wf hw
  exact ⟨b, rfl, trivial⟩
theorem InC.i64 (ht : Try.prog.underlying T = some (.int .i64)) (h : InC w T cs) : ∃ x, cInt.at_ w S cs x := by
  obtain ⟨n, rfl, hw⟩ := h.int ht
  exact ⟨n, rfl, i64_of_wf hw⟩
theorem InC.cbool (ht : Try.prog.underlying T = some .bool) (h : InC w T cs) : ∃ x, cBool.at_ w S cs x := by
  obtain ⟨b, rfl⟩ := h.bool ht
  exact ⟨b, rfl, trivial⟩
theorem InC.cstr (ht : Try.prog.underlying T = some .string) (h : InC w T cs) : ∃ x, cStr.at_ w S cs x := by
  obtain ⟨s, rfl, hs⟩ := h.string ht
  exact ⟨s, rfl, hs⟩
/-- a slice of bytes that came in -/
theorem InC.bytes {v : Value} (h : InC w 25 [v]) : ∃ l, By w w.heap.size v l := by
  obtain ⟨v', xs, e, hr⟩ := h.row (C := c8) Try.underlying25 (by kernel_rfl) (by decide) fun cs hc => hc.u8 Try.underlying5
  injection e with e
  subst e
  exact ⟨xs, hr.toBy⟩
theorem InC.bytes' (h : InC w 25 cs) : ∃ l v, cs = [v] ∧ By w w.heap.size v l := by
  obtain ⟨v', xs, e, hr⟩ := h.row (C := c8) Try.underlying25 (by kernel_rfl) (by decide) fun cs hc => hc.u8 Try.underlying5
  exact ⟨xs, v', e, hr.toBy⟩
end
end Go.Proofs.Ythfnikdapknohaa

namespace Go.Proofs.Ythfnikdapknohaa
set_option linter.unusedSimpArgs false
set_option linter.unusedVariables false
open Go.RowKit

/-- a fact on a value that every later world keeps -/
structure Ph where
  p : Value → World → Prop
  st : ∀ v w w', p v w → Below w.heap.size w w' → p v w'
/-- the value is this one -/
def Ph.is (c : Value) : Ph := ⟨fun v _ => v = c, fun _ _ _ h _ => h⟩
def Ph.any : Ph := ⟨fun _ _ => True, fun _ _ _ h _ => h⟩
instance : Inhabited Ph := ⟨Ph.any⟩
/-- a readable row of bytes -/
def Ph.by_ (l : List UInt8) : Ph := ⟨fun v w => By w w.heap.size v l, fun _ _ _ h hb => h.step hb⟩

/-- what lies in the slot behind the operation -/
def dstVal (d : Option Nat) (v : Value) : Value := match d with | some _ => v | none => undef
@[simp] theorem dstVal_some (d : Nat) (v : Value) : dstVal (some d) v = v := rfl
@[simp] theorem dstVal_none (v : Value) : dstVal none v = undef := rfl
def mildUpon (P : Program) (w : World) (d : Option Nat) (ph : Value → World → Prop) : Result Next → Prop
  | .ok (.value u) w' => Below w.heap.size w w' ∧ ph (dstVal d u) w'
  | .ok .skip w' => Below w.heap.size w w' ∧ ph undef w'
  | .ok (.enter f args) w' => Calls P f args w' (fun e w'' => ∃ v, e = .returned v ∧ Below w.heap.size w w'' ∧ ph (dstVal d v) w'')
  | _ => False

/-- the frame with the slots ds written anew -/
def fills (ds : List Nat) (f : Nat → Value) (a : Act) : Act := ds.foldl (fun a d => a.put (some d) (f d)) a

theorem fills_defers (ds : List Nat) (f : Nat → Value) (a : Act) : (fills ds f a).defers = a.defers := by
  unfold fills
  induction ds generalizing a with
  | nil => rfl
  | cons d ds ih => rw [List.foldl_cons, ih]; rfl
theorem fills_size (ds : List Nat) (f : Nat → Value) (a : Act) : (fills ds f a).tmps.size = a.tmps.size := by
  unfold fills
  induction ds generalizing a with
  | nil => rfl
  | cons d ds ih => rw [List.foldl_cons, ih]; simp [Act.put]
theorem fills_get (ds : List Nat) (f : Nat → Value) (a : Act) (t : Nat) : (fills ds f a).tmps[t]? = if t ∈ ds ∧ t < a.tmps.size then some (f t) else a.tmps[t]? := by
  unfold fills
  induction ds generalizing a with
  | nil => simp
  | cons d ds ih =>
    rw [List.foldl_cons, ih]
    simp only [Act.put, Array.size_setIfInBounds, List.mem_cons]
    by_cases h1 : t ∈ ds ∧ t < a.tmps.size
    · rw [if_pos h1, if_pos ⟨.inr h1.1, h1.2⟩]
    · rw [if_neg h1]
      by_cases h2 : t = d
      · subst h2
        by_cases h3 : t < a.tmps.size
        · rw [if_pos ⟨.inl rfl, h3⟩]; simp [h3]
        · rw [if_neg (fun h => h3 h.2)]; simp [Array.setIfInBounds, h3]
      · rw [if_neg (fun h => by rcases h with ⟨h | h, h'⟩; exact h2 h; exact h1 ⟨h, h'⟩), Array.getElem?_setIfInBounds_ne (Ne.symm h2)]
theorem act_ext {a b : Act} (h1 : ∀ t : Nat, a.tmps[t]? = b.tmps[t]?) (h2 : a.defers = b.defers) : a = b := by
  cases a; cases b
  have : _ = _ := Array.ext_getElem? h1
  simp_all
theorem fills_put (ds : List Nat) (f : Nat → Value) (a : Act) (d : Nat) (v : Value) (hd : d ∈ ds) : (fills ds f a).put (some d) v = fills ds (fun t => if t = d then v else f t) a := by
  refine act_ext (fun t => ?_) ?_
  · rw [fills_get]
    simp only [Act.put]
    by_cases h : t = d
    · subst h
      by_cases h3 : t < a.tmps.size
      · rw [if_pos ⟨hd, h3⟩, Array.getElem?_setIfInBounds_self_of_lt (by rw [fills_size]; exact h3)]; simp
      · rw [if_neg (fun h => h3 h.2)]
        have h4 : ¬ t < (fills ds f a).tmps.size := by rw [fills_size]; exact h3
        simp only [Array.setIfInBounds, h4, dite_false]
        rw [fills_get, if_neg (fun h => h3 h.2)]
    · rw [Array.getElem?_setIfInBounds_ne (Ne.symm h), fills_get, if_neg h]
  · rw [fills_defers]; exact fills_defers ds f a
theorem fills_self (ds : List Nat) (a : Act) : fills ds (fun t => a.tmps.getD t undef) a = a := by
  refine act_ext (fun t => ?_) (fills_defers _ _ _)
  rw [fills_get]
  split
  · rename_i h
    rw [Array.getD_eq_getD_getElem?, Array.getElem?_eq_getElem h.2]; rfl
  · rfl
theorem fills_getD (ds : List Nat) (f : Nat → Value) (a : Act) (d : Nat) (hd : d ∈ ds) (h : d < a.tmps.size) : (fills ds f a).tmps.getD d undef = f d := by
  rw [Array.getD_eq_getD_getElem?, fills_get, if_pos ⟨hd, h⟩]; rfl

/-- the value of operation number j; dl: the slots that the operations write -/
def valOf (dl : List (Option Nat)) (f : Nat → Value) (j : Nat) : Value := match dl[j]? with | some (some d) => f d | _ => undef
def factOf (dl : List (Option Nat)) (Φ : List Ph) (f : Nat → Value) (w : World) (j : Nat) : Prop := (Φ.getD j default).p (valOf dl f j) w
/-- the facts of all that an operation waits for -/
def PreOf (dl : List (Option Nat)) (Φ : List Ph) (f : Nat → Value) (w : World) : List Edge → Prop
  | [] => True
  | e :: es => (if Region.binds .any e then factOf dl Φ f w e.on else True) ∧ PreOf dl Φ f w es
/-- its guard says yes -/
def Gd (dl : List (Option Nat)) (f : Nat → Value) : Option (Nat × Bool) → Prop
  | none => True
  | some (j, want) => valOf dl f j = .bool want
/-- the frame as the operations see it -/
def evalF (ds : List Nat) (f : Nat → Value) (a : Act) : Operand → Value
  | .tmp t => if ds.contains t then f t else a.tmps.getD t undef
  | x => a.eval x
/-- what is to be shown of one operation -/
def Ob1 (P : Program) (dl : List (Option Nat)) (Φ : List Ph) (ds : List Nat) (a : Act) (w : World) (ph : Ph) (o : Oper) : Prop :=
  ∀ f w', Below w.heap.size w w' → PreOf dl Φ f w' o.after.toList →
    (Gd dl f o.guard → mildUpon P w' o.dst ph.p ((execOp (evalF ds f a) o).run P w')) ∧ (¬ Gd dl f o.guard → ph.p undef w')
def ObAll (P : Program) (dl : List (Option Nat)) (Φ : List Ph) (ds : List Nat) (a : Act) (w : World) : List Oper → List Ph → Prop
  | [], _ => True
  | _ :: _, [] => False
  | o :: os, ph :: phs => Ob1 P dl Φ ds a w ph o ∧ ObAll P dl Φ ds a w os phs
def PostOf (f : Nat → Value) (w : World) : List (Option Nat) → List Ph → Prop
  | [], _ => True
  | _ :: _, [] => True
  | d :: os, ph :: phs => ph.p (match d with | some d => f d | none => undef) w ∧ PostOf f w os phs

theorem evalF_fills {ds : List Nat} {a : Act} (f : Nat → Value) (h : ∀ d ∈ ds, d < a.tmps.size) : (fills ds f a).eval = evalF ds f a := by
  funext x
  cases x with
  | tmp t =>
    simp only [Act.eval, evalF]
    rw [Array.getD_eq_getD_getElem?, fills_get]
    by_cases ht : t ∈ ds
    · rw [if_pos ⟨ht, h t ht⟩, if_pos (by simpa using ht)]; rfl
    · rw [if_neg (fun h => ht h.1), if_neg (by simpa using ht), Array.getD_eq_getD_getElem?]
  | const v => rfl
  | global g => rfl
  | func g => rfl
theorem yielded_iff (ops : Array Oper) (dl : List (Option Nat)) (hdl : ops.toList.map (·.dst) = dl) (ds : List Nat) (f : Nat → Value) (a : Act) (h : ∀ d ∈ ds, d < a.tmps.size) (hds : ∀ d, some d ∈ dl → d ∈ ds) (g : Option (Nat × Bool)) (o : Oper) (hg : o.guard = g) :
    Region.wanted o (yielded ops (fills ds f a).tmps) = true ↔ Gd dl f g := by
  subst hg
  unfold Region.wanted Gd
  cases hgd : o.guard with
  | none => simp
  | some x =>
    obtain ⟨j, want⟩ := x
    simp only [beq_iff_eq]
    unfold yielded valOf
    have hj : dl[j]? = (ops[j]?).map (fun (o : Oper) => o.dst) := by rw [← hdl]; simp
    rw [hj]
    cases ho : ops[j]? with
    | none => simp [undef]
    | some oj =>
      simp only [Option.map_some, Option.bind_some]
      cases hd : oj.dst with
      | none => simp [undef]
      | some d =>
        have hdd : d ∈ ds := hds d (by
          rw [← hdl]
          exact List.mem_map.2 ⟨oj, by simpa using Array.mem_of_getElem? ho, hd⟩)
        have hv : (fills ds f a).tmps.getD d undef = f d := fills_getD ds f a d hdd (h d hdd)
        have hv2 : (fills ds f a).tmps[d]? = some (f d) := by rw [fills_get, if_pos ⟨hdd, h d hdd⟩]
        simp only [Option.bind_some, hv2]
        cases f d <;> simp

theorem preOf_mk {dl : List (Option Nat)} {Φ : List Ph} {f : Nat → Value} {w : World} : ∀ (es : List Edge), (∀ e ∈ es, Region.binds .any e = true → factOf dl Φ f w e.on) → PreOf dl Φ f w es
  | [], _ => trivial
  | e :: es, h => by
    refine ⟨?_, preOf_mk es fun x hx => h x (List.mem_cons_of_mem _ hx)⟩
    split
    · exact h e (List.mem_cons_self ..) ‹_›
    · trivial
theorem obAll_get {P : Program} {dl : List (Option Nat)} {Φ : List Ph} {ds : List Nat} {a : Act} {w : World} : ∀ (os : List Oper) (phs : List Ph), ObAll P dl Φ ds a w os phs →
    ∀ (i : Nat) (o : Oper), os[i]? = some o → Ob1 P dl Φ ds a w (phs.getD i default) o
  | [], _, _, i, o, h => by simp at h
  | _ :: _, [], h, _, _, _ => h.elim
  | o' :: os, ph :: phs, h, 0, o, ho => by
    simp at ho; subst ho; exact h.1
  | o' :: os, ph :: phs, h, i + 1, o, ho => by
    simp at ho; simpa using obAll_get os phs h.2 i o ho
theorem postOf_mk {f : Nat → Value} {w : World} : ∀ (os : List (Option Nat)) (phs : List Ph),
    (∀ (i : Nat) (d : Option Nat), os[i]? = some d → (phs.getD i default).p (match d with | some d => f d | none => undef) w) → PostOf f w os phs
  | [], _, _ => by simp [PostOf]
  | _ :: _, [], _ => by simp [PostOf]
  | d :: os, ph :: phs, h => ⟨h 0 d rfl, postOf_mk os phs fun i d hd => by simpa using h (i + 1) d (by simpa using hd)⟩

/-- the closed facts on the region: the slots that are written are different ones, in the frame; edges go backward -/
def dstsOf_ (l : List Oper) : List Nat := l.filterMap (·.dst)
def typedB (l : List Oper) (n : Nat) : Bool :=
  decide ((dstsOf_ l).Nodup) && (dstsOf_ l).all (fun d => decide (d < n)) &&
  (l.zipIdx).all (fun x => x.1.after.all fun e => !Region.binds .any e || decide (e.on < x.2)) && Region.noSelect l.toArray

section
variable {P : Program} {l : List Oper} {dl : List (Option Nat)} {ds : List Nat} {Φ : List Ph} {a : Act} {w : World} {Q : Exit → Act → World → Prop}

theorem typed_aux (hdl : l.map (·.dst) = dl) (hn : typedB l a.tmps.size = true) (hob : ObAll P dl Φ (dstsOf_ l) a w l Φ)
    (hQ : ∀ f w', Below w.heap.size w w' → PostOf f w' dl Φ → Q .normal (fills (dstsOf_ l) f a) w') :
    ∀ (fuel : Nat) (listed : Array Bool) (rem : List Nat), rem.length = fuel → listed.size = l.length → rem.Nodup → (∀ i, i ∈ rem ↔ i < l.length ∧ listed.getD i true = false) →
      ∀ f w', Below w.heap.size w w' → (∀ i, i < l.length → listed.getD i false = true → factOf dl Φ f w' i) →
      wpAny P .any l.toArray Q fuel listed (fills (dstsOf_ l) f a) w' := by
  simp only [typedB, Bool.and_eq_true] at hn
  obtain ⟨⟨⟨hnd, hlt⟩, hed⟩, _⟩ := hn
  have hdlg : ∀ i : Nat, dl[i]? = (l[i]?).map (fun (o : Oper) => o.dst) := fun i => by rw [← hdl]; simp
  have hnd := of_decide_eq_true hnd
  have hlt : ∀ d ∈ dstsOf_ l, d < a.tmps.size := fun d hd => of_decide_eq_true (List.all_eq_true.1 hlt d hd)
  have hed : ∀ (i : Nat) (o : Oper), l[i]? = some o → ∀ e ∈ o.after, Region.binds .any e = true → e.on < i := by
    intro i o ho e he hb
    have h1 := List.all_eq_true.1 hed (o, i) (by
      rw [List.mem_zipIdx_iff_getElem?]; exact ho)
    have h2 := (Array.all_eq_true_iff_forall_mem.1 h1) e he
    simpa [hb] using h2
  have hall : ∀ (listed : Array Bool), listed.size = l.length → Region.ready .any l.toArray listed = [] → ∀ i, i < l.length → listed.getD i false = true := by
    intro listed hs hr i
    induction i using Nat.strongRecOn with
    | _ i ih =>
      intro hi
      rcases hc : listed.getD i false with _ | _
      · exfalso
        have hm : i ∈ Region.ready .any l.toArray listed := by
          rw [mem_ready]
          refine ⟨?_, l[i], by simp [hi], fun e he hb => ?_⟩
          · rw [Array.getD_eq_getD_getElem?] at hc ⊢
            rw [Array.getElem?_eq_getElem (by omega)] at hc ⊢
            exact hc
          · have := hed i l[i] (by simp [hi]) e he hb
            exact ih e.on this (by omega)
        rw [hr] at hm
        cases hm
      · rfl
  have hend : ∀ (listed : Array Bool), listed.size = l.length → (∀ i, i < l.length → listed.getD i false = true) → ∀ f w', Below w.heap.size w w' → (∀ i, i < l.length → listed.getD i false = true → factOf dl Φ f w' i) →
      Q .normal (fills (dstsOf_ l) f a) w' := by
    intro listed hs hal f w' hb hf
    refine hQ f w' hb (postOf_mk dl Φ fun i d hd => ?_)
    have hi : i < l.length := by
      have := (List.getElem?_eq_some_iff.1 hd).1
      rw [← hdl] at this
      simpa using this
    have := hf i hi (hal i hi)
    unfold factOf valOf at this
    rw [hd] at this
    cases d <;> exact this
  intro fuel
  induction fuel with
  | zero =>
    intro listed rem hrem hs hnr hmem f w' hb hf
    have hr0 : rem = [] := List.eq_nil_of_length_eq_zero hrem
    have hal : ∀ i, i < l.length → listed.getD i false = true := by
      intro i hi
      rcases hc : listed.getD i false with _ | _
      · exfalso
        have : i ∈ rem := (hmem i).2 ⟨hi, by
          rw [Array.getD_eq_getD_getElem?] at hc ⊢
          rw [Array.getElem?_eq_getElem (by omega)] at hc ⊢
          exact hc⟩
        rw [hr0] at this
        cases this
      · rfl
    refine ⟨?_, hend listed hs hal f w' hb hf⟩
    rw [List.eq_nil_iff_forall_not_mem]
    intro i hi
    have h1 := (mem_ready.1 hi).1
    obtain ⟨_, o, ho, _⟩ := mem_ready.1 hi
    have hil : i < l.length := by
      have := (Array.getElem?_eq_some_iff.1 ho).1
      simpa using this
    have h2 := hal i hil
    rw [Array.getD_eq_getD_getElem?, Array.getElem?_eq_getElem (by omega)] at h1 h2
    simp at h1 h2
    rw [h1] at h2
    cases h2
  | succ fuel ih =>
    intro listed rem hrem hs hnr hmem f w' hb hf
    refine ⟨fun h => hend listed hs (hall listed hs h) f w' hb hf, fun i hi => ?_⟩
    obtain ⟨hun, o, ho, hpre⟩ := mem_ready.1 hi
    have hol : l[i]? = some o := by simpa using ho
    have hil : i < l.length := (List.getElem?_eq_some_iff.1 hol).1
    have hp : PreOf dl Φ f w' o.after.toList := preOf_mk _ fun e he hbd => by
      have he' : e ∈ o.after := by simpa using he
      have hlist := hpre e he' hbd
      exact hf e.on (Nat.lt_trans (hed i o hol e he' hbd) hil) hlist
    have hone := obAll_get l Φ hob i o hol f w' hb hp
    have hgd := yielded_iff l.toArray dl (by simpa using hdl) (dstsOf_ l) f a hlt (fun d hd => by
      rw [← hdl] at hd
      obtain ⟨oo, h1, h2⟩ := List.mem_map.1 hd
      exact List.mem_filterMap.2 ⟨oo, h1, h2⟩) o.guard o rfl
    -- what follows once the value is there
    have hnext : ∀ v w'', Below w'.heap.size w' w'' → (Φ.getD i default).p (dstVal o.dst v) w'' →
        wpAny P .any l.toArray Q fuel (listed.setIfInBounds i true) ((fills (dstsOf_ l) f a).put o.dst v) w'' := by
      intro v w'' hb' hv
      have hrem' : (rem.erase i).length = fuel := by
        have : i ∈ rem := (hmem i).2 ⟨hil, hun⟩
        rw [List.length_erase_of_mem this]; omega
      have hmem' : ∀ k, k ∈ rem.erase i ↔ k < l.length ∧ (listed.setIfInBounds i true).getD k true = false := by
        intro k
        rw [hnr.mem_erase_iff, hmem]
        by_cases hk : k = i
        · subst hk
          simp only [ne_eq, not_true, false_and, false_iff, not_and]
          intro hk
          rw [Array.getD_eq_getD_getElem?, Array.getElem?_setIfInBounds_self_of_lt (by omega)]
          simp
        · rw [getD_set_ne true (Ne.symm hk)]
          simp [hk]
      have hst : ∀ k, k < l.length → k ≠ i → (listed.setIfInBounds i true).getD k false = true → listed.getD k false = true := by
        intro k _ hk h
        rw [getD_set_ne false (Ne.symm hk)] at h
        exact h
      cases hd : o.dst with
      | none =>
        show wpAny P .any l.toArray Q fuel _ (fills (dstsOf_ l) f a) w''
        refine ih _ (rem.erase i) hrem' (by simpa using hs) (hnr.erase i) hmem' f w'' (hb.trans (hb'.mono hb.size)) fun k hk hl => ?_
        by_cases hki : k = i
        · subst hki
          unfold factOf valOf
          rw [hdlg, hol]
          simp only [Option.map_some, hd]
          simpa [hd] using hv
        · exact (Φ.getD k default).st _ _ _ (hf k hk (hst k hk hki hl)) hb'
      | some d =>
        have hdm : d ∈ dstsOf_ l := List.mem_filterMap.2 ⟨o, List.mem_of_getElem? hol, hd⟩
        rw [fills_put _ _ _ _ _ hdm]
        refine ih _ (rem.erase i) hrem' (by simpa using hs) (hnr.erase i) hmem' _ w'' (hb.trans (hb'.mono hb.size)) fun k hk hl => ?_
        by_cases hki : k = i
        · subst hki
          unfold factOf valOf
          rw [hdlg, hol]
          simp only [Option.map_some, hd]
          simpa [hd] using hv
        · have h0 := (Φ.getD k default).st _ _ _ (hf k hk (hst k hk hki hl)) hb'
          unfold factOf
          have hval : valOf dl (fun t => if t = d then v else f t) k = valOf dl f k := by
            unfold valOf
            rw [hdlg]
            cases hok : l[k]? with
            | none => rfl
            | some ok =>
              cases hdk : ok.dst with
              | none => simp [hdk]
              | some dk =>
                simp only [Option.map_some, hdk]
                rw [if_neg]
                intro e
                subst e
                -- two operations with one slot
                have h3 : (dstsOf_ l).Nodup := hnd
                have : ∀ (m : List Oper) (x y : Nat) (ox oy : Oper), (m.filterMap (·.dst)).Nodup → m[x]? = some ox → m[y]? = some oy → ox.dst = some dk → oy.dst = some dk → x = y := by
                  intro m
                  induction m with
                  | nil => intro x y ox oy _ hx; simp at hx
                  | cons q m ihm =>
                    intro x y ox oy hnd hx hy hdx hdy
                    cases x with
                    | zero =>
                      cases y with
                      | zero => rfl
                      | succ y =>
                        exfalso
                        simp at hx hy
                        subst hx
                        simp only [List.filterMap_cons, hdx] at hnd
                        exact (List.nodup_cons.1 hnd).1 (List.mem_filterMap.2 ⟨oy, List.mem_of_getElem? hy, hdy⟩)
                    | succ x =>
                      cases y with
                      | zero =>
                        exfalso
                        simp at hx hy
                        subst hy
                        simp only [List.filterMap_cons, hdy] at hnd
                        exact (List.nodup_cons.1 hnd).1 (List.mem_filterMap.2 ⟨ox, List.mem_of_getElem? hx, hdx⟩)
                      | succ y =>
                        simp at hx hy
                        have : (m.filterMap (·.dst)).Nodup := by
                          simp only [List.filterMap_cons] at hnd
                          cases hq : q.dst with
                          | none => simpa [hq] using hnd
                          | some _ => simp only [hq] at hnd; exact (List.nodup_cons.1 hnd).2
                        rw [ihm x y ox oy this hx hy hdx hdy]
                exact hki (this l k i ok o h3 hok hol hdk hd)
          rw [hval]
          exact h0
    unfold wpOp
    simp only [ho]
    by_cases hw : Region.wanted o (yielded l.toArray (fills (dstsOf_ l) f a).tmps) = true
    · replace hone := hone.1 (hgd.1 hw)
      simp only [hw, if_true]
      left
      unfold Oper.wp
      rw [evalF_fills f hlt]
      generalize (execOp (evalF (dstsOf_ l) f a) o).run P w' = r at *
      cases r with
      | ok n w'' =>
        cases n <;> simp only [mildUpon] at hone <;> simp only [Oper.upon]
        case value u =>
          exact hnext u w'' hone.1 hone.2
        case skip =>
          refine hnext undef w'' hone.1 ?_
          cases o.dst <;> exact hone.2
        case enter f' args =>
          refine hone.mono ?_
          rintro e w3 ⟨v, rfl, hb3, hv⟩
          exact hnext v w3 hb3 hv
      | halt x w'' => simp only [mildUpon] at hone
    · replace hone := hone.2 (fun h => hw (hgd.2 h))
      simp only [hw]
      refine hnext undef w' (Below.refl _ _) ?_
      cases o.dst <;> exact hone

/-- THE LAW: a region that draws its order, by facts on its values. -/
theorem wp_region_typed {id : Nat} (dl : List (Option Nat)) (ds : List Nat) (Φ : List Ph) (hdl : l.map (·.dst) = dl) (hds : dstsOf_ l = ds) (hm : P.follows .mixedOrders = true) (hn : typedB l a.tmps.size = true) (hob : ObAll P dl Φ ds a w l Φ)
    (hQ : ∀ f w', Below w.heap.size w w' → PostOf f w' dl Φ → Q .normal (fills ds f a) w') : (Code.region id l.toArray true).wp P Q a w := by
  subst hds
  refine wp_region_any hm ?_
  have := typed_aux hdl hn hob hQ l.length (Array.replicate l.length false) (List.range l.length) (by simp) (by simp) List.nodup_range (by
    intro i
    simp only [List.mem_range, Array.getD_eq_getD_getElem?]
    constructor
    · intro h; exact ⟨h, by simp [h]⟩
    · exact fun h => h.1) (fun t => a.tmps.getD t undef) { w with drawn := w.drawn + 1 } ((Below.refl _ w).drew) (by
    intro i hi h
    simp [Array.getD_eq_getD_getElem?, hi] at h)
  rw [fills_self] at this
  simpa using this
end

/-! ### one operation -/
section
variable {P : Program} {dl : List (Option Nat)} {ds : List Nat} {Φ : List Ph} {a : Act} {w : World} {ph : Ph} {o : Oper}
/-- its guard, if there is one, says yes by the facts -/
theorem ob_yes (h : ∀ f w', Below w.heap.size w w' → PreOf dl Φ f w' o.after.toList → Gd dl f o.guard ∧ mildUpon P w' o.dst ph.p ((execOp (evalF ds f a) o).run P w')) : Ob1 P dl Φ ds a w ph o :=
  fun f w' hb hp => ⟨fun _ => (h f w' hb hp).2, fun hn => (hn (h f w' hb hp).1).elim⟩
/-- its guard says no by the facts -/
theorem ob_no (h : ∀ f w', Below w.heap.size w w' → PreOf dl Φ f w' o.after.toList → ¬ Gd dl f o.guard ∧ ph.p undef w') : Ob1 P dl Φ ds a w ph o :=
  fun f w' hb hp => ⟨fun hg => ((h f w' hb hp).1 hg).elim, fun _ => (h f w' hb hp).2⟩
/-- a value, the world as it was -/
theorem mild_val {d : Option Nat} {q : Value → World → Prop} {r : Result Next} {w' : World} (u : Value) (hr : r = .ok (.value u) w') (hq : q (dstVal d u) w') : mildUpon P w' d q r := by
  subst hr; exact ⟨Below.refl _ _, hq⟩
theorem mild_call {d : Option Nat} {q : Value → World → Prop} {w' : World} {ρ : Operand → Value} (f : Nat) (args : Array Operand) (ts : Array TypeId) (fn : Func) (hf : P.funcs[f]? = some fn) (hn : (fn.name == "runtime.NumGoroutine") = false) (hb : fn.body.isNone = false)
    {t : TypeId} {pos : String} {af : Array Edge} {g : Option (Nat × Bool)} (hρ : ρ (.func f) = .func (.func f) #[] #[])
    (h : Calls P f (args.map ρ) w' (fun e w'' => ∃ v, e = .returned v ∧ Below w'.heap.size w' w'' ∧ q (dstVal d v) w'')) :
    mildUpon P w' d q ((execOp ρ { dst := d, op := .call { callee := .value (.func f), args := args, argTypes := ts }, type := t, pos := pos, after := af, guard := g }).run P w') := by
  have hr : (execOp ρ { dst := d, op := .call { callee := .value (.func f), args := args, argTypes := ts }, type := t, pos := pos, after := af, guard := g }).run P w' = .ok (.enter f (args.map ρ)) w' := by
    simp [execOp, resolve, hρ, Deferred.ofValue, invoke, callFunc, hf]
    rw [if_neg (by simpa using hn), if_neg (by intro h; simp [h] at hb)]
  rw [hr]
  exact h
end

/-- a value in a new block -/
theorem mild_alloc {P : Program} {d : Option Nat} {q : Value → World → Prop} {r : Result Next} {w' : World} (u : Value) (ob : Obj) (hr : r = .ok (.value u) (w'.alloc ob)) (hq : q (dstVal d u) (w'.alloc ob)) : mildUpon P w' d q r := by
  subst hr; exact ⟨balloc _ _, hq⟩
/-- a row of cells in a block that is known whole -/
def Ph.blk (t : TypeId) (vs : List Value) : Ph :=
  ⟨fun v w => ∃ g, v = .slice (some ⟨g, 0, none⟩) vs.length vs.length ∧ w.heap[g]? = some (.cells vs.toArray t (0, 0)), fun _ w _ ⟨g, h1, h2⟩ hb => ⟨g, h1, (hb.block g (by
    rcases Nat.lt_or_ge g w.heap.size with h | h
    · exact h
    · rw [Array.getElem?_eq_none h] at h2; cases h2)).trans h2⟩⟩
theorem rd_blk {w : World} {g : Nat} {t : TypeId} {vs : List Value} {fr : Nat × Nat} (h : w.heap[g]? = some (.cells vs.toArray t fr)) : Rd w w.heap.size 1 (some ⟨g, 0, none⟩) vs.length vs := by
  refine ⟨by simp, fun _ => ⟨_, rfl, ?_, fun j u hu => World.news_of_block h j u (by simpa using hu)⟩⟩
  rcases Nat.lt_or_ge g w.heap.size with h' | h'
  · exact h'
  · rw [Array.getElem?_eq_none h'] at h; cases h

/-! ### cuts of a slice, at the operation -/
section
variable {P : Program} {w : World} {ρ : Operand → Value} {t e : TypeId} {sz : Nat} {A : Option Addr} {n c : Nat} {d : Option Nat} {ty : TypeId} {pos : String} {af : Array Edge} {g : Option (Nat × Bool)}
theorem run_cut_both (x lo hi : Operand) (kl kh : IntKind) (l h : Nat) (hu : P.underlying t = some (.slice e)) (hs : (P.info? e).map (·.size) = some sz) (hx : ρ x = .slice A n c) (hl : ρ lo = .int kl l) (hh : ρ hi = .int kh h) (h1 : l ≤ h) (h2 : h ≤ c) :
    (execOp ρ { dst := d, op := .slice t x (some lo) (some hi) none, type := ty, pos := pos, after := af, guard := g }).run P w = .ok (.value (.slice (if c = l then A else A.map (·.add (l * sz))) (h - l) (c - l))) w := by
  cases hq : P.info? e with
  | none => simp [hq] at hs
  | some i =>
    have hi : i.size = sz := by simpa [hq] using hs
    have h1' : (l : Int) ≤ (h : Int) := by omega
    have h2' : (h : Int) ≤ (c : Int) := by omega
    simp [execOp, hx, hl, hh, Instr.sliceAt, Instr.slice, run_underlying hu, Instr.sliceBounds, Instr.sliceBound, asIntOf, h1, h2, sizeOf, typeInfo, hq, hi]
theorem run_cut_hi (x hi : Operand) (kh : IntKind) (h : Nat) (hu : P.underlying t = some (.slice e)) (hs : (P.info? e).map (·.size) = some sz) (hx : ρ x = .slice A n c) (hh : ρ hi = .int kh h) (h2 : h ≤ c) :
    (execOp ρ { dst := d, op := .slice t x none (some hi) none, type := ty, pos := pos, after := af, guard := g }).run P w = .ok (.value (.slice A h c)) w := by
  cases hq : P.info? e with
  | none => simp [hq] at hs
  | some i =>
    have h2' : (h : Int) ≤ (c : Int) := by omega
    simp [execOp, hx, hh, Instr.sliceAt, Instr.slice, run_underlying hu, Instr.sliceBounds, Instr.sliceBound, asIntOf, h2, sizeOf, typeInfo, hq, Addr.add]
theorem run_cut_lo (x lo : Operand) (kl : IntKind) (l : Nat) (hu : P.underlying t = some (.slice e)) (hs : (P.info? e).map (·.size) = some sz) (hx : ρ x = .slice A n c) (hl : ρ lo = .int kl l) (h1 : l ≤ n) :
    (execOp ρ { dst := d, op := .slice t x (some lo) none none, type := ty, pos := pos, after := af, guard := g }).run P w = .ok (.value (.slice (if c = l then A else A.map (·.add (l * sz))) (n - l) (c - l))) w := by
  cases hq : P.info? e with
  | none => simp [hq] at hs
  | some i =>
    have hi : i.size = sz := by simpa [hq] using hs
    simp [execOp, hx, hl, Instr.sliceAt, Instr.slice, run_underlying hu, Instr.sliceBounds, Instr.sliceBound, asIntOf, h1, sizeOf, typeInfo, hq, hi]
end
end Go.Proofs.Ythfnikdapknohaa

namespace Go.Proofs.Ythfnikdapknohaa
set_option linter.unusedSimpArgs false
set_option linter.unusedVariables false
open Go.RowKit

def predsOf (o : Oper) : List Nat := o.after.toList.filterMap fun e => if Region.binds .any e then some e.on else none
theorem mem_predsOf {o : Oper} {k : Nat} : k ∈ predsOf o ↔ ∃ e ∈ o.after, Region.binds .any e = true ∧ e.on = k := by
  unfold predsOf
  rw [List.mem_filterMap]
  constructor
  · rintro ⟨e, he, h⟩
    split at h
    · exact ⟨e, by simpa using he, ‹_›, by simpa using h⟩
    · cases h
  · rintro ⟨e, he, hb, rfl⟩
    exact ⟨e, by simpa using he, by rw [if_pos hb]⟩
/-- all that an operation waits for, directly and through others -/
def ancs : List Oper → List (List Nat) → List (List Nat)
  | [], acc => acc
  | o :: os, acc => ancs os (acc ++ [(predsOf o ++ (predsOf o).flatMap fun j => acc.getD j []).eraseDups])
def backB (L : List Oper) : Bool := (L.zipIdx).all (fun x => x.1.after.all fun e => !Region.binds .any e || decide (e.on < x.2))
theorem back_spec {L : List Oper} (h : backB L = true) (i : Nat) (o : Oper) (ho : L[i]? = some o) (e : Edge) (he : e ∈ o.after) (hb : Region.binds .any e = true) : e.on < i := by
  have h1 := List.all_eq_true.1 h (o, i) (by
    rw [List.mem_zipIdx_iff_getElem?]; exact ho)
  have h2 := (Array.all_eq_true_iff_forall_mem.1 h1) e he
  simpa [hb] using h2
def guardB (l : List Oper) : Bool := l.all fun o => match o.guard with | none => true | some (j, _) => decide (j < l.length)
theorem guard_spec {l : List Oper} (h : guardB l = true) {i : Nat} {o : Oper} (ho : l[i]? = some o) (j : Nat) (b : Bool) (hg : o.guard = some (j, b)) : j < l.length := by
  have h1 := List.all_eq_true.1 h o (List.mem_of_getElem? ho)
  rw [hg] at h1
  exact of_decide_eq_true h1
def tailB (l l2 : List Oper) : Bool :=
  backB (l ++ l2) && guardB l && (List.range l2.length).all fun k => (List.range (l.length + k)).all fun j => ((ancs (l ++ l2) []).getD (l.length + k) []).contains j
def Closed (L : List Oper) (listed : Array Bool) : Prop :=
  ∀ (i : Nat) (o : Oper), L[i]? = some o → listed.getD i false = true → ∀ e ∈ o.after, Region.binds .any e = true → listed.getD e.on false = true

theorem ancs_spec {L : List Oper} {S : Nat → Prop} (hcl : ∀ (i : Nat) (o : Oper), L[i]? = some o → S i → ∀ k ∈ predsOf o, S k) : ∀ (os : List Oper) (acc : List (List Nat)) (m : Nat), acc.length = m → (∀ j : Nat, os[j]? = L[m + j]?) →
    (∀ (i : Nat) (o : Oper), L[i]? = some o → (∀ k ∈ predsOf o, S k) → ∀ k ∈ acc.getD i [], S k) →
    ∀ (i : Nat) (o : Oper), L[i]? = some o → (∀ k ∈ predsOf o, S k) → ∀ k ∈ (ancs os acc).getD i [], S k
  | [], acc, m, _, _, hacc => hacc
  | o :: os, acc, m, hm, hos, hacc => by
    unfold ancs
    refine ancs_spec hcl os _ (m + 1) (by simp [hm]) (fun j => by have := hos (j + 1); simpa [Nat.add_assoc, Nat.add_comm 1 j] using this) ?_
    intro i oi hoi hp k hk
    rw [List.getD_eq_getElem?_getD, List.getElem?_append] at hk
    split at hk
    · exact hacc i oi hoi hp k (by rw [List.getD_eq_getElem?_getD]; exact hk)
    · rename_i hge
      by_cases hi : i = acc.length
      · subst hi
        simp only [Nat.sub_self, List.getElem?_cons_zero, Option.getD_some, List.mem_eraseDups, List.mem_append, List.mem_flatMap] at hk
        have ho : oi = o := by
          have := hos 0
          rw [Nat.add_zero, ← hm, hoi] at this
          simpa using this.symm
        subst ho
        rcases hk with hk | ⟨j, hj, hk⟩
        · exact hp k hk
        · have hSj := hp j hj
          rcases Nat.lt_or_ge j acc.length with hjl | hjl
          · cases hoj : L[j]? with
            | none =>
              exfalso
              have h1 := List.getElem?_eq_none_iff.1 hoj
              have h2 := (List.getElem?_eq_some_iff.1 hoi).1
              omega
            | some oj => exact hacc j oj hoj (hcl j oj hoj hSj) k hk
          · rw [List.getD_eq_getElem?_getD, List.getElem?_eq_none hjl] at hk
            simp at hk
      · have : 1 ≤ i - acc.length := by omega
        rw [List.getElem?_eq_none (by simpa using this)] at hk
        simp at hk
theorem tail_anc {l l2 : List Oper} (ht : tailB l l2 = true) (listed : Array Bool) (hcl : Closed (l ++ l2) listed) (i : Nat) (o : Oper) (ho : (l ++ l2)[i]? = some o) (hi : l.length ≤ i)
    (hp : ∀ e ∈ o.after, Region.binds .any e = true → listed.getD e.on false = true) : ∀ k, k < i → listed.getD k false = true := by
  intro k hk
  have hil : i < l.length + l2.length := by
    have := (List.getElem?_eq_some_iff.1 ho).1
    simpa using this
  simp only [tailB, Bool.and_eq_true] at ht
  have h1 := List.all_eq_true.1 ht.2 (i - l.length) (by rw [List.mem_range]; omega)
  have h2 := List.all_eq_true.1 h1 k (by rw [List.mem_range]; omega)
  rw [show l.length + (i - l.length) = i by omega] at h2
  refine ancs_spec (L := l ++ l2) (S := fun k => listed.getD k false = true) (fun i o ho hS k hk => ?_) (l ++ l2) [] 0 rfl (by simp) (by simp) i o ho (fun k hk => ?_) k (by simpa using h2)
  · obtain ⟨e, he, hb, rfl⟩ := mem_predsOf.1 hk
    exact hcl i o ho hS e he hb
  · obtain ⟨e, he, hb, rfl⟩ := mem_predsOf.1 hk
    exact hp e he hb
theorem yielded_iff2 (l l2 : List Oper) (dl : List (Option Nat)) (hdl : l.map (·.dst) = dl) (ds : List Nat) (f : Nat → Value) (a : Act) (h : ∀ d ∈ ds, d < a.tmps.size) (hds : ∀ d, some d ∈ dl → d ∈ ds) (g : Option (Nat × Bool)) (o : Oper) (hg : o.guard = g)
    (hgl : ∀ j b, g = some (j, b) → j < l.length) :
    Region.wanted o (yielded (l ++ l2).toArray (fills ds f a).tmps) = true ↔ Gd dl f g := by
  rw [← yielded_iff l.toArray dl (by simpa using hdl) ds f a h hds g o hg]
  unfold Region.wanted
  subst hg
  cases hgd : o.guard with
  | none => simp
  | some x =>
    obtain ⟨j, want⟩ := x
    have := hgl j want hgd
    simp only [yielded]
    rw [show (l ++ l2).toArray[j]? = l.toArray[j]? from by simp [List.getElem?_append_left this]]
section
variable {P : Program} {l : List Oper} {dl : List (Option Nat)} {Φ : List Ph} {a : Act} {w : World} {Q : Exit → Act → World → Prop}
theorem lex_tail {l2 : List Oper} (hback : backB (l ++ l2) = true) (hanc : ∀ (listed : Array Bool), Closed (l ++ l2) listed → ∀ (i : Nat) (o : Oper), (l ++ l2)[i]? = some o → l.length ≤ i → (∀ e ∈ o.after, Region.binds .any e = true → listed.getD e.on false = true) → ∀ k, k < i → listed.getD k false = true) :
    ∀ (rest : List Oper) (m : Nat) (listed : Array Bool), l.length ≤ m → (∀ j : Nat, rest[j]? = (l ++ l2)[m + j]?) → m + rest.length = (l ++ l2).length → listed.size = (l ++ l2).length → (∀ i, i < m → listed.getD i false = true) →
      (∀ i, m ≤ i → i < (l ++ l2).length → listed.getD i false = false) →
      ∀ {a : Act} {w : World}, wpList P (l ++ l2).toArray Q rest a w → wpAny P .any (l ++ l2).toArray Q rest.length listed a w
  | [], m, listed, hlm, hos, hml, hs, hlow, hhigh, a, w, h => by
    refine ⟨?_, h⟩
    rw [List.eq_nil_iff_forall_not_mem]
    intro i hi
    obtain ⟨h1, o, ho, _⟩ := mem_ready.1 hi
    have hil : i < (l ++ l2).length := by
      have := (Array.getElem?_eq_some_iff.1 ho).1
      simpa using this
    have h2 := hlow i (by simpa [← hml] using hil)
    rw [Array.getD_eq_getD_getElem?, Array.getElem?_eq_getElem (by omega)] at h1 h2
    simp at h1 h2
    rw [h1] at h2
    cases h2
  | o :: rest, m, listed, hlm, hos, hml, hs, hlow, hhigh, a, w, h => by
    have hm0 : (l ++ l2)[m]? = some o := by have := hos 0; simpa using this.symm
    have hmlt : m < (l ++ l2).length := (List.getElem?_eq_some_iff.1 hm0).1
    have hclo : Closed (l ++ l2) listed := by
      intro i oi hoi hl e he hb
      have hil : i < (l ++ l2).length := (List.getElem?_eq_some_iff.1 hoi).1
      have him : i < m := by
        rcases Nat.lt_or_ge i m with h | h
        · exact h
        · rw [hhigh i h hil] at hl; cases hl
      exact hlow e.on (Nat.lt_trans (back_spec hback i oi hoi e he hb) him)
    have hready : m ∈ Region.ready .any (l ++ l2).toArray listed := by
      rw [mem_ready]
      refine ⟨?_, o, by simpa using hm0, fun e he hb => hlow e.on (back_spec hback m o hm0 e he hb)⟩
      have := hhigh m (Nat.le_refl _) hmlt
      rw [Array.getD_eq_getD_getElem?] at this ⊢
      rw [Array.getElem?_eq_getElem (by omega)] at this ⊢
      exact this
    rw [List.length_cons]
    refine ⟨fun h0 => ?_, fun i hi => ?_⟩
    · rw [h0] at hready; cases hready
    · obtain ⟨hun, oi, hoi, hpre⟩ := mem_ready.1 hi
      have hoi' : (l ++ l2)[i]? = some oi := by simpa using hoi
      have hil : i < (l ++ l2).length := (List.getElem?_eq_some_iff.1 hoi').1
      have him : ¬ i < m := by
        intro h1
        have h2 := hlow i h1
        rw [Array.getD_eq_getD_getElem?, Array.getElem?_eq_getElem (by omega)] at h2 hun
        simp at h2 hun
        rw [hun] at h2
        cases h2
      have hi_eq : i = m := by
        rcases Nat.lt_or_ge m i with h1 | h1
        · have h2 := hanc listed hclo i oi hoi' (by omega) hpre m h1
          rw [hhigh m (Nat.le_refl _) hmlt] at h2
          cases h2
        · omega
      subst hi_eq
      rw [hm0] at hoi'
      injection hoi' with hoi'
      subst hoi'
      have hnext : ∀ a' w', wpList P (l ++ l2).toArray Q rest a' w' → wpAny P .any (l ++ l2).toArray Q rest.length (listed.setIfInBounds i true) a' w' := by
        intro a' w' h'
        refine lex_tail hback hanc rest (i + 1) _ (by omega) (fun j => by have := hos (j + 1); simpa [Nat.add_assoc, Nat.add_comm 1 j] using this) (by simp at hml ⊢; omega) (by simpa using hs) ?_ ?_ h'
        · intro k hk
          by_cases hki : k = i
          · rw [hki, Array.getD_eq_getD_getElem?, Array.getElem?_setIfInBounds_self_of_lt (by omega)]; rfl
          · rw [getD_set_ne false (Ne.symm hki)]; exact hlow k (by omega)
        · intro k h1 h2
          rw [getD_set_ne false (by omega)]; exact hhigh k (by omega) h2
      unfold wpOp
      simp only [hoi]
      unfold wpList at h
      split at h
      · rename_i hw
        rw [if_pos hw]
        rcases h with h | h
        · exact .inl (Oper.wp_mono hnext h)
        · exact .inr h
      · rename_i hw
        rw [if_neg hw]
        exact hnext _ _ h
theorem typed_aux2 {l2 : List Oper} (hdl : l.map (·.dst) = dl) (hn : typedB l a.tmps.size = true) (ht : tailB l l2 = true) (hob : ObAll P dl Φ (dstsOf_ l) a w l Φ)
    (hQ : ∀ f w', Below w.heap.size w w' → PostOf f w' dl Φ → wpList P (l ++ l2).toArray Q l2 (fills (dstsOf_ l) f a) w') :
    ∀ (fuel : Nat) (listed : Array Bool) (rem : List Nat), rem.length = fuel → listed.size = (l ++ l2).length → rem.Nodup → (∀ i, i ∈ rem ↔ i < l.length ∧ listed.getD i true = false) →
      (∀ i, l.length ≤ i → i < (l ++ l2).length → listed.getD i false = false) → Closed (l ++ l2) listed →
      ∀ f w', Below w.heap.size w w' → (∀ i, i < l.length → listed.getD i false = true → factOf dl Φ f w' i) →
      wpAny P .any (l ++ l2).toArray Q (fuel + l2.length) listed (fills (dstsOf_ l) f a) w' := by
  simp only [typedB, Bool.and_eq_true] at hn
  obtain ⟨⟨⟨hnd, hlt⟩, hed⟩, _⟩ := hn
  have hdlg : ∀ i : Nat, dl[i]? = (l[i]?).map (fun (o : Oper) => o.dst) := fun i => by rw [← hdl]; simp
  have hnd := of_decide_eq_true hnd
  have hlt : ∀ d ∈ dstsOf_ l, d < a.tmps.size := fun d hd => of_decide_eq_true (List.all_eq_true.1 hlt d hd)
  have hed : ∀ (i : Nat) (o : Oper), l[i]? = some o → ∀ e ∈ o.after, Region.binds .any e = true → e.on < i := by
    intro i o ho e he hb
    have h1 := List.all_eq_true.1 hed (o, i) (by
      rw [List.mem_zipIdx_iff_getElem?]; exact ho)
    have h2 := (Array.all_eq_true_iff_forall_mem.1 h1) e he
    simpa [hb] using h2
  have hanc := tail_anc ht
  have hback : backB (l ++ l2) = true := by simp only [tailB, Bool.and_eq_true] at ht; exact ht.1.1
  have hguard : guardB l = true := by simp only [tailB, Bool.and_eq_true] at ht; exact ht.1.2
  intro fuel
  induction fuel with
  | zero =>
    intro listed rem hrem hs hnr hmem hhi hcl f w' hb hf
    have hr0 : rem = [] := List.eq_nil_of_length_eq_zero hrem
    have hal : ∀ i, i < l.length → listed.getD i false = true := by
      intro i hi
      rcases hc : listed.getD i false with _ | _
      · exfalso
        have : i ∈ rem := (hmem i).2 ⟨hi, by
          rw [Array.getD_eq_getD_getElem?] at hc ⊢
          rw [Array.getElem?_eq_getElem (by rw [hs, List.length_append]; omega)] at hc ⊢
          exact hc⟩
        rw [hr0] at this
        cases this
      · rfl
    rw [Nat.zero_add]
    refine lex_tail (l := l) hback hanc l2 l.length listed (Nat.le_refl _) (fun j => by rw [List.getElem?_append_right (by omega)]; congr 1; omega) (by simp) hs hal hhi ?_
    refine hQ f w' hb (postOf_mk dl Φ fun i d hd => ?_)
    have hi : i < l.length := by
      have := (List.getElem?_eq_some_iff.1 hd).1
      rw [← hdl] at this
      simpa using this
    have := hf i hi (hal i hi)
    unfold factOf valOf at this
    rw [hd] at this
    cases d <;> exact this
  | succ fuel ih =>
    intro listed rem hrem hs hnr hmem hhi hcl f w' hb hf
    rw [show fuel + 1 + l2.length = (fuel + l2.length) + 1 by omega]
    refine ⟨fun h => ?_, fun i hi => ?_⟩
    · exfalso
      -- the least one that has not come up may come up
      have hno : ∀ i, i < l.length → listed.getD i false = true := by
        intro i
        induction i using Nat.strongRecOn with
        | _ i ih =>
          intro hi
          rcases hc : listed.getD i false with _ | _
          · exfalso
            have hm : i ∈ Region.ready .any (l ++ l2).toArray listed := by
              rw [mem_ready]
              refine ⟨?_, l[i], by simp [List.getElem?_append_left hi, hi], fun e he hb => ?_⟩
              · rw [Array.getD_eq_getD_getElem?] at hc ⊢
                rw [Array.getElem?_eq_getElem (by rw [hs, List.length_append]; omega)] at hc ⊢
                exact hc
              · have := hed i l[i] (by simp [hi]) e he hb
                exact ih e.on this (by omega)
            rw [h] at hm
            cases hm
          · rfl
      obtain ⟨k, hk⟩ : ∃ k, k ∈ rem := by
        cases rem with
        | nil => simp at hrem
        | cons x _ => exact ⟨x, List.mem_cons_self ..⟩
      obtain ⟨hk1, hk2⟩ := (hmem k).1 hk
      have h1 := hno k hk1
      rw [Array.getD_eq_getD_getElem?, Array.getElem?_eq_getElem (by rw [hs, List.length_append]; omega)] at h1 hk2
      simp at h1 hk2
      rw [h1] at hk2
      cases hk2
    obtain ⟨hun, o, ho, hpre⟩ := mem_ready.1 hi
    have hil : i < l.length := by
      rcases Nat.lt_or_ge i l.length with h | h
      · exact h
      · exfalso
        have hall := hanc listed hcl i o (by simpa using ho) h hpre
        obtain ⟨k, hk⟩ : ∃ k, k ∈ rem := by
          cases rem with
          | nil => simp at hrem
          | cons x _ => exact ⟨x, List.mem_cons_self ..⟩
        obtain ⟨hk1, hk2⟩ := (hmem k).1 hk
        have h1 := hall k (by omega)
        rw [Array.getD_eq_getD_getElem?, Array.getElem?_eq_getElem (by rw [hs, List.length_append]; omega)] at h1 hk2
        simp at h1 hk2
        rw [h1] at hk2
        cases hk2
    have hol : l[i]? = some o := by
      have h1 : (l ++ l2)[i]? = some o := by simpa using ho
      rwa [List.getElem?_append_left hil] at h1
    have hcl2 : Closed (l ++ l2) (listed.setIfInBounds i true) := by
      intro k ok hok hlk e he hbd
      by_cases hki : k = i
      · subst hki
        have h1 : (l ++ l2)[k]? = some o := by simpa using ho
        rw [h1] at hok
        injection hok with hok
        subst hok
        have h2 := hpre e he hbd
        by_cases hei : e.on = k
        · rw [hei] at h2 ⊢; rw [Array.getD_eq_getD_getElem?, Array.getElem?_setIfInBounds_self_of_lt (by rw [hs, List.length_append]; omega)]; rfl
        · rw [getD_set_ne false (Ne.symm hei)]; exact h2
      · rw [getD_set_ne false (Ne.symm hki)] at hlk
        have h2 := hcl k ok hok hlk e he hbd
        by_cases hei : e.on = i
        · rw [hei, Array.getD_eq_getD_getElem?, Array.getElem?_setIfInBounds_self_of_lt (by rw [hs, List.length_append]; omega)]; rfl
        · rw [getD_set_ne false (Ne.symm hei)]; exact h2
    have hhi2 : ∀ k, l.length ≤ k → k < (l ++ l2).length → (listed.setIfInBounds i true).getD k false = false := by
      intro k h1 h2
      rw [getD_set_ne false (by omega)]
      exact hhi k h1 h2
    have hp : PreOf dl Φ f w' o.after.toList := preOf_mk _ fun e he hbd => by
      have he' : e ∈ o.after := by simpa using he
      have hlist := hpre e he' hbd
      exact hf e.on (Nat.lt_trans (hed i o hol e he' hbd) hil) hlist
    have hone := obAll_get l Φ hob i o hol f w' hb hp
    have hgd := yielded_iff2 l l2 dl hdl (dstsOf_ l) f a hlt (fun d hd => by
      rw [← hdl] at hd
      obtain ⟨oo, h1, h2⟩ := List.mem_map.1 hd
      exact List.mem_filterMap.2 ⟨oo, h1, h2⟩) o.guard o rfl (fun j b hg => guard_spec hguard hol j b hg)
    -- what follows once the value is there
    have hnext : ∀ v w'', Below w'.heap.size w' w'' → (Φ.getD i default).p (dstVal o.dst v) w'' →
        wpAny P .any (l ++ l2).toArray Q (fuel + l2.length) (listed.setIfInBounds i true) ((fills (dstsOf_ l) f a).put o.dst v) w'' := by
      intro v w'' hb' hv
      have hrem' : (rem.erase i).length = fuel := by
        have : i ∈ rem := (hmem i).2 ⟨hil, hun⟩
        rw [List.length_erase_of_mem this]; omega
      have hmem' : ∀ k, k ∈ rem.erase i ↔ k < l.length ∧ (listed.setIfInBounds i true).getD k true = false := by
        intro k
        rw [hnr.mem_erase_iff, hmem]
        by_cases hk : k = i
        · subst hk
          simp only [ne_eq, not_true, false_and, false_iff, not_and]
          intro hk
          rw [Array.getD_eq_getD_getElem?, Array.getElem?_setIfInBounds_self_of_lt (by rw [hs, List.length_append]; omega)]
          simp
        · rw [getD_set_ne true (Ne.symm hk)]
          simp [hk]
      have hst : ∀ k, k < l.length → k ≠ i → (listed.setIfInBounds i true).getD k false = true → listed.getD k false = true := by
        intro k _ hk h
        rw [getD_set_ne false (Ne.symm hk)] at h
        exact h
      cases hd : o.dst with
      | none =>
        show wpAny P .any (l ++ l2).toArray Q (fuel + l2.length) _ (fills (dstsOf_ l) f a) w''
        refine ih _ (rem.erase i) hrem' (by simpa using hs) (hnr.erase i) hmem' hhi2 hcl2 f w'' (hb.trans (hb'.mono hb.size)) fun k hk hl => ?_
        by_cases hki : k = i
        · subst hki
          unfold factOf valOf
          rw [hdlg, hol]
          simp only [Option.map_some, hd]
          simpa [hd] using hv
        · exact (Φ.getD k default).st _ _ _ (hf k hk (hst k hk hki hl)) hb'
      | some d =>
        have hdm : d ∈ dstsOf_ l := List.mem_filterMap.2 ⟨o, List.mem_of_getElem? hol, hd⟩
        rw [fills_put _ _ _ _ _ hdm]
        refine ih _ (rem.erase i) hrem' (by simpa using hs) (hnr.erase i) hmem' hhi2 hcl2 _ w'' (hb.trans (hb'.mono hb.size)) fun k hk hl => ?_
        by_cases hki : k = i
        · subst hki
          unfold factOf valOf
          rw [hdlg, hol]
          simp only [Option.map_some, hd]
          simpa [hd] using hv
        · have h0 := (Φ.getD k default).st _ _ _ (hf k hk (hst k hk hki hl)) hb'
          unfold factOf
          have hval : valOf dl (fun t => if t = d then v else f t) k = valOf dl f k := by
            unfold valOf
            rw [hdlg]
            cases hok : l[k]? with
            | none => rfl
            | some ok =>
              cases hdk : ok.dst with
              | none => simp [hdk]
              | some dk =>
                simp only [Option.map_some, hdk]
                rw [if_neg]
                intro e
                subst e
                -- two operations with one slot
                have h3 : (dstsOf_ l).Nodup := hnd
                have : ∀ (m : List Oper) (x y : Nat) (ox oy : Oper), (m.filterMap (·.dst)).Nodup → m[x]? = some ox → m[y]? = some oy → ox.dst = some dk → oy.dst = some dk → x = y := by
                  intro m
                  induction m with
                  | nil => intro x y ox oy _ hx; simp at hx
                  | cons q m ihm =>
                    intro x y ox oy hnd hx hy hdx hdy
                    cases x with
                    | zero =>
                      cases y with
                      | zero => rfl
                      | succ y =>
                        exfalso
                        simp at hx hy
                        subst hx
                        simp only [List.filterMap_cons, hdx] at hnd
                        exact (List.nodup_cons.1 hnd).1 (List.mem_filterMap.2 ⟨oy, List.mem_of_getElem? hy, hdy⟩)
                    | succ x =>
                      cases y with
                      | zero =>
                        exfalso
                        simp at hx hy
                        subst hy
                        simp only [List.filterMap_cons, hdy] at hnd
                        exact (List.nodup_cons.1 hnd).1 (List.mem_filterMap.2 ⟨ox, List.mem_of_getElem? hx, hdx⟩)
                      | succ y =>
                        simp at hx hy
                        have : (m.filterMap (·.dst)).Nodup := by
                          simp only [List.filterMap_cons] at hnd
                          cases hq : q.dst with
                          | none => simpa [hq] using hnd
                          | some _ => simp only [hq] at hnd; exact (List.nodup_cons.1 hnd).2
                        rw [ihm x y ox oy this hx hy hdx hdy]
                exact hki (this l k i ok o h3 hok hol hdk hd)
          rw [hval]
          exact h0
    unfold wpOp
    simp only [ho]
    by_cases hw : Region.wanted o (yielded (l ++ l2).toArray (fills (dstsOf_ l) f a).tmps) = true
    · replace hone := hone.1 (hgd.1 hw)
      simp only [hw, if_true]
      left
      unfold Oper.wp
      rw [evalF_fills f hlt]
      generalize (execOp (evalF (dstsOf_ l) f a) o).run P w' = r at *
      cases r with
      | ok n w'' =>
        cases n <;> simp only [mildUpon] at hone <;> simp only [Oper.upon]
        case value u =>
          exact hnext u w'' hone.1 hone.2
        case skip =>
          refine hnext undef w'' hone.1 ?_
          cases o.dst <;> exact hone.2
        case enter f' args =>
          refine hone.mono ?_
          rintro e w3 ⟨v, rfl, hb3, hv⟩
          exact hnext v w3 hb3 hv
      | halt x w'' => simp only [mildUpon] at hone
    · replace hone := hone.2 (fun h => hw (hgd.2 h))
      simp only [hw]
      refine hnext undef w' (Below.refl _ _) ?_
      cases o.dst <;> exact hone

/-- THE LAW: a region that draws its order; n: how many operations come ahead of the end that waits for all. -/
theorem wp_region_tail {id : Nat} {L : List Oper} {ds : List Nat} (n : Nat) (dl : List (Option Nat)) (Φ : List Ph) (hdl : (L.take n).map (·.dst) = dl) (hds : dstsOf_ (L.take n) = ds) (hm : P.follows .mixedOrders = true)
    (hn : typedB (L.take n) a.tmps.size = true) (ht : tailB (L.take n) (L.drop n) = true) (hob : ObAll P dl Φ ds a w (L.take n) Φ)
    (hQ : ∀ f w', Below w.heap.size w w' → PostOf f w' dl Φ → wpList P L.toArray Q (L.drop n) (fills ds f a) w') : (Code.region id L.toArray true).wp P Q a w := by
  subst hds
  refine wp_region_any hm ?_
  have hL : L.take n ++ L.drop n = L := List.take_append_drop n L
  have := typed_aux2 (l2 := L.drop n) hdl hn ht hob (by rw [hL]; exact hQ) (L.take n).length (Array.replicate L.length false) (List.range (L.take n).length) (by simp) (by rw [hL]; simp) List.nodup_range (by
    intro i
    simp only [List.mem_range, Array.getD_eq_getD_getElem?]
    constructor
    · intro h; exact ⟨h, by
        have : i < L.length := by rw [List.length_take] at h; omega
        simp [this]⟩
    · exact fun h => h.1) (by
    intro i _ hi
    rw [hL] at hi
    simp [Array.getD_eq_getD_getElem?, hi]) (by
    intro i o _ hl
    exfalso
    simp [Array.getD_eq_getD_getElem?, Array.getElem?_replicate] at hl
    split at hl <;> simp at hl) (fun t => a.tmps.getD t undef) { w with drawn := w.drawn + 1 } ((Below.refl _ w).drew) (by
    intro i hi h
    exfalso
    simp [Array.getD_eq_getD_getElem?, Array.getElem?_replicate] at h
    split at h <;> simp at h)
  rw [fills_self, hL] at this
  have hlen : (L.take n).length + (L.drop n).length = L.toArray.size := by rw [← List.length_append, hL]; simp
  rw [hlen] at this
  exact this
end
end Go.Proofs.Ythfnikdapknohaa

namespace Go.Proofs.Ythfnikdapknohaa
set_option linter.unusedSimpArgs false
set_option linter.unusedVariables false
open Go.RowKit

def factO (dl : List (Option Nat)) (Φ : List (Value → Prop)) (f : Nat → Value) (j : Nat) : Prop := (Φ.getD j fun _ => True) (valOf dl f j)
def PreO (dl : List (Option Nat)) (Φ : List (Value → Prop)) (f : Nat → Value) : List Edge → Prop
  | [] => True
  | e :: es => (if Region.binds .any e then factO dl Φ f e.on else True) ∧ PreO dl Φ f es
def PostO (f : Nat → Value) : List (Option Nat) → List (Value → Prop) → Prop
  | [], _ => True
  | _ :: _, [] => True
  | d :: os, ph :: phs => ph (match d with | some d => f d | none => undef) ∧ PostO f os phs
theorem preO_mk {dl : List (Option Nat)} {Φ : List (Value → Prop)} {f : Nat → Value} : ∀ (es : List Edge), (∀ e ∈ es, Region.binds .any e = true → factO dl Φ f e.on) → PreO dl Φ f es
  | [], _ => trivial
  | e :: es, h => by
    refine ⟨?_, preO_mk es fun x hx => h x (List.mem_cons_of_mem _ hx)⟩
    split
    · exact h e (List.mem_cons_self ..) ‹_›
    · trivial
theorem postO_mk {f : Nat → Value} : ∀ (os : List (Option Nat)) (phs : List (Value → Prop)),
    (∀ (i : Nat) (d : Option Nat), os[i]? = some d → (phs.getD i fun _ => True) (match d with | some d => f d | none => undef)) → PostO f os phs
  | [], _, _ => by simp [PostO]
  | _ :: _, [], _ => by simp [PostO]
  | d :: os, ph :: phs, h => ⟨h 0 d rfl, postO_mk os phs fun i d hd => by simpa using h (i + 1) d (by simpa using hd)⟩
/-- how one operation may run: all but number s read alone; number s is a call -/
def mildO (P : Program) (w' : World) (d : Option Nat) (ph : Value → Prop) (i s : Nat) (J : Bool → Value → World → Prop) : Result Next → Prop
  | .ok (.value u) w'' => i ≠ s ∧ w'' = w' ∧ ph (dstVal d u)
  | .ok (.enter f args) w'' => i = s ∧ Calls P f args w'' (fun e w3 => ∃ v, e = .returned v ∧ J true (dstVal d v) w3 ∧ ph (dstVal d v))
  | _ => False
def ObO (P : Program) (dl : List (Option Nat)) (Φ : List (Value → Prop)) (ds : List Nat) (a : Act) (s : Nat) (J : Bool → Value → World → Prop) (i : Nat) (ph : Value → Prop) (o : Oper) : Prop :=
  ∀ f b w', J b (valOf dl f s) w' → (i = s → b = false) → PreO dl Φ f o.after.toList →
    (Gd dl f o.guard → mildO P w' o.dst ph i s J ((execOp (evalF ds f a) o).run P w')) ∧ (¬ Gd dl f o.guard → ph undef ∧ i ≠ s)

section
variable {P : Program} {l : List Oper} {dl : List (Option Nat)} {Φ : List (Value → Prop)} {a : Act} {w : World} {Q : Exit → Act → World → Prop} {s : Nat} {J : Bool → Value → World → Prop}
theorem one_aux {l2 : List Oper} (hs0 : s < l.length) (hdl : l.map (·.dst) = dl) (hn : typedB l a.tmps.size = true) (ht : tailB l l2 = true) (hob : ∀ (i : Nat) (o : Oper), l[i]? = some o → ObO P dl Φ (dstsOf_ l) a s J i (Φ.getD i fun _ => True) o)
    (hQ : ∀ f w', J true (valOf dl f s) w' → PostO f dl Φ → wpList P (l ++ l2).toArray Q l2 (fills (dstsOf_ l) f a) w') :
    ∀ (fuel : Nat) (listed : Array Bool) (rem : List Nat), rem.length = fuel → listed.size = (l ++ l2).length → rem.Nodup → (∀ i, i ∈ rem ↔ i < l.length ∧ listed.getD i true = false) →
      (∀ i, l.length ≤ i → i < (l ++ l2).length → listed.getD i false = false) → Closed (l ++ l2) listed →
      ∀ f w', J (listed.getD s false) (valOf dl f s) w' → (∀ i, i < l.length → listed.getD i false = true → factO dl Φ f i) →
      wpAny P .any (l ++ l2).toArray Q (fuel + l2.length) listed (fills (dstsOf_ l) f a) w' := by
  simp only [typedB, Bool.and_eq_true] at hn
  obtain ⟨⟨⟨hnd, hlt⟩, hed⟩, _⟩ := hn
  have hdlg : ∀ i : Nat, dl[i]? = (l[i]?).map (fun (o : Oper) => o.dst) := fun i => by rw [← hdl]; simp
  have hnd := of_decide_eq_true hnd
  have hlt : ∀ d ∈ dstsOf_ l, d < a.tmps.size := fun d hd => of_decide_eq_true (List.all_eq_true.1 hlt d hd)
  have hed : ∀ (i : Nat) (o : Oper), l[i]? = some o → ∀ e ∈ o.after, Region.binds .any e = true → e.on < i := by
    intro i o ho e he hb
    have h1 := List.all_eq_true.1 hed (o, i) (by
      rw [List.mem_zipIdx_iff_getElem?]; exact ho)
    have h2 := (Array.all_eq_true_iff_forall_mem.1 h1) e he
    simpa [hb] using h2
  have hanc := tail_anc ht
  have hback : backB (l ++ l2) = true := by simp only [tailB, Bool.and_eq_true] at ht; exact ht.1.1
  have hguard : guardB l = true := by simp only [tailB, Bool.and_eq_true] at ht; exact ht.1.2
  intro fuel
  induction fuel with
  | zero =>
    intro listed rem hrem hs hnr hmem hhi hcl f w' hb hf
    have hr0 : rem = [] := List.eq_nil_of_length_eq_zero hrem
    have hal : ∀ i, i < l.length → listed.getD i false = true := by
      intro i hi
      rcases hc : listed.getD i false with _ | _
      · exfalso
        have : i ∈ rem := (hmem i).2 ⟨hi, by
          rw [Array.getD_eq_getD_getElem?] at hc ⊢
          rw [Array.getElem?_eq_getElem (by rw [hs, List.length_append]; omega)] at hc ⊢
          exact hc⟩
        rw [hr0] at this
        cases this
      · rfl
    rw [Nat.zero_add]
    refine lex_tail (l := l) hback hanc l2 l.length listed (Nat.le_refl _) (fun j => by rw [List.getElem?_append_right (by omega)]; congr 1; omega) (by simp) hs hal hhi ?_
    rw [hal s hs0] at hb
    refine hQ f w' hb (postO_mk dl Φ fun i d hd => ?_)
    have hi : i < l.length := by
      have := (List.getElem?_eq_some_iff.1 hd).1
      rw [← hdl] at this
      simpa using this
    have := hf i hi (hal i hi)
    unfold factO valOf at this
    rw [hd] at this
    cases d <;> exact this
  | succ fuel ih =>
    intro listed rem hrem hs hnr hmem hhi hcl f w' hb hf
    rw [show fuel + 1 + l2.length = (fuel + l2.length) + 1 by omega]
    refine ⟨fun h => ?_, fun i hi => ?_⟩
    · exfalso
      -- the least one that has not come up may come up
      have hno : ∀ i, i < l.length → listed.getD i false = true := by
        intro i
        induction i using Nat.strongRecOn with
        | _ i ih =>
          intro hi
          rcases hc : listed.getD i false with _ | _
          · exfalso
            have hm : i ∈ Region.ready .any (l ++ l2).toArray listed := by
              rw [mem_ready]
              refine ⟨?_, l[i], by simp [List.getElem?_append_left hi, hi], fun e he hb => ?_⟩
              · rw [Array.getD_eq_getD_getElem?] at hc ⊢
                rw [Array.getElem?_eq_getElem (by rw [hs, List.length_append]; omega)] at hc ⊢
                exact hc
              · have := hed i l[i] (by simp [hi]) e he hb
                exact ih e.on this (by omega)
            rw [h] at hm
            cases hm
          · rfl
      obtain ⟨k, hk⟩ : ∃ k, k ∈ rem := by
        cases rem with
        | nil => simp at hrem
        | cons x _ => exact ⟨x, List.mem_cons_self ..⟩
      obtain ⟨hk1, hk2⟩ := (hmem k).1 hk
      have h1 := hno k hk1
      rw [Array.getD_eq_getD_getElem?, Array.getElem?_eq_getElem (by rw [hs, List.length_append]; omega)] at h1 hk2
      simp at h1 hk2
      rw [h1] at hk2
      cases hk2
    obtain ⟨hun, o, ho, hpre⟩ := mem_ready.1 hi
    have hil : i < l.length := by
      rcases Nat.lt_or_ge i l.length with h | h
      · exact h
      · exfalso
        have hall := hanc listed hcl i o (by simpa using ho) h hpre
        obtain ⟨k, hk⟩ : ∃ k, k ∈ rem := by
          cases rem with
          | nil => simp at hrem
          | cons x _ => exact ⟨x, List.mem_cons_self ..⟩
        obtain ⟨hk1, hk2⟩ := (hmem k).1 hk
        have h1 := hall k (by omega)
        rw [Array.getD_eq_getD_getElem?, Array.getElem?_eq_getElem (by rw [hs, List.length_append]; omega)] at h1 hk2
        simp at h1 hk2
        rw [h1] at hk2
        cases hk2
    have hol : l[i]? = some o := by
      have h1 : (l ++ l2)[i]? = some o := by simpa using ho
      rwa [List.getElem?_append_left hil] at h1
    have hcl2 : Closed (l ++ l2) (listed.setIfInBounds i true) := by
      intro k ok hok hlk e he hbd
      by_cases hki : k = i
      · subst hki
        have h1 : (l ++ l2)[k]? = some o := by simpa using ho
        rw [h1] at hok
        injection hok with hok
        subst hok
        have h2 := hpre e he hbd
        by_cases hei : e.on = k
        · rw [hei] at h2 ⊢; rw [Array.getD_eq_getD_getElem?, Array.getElem?_setIfInBounds_self_of_lt (by rw [hs, List.length_append]; omega)]; rfl
        · rw [getD_set_ne false (Ne.symm hei)]; exact h2
      · rw [getD_set_ne false (Ne.symm hki)] at hlk
        have h2 := hcl k ok hok hlk e he hbd
        by_cases hei : e.on = i
        · rw [hei, Array.getD_eq_getD_getElem?, Array.getElem?_setIfInBounds_self_of_lt (by rw [hs, List.length_append]; omega)]; rfl
        · rw [getD_set_ne false (Ne.symm hei)]; exact h2
    have hhi2 : ∀ k, l.length ≤ k → k < (l ++ l2).length → (listed.setIfInBounds i true).getD k false = false := by
      intro k h1 h2
      rw [getD_set_ne false (by omega)]
      exact hhi k h1 h2
    have hp : PreO dl Φ f o.after.toList := preO_mk _ fun e he hbd => by
      have he' : e ∈ o.after := by simpa using he
      have hlist := hpre e he' hbd
      exact hf e.on (Nat.lt_trans (hed i o hol e he' hbd) hil) hlist
    have huf : listed.getD i false = false := by
      rw [Array.getD_eq_getD_getElem?] at hun ⊢
      rw [Array.getElem?_eq_getElem (by rw [hs, List.length_append]; omega)] at hun ⊢
      exact hun
    have hone := hob i o hol f (listed.getD s false) w' hb (fun e => by subst e; exact huf) hp
    have hgd := yielded_iff2 l l2 dl hdl (dstsOf_ l) f a hlt (fun d hd => by
      rw [← hdl] at hd
      obtain ⟨oo, h1, h2⟩ := List.mem_map.1 hd
      exact List.mem_filterMap.2 ⟨oo, h1, h2⟩) o.guard o rfl (fun j b hg => guard_spec hguard hol j b hg)
    have hval : ∀ (d : Nat), o.dst = some d → ∀ v k, k ≠ i → valOf dl (fun t => if t = d then v else f t) k = valOf dl f k := by
      intro d hd v k hki
      unfold valOf
      rw [hdlg]
      cases hok : l[k]? with
      | none => rfl
      | some ok =>
        cases hdk : ok.dst with
        | none => simp [hdk]
        | some dk =>
          simp only [Option.map_some, hdk]
          rw [if_neg]
          intro e
          subst e
          have h3 : (dstsOf_ l).Nodup := hnd
          have : ∀ (m : List Oper) (x y : Nat) (ox oy : Oper), (m.filterMap (·.dst)).Nodup → m[x]? = some ox → m[y]? = some oy → ox.dst = some dk → oy.dst = some dk → x = y := by
            intro m
            induction m with
            | nil => intro x y ox oy _ hx; simp at hx
            | cons q m ihm =>
              intro x y ox oy hnd hx hy hdx hdy
              cases x with
              | zero =>
                cases y with
                | zero => rfl
                | succ y =>
                  exfalso
                  simp at hx hy
                  subst hx
                  simp only [List.filterMap_cons, hdx] at hnd
                  exact (List.nodup_cons.1 hnd).1 (List.mem_filterMap.2 ⟨oy, List.mem_of_getElem? hy, hdy⟩)
              | succ x =>
                cases y with
                | zero =>
                  exfalso
                  simp at hx hy
                  subst hy
                  simp only [List.filterMap_cons, hdy] at hnd
                  exact (List.nodup_cons.1 hnd).1 (List.mem_filterMap.2 ⟨ox, List.mem_of_getElem? hx, hdx⟩)
                | succ y =>
                  simp at hx hy
                  have : (m.filterMap (·.dst)).Nodup := by
                    simp only [List.filterMap_cons] at hnd
                    cases hq : q.dst with
                    | none => simpa [hq] using hnd
                    | some _ => simp only [hq] at hnd; exact (List.nodup_cons.1 hnd).2
                  rw [ihm x y ox oy this hx hy hdx hdy]
          exact hki (this l k i ok o h3 hok hol hdk hd)
    -- what follows once the value is there
    have hnext : ∀ v w'', J ((listed.setIfInBounds i true).getD s false) (if s = i then dstVal o.dst v else valOf dl f s) w'' → (Φ.getD i fun _ => True) (dstVal o.dst v) →
        wpAny P .any (l ++ l2).toArray Q (fuel + l2.length) (listed.setIfInBounds i true) ((fills (dstsOf_ l) f a).put o.dst v) w'' := by
      intro v w'' hb' hv
      have hrem' : (rem.erase i).length = fuel := by
        have : i ∈ rem := (hmem i).2 ⟨hil, hun⟩
        rw [List.length_erase_of_mem this]; omega
      have hmem' : ∀ k, k ∈ rem.erase i ↔ k < l.length ∧ (listed.setIfInBounds i true).getD k true = false := by
        intro k
        rw [hnr.mem_erase_iff, hmem]
        by_cases hk : k = i
        · subst hk
          simp only [ne_eq, not_true, false_and, false_iff, not_and]
          intro hk
          rw [Array.getD_eq_getD_getElem?, Array.getElem?_setIfInBounds_self_of_lt (by rw [hs, List.length_append]; omega)]
          simp
        · rw [getD_set_ne true (Ne.symm hk)]
          simp [hk]
      have hst : ∀ k, k < l.length → k ≠ i → (listed.setIfInBounds i true).getD k false = true → listed.getD k false = true := by
        intro k _ hk h
        rw [getD_set_ne false (Ne.symm hk)] at h
        exact h
      cases hd : o.dst with
      | none =>
        show wpAny P .any (l ++ l2).toArray Q (fuel + l2.length) _ (fills (dstsOf_ l) f a) w''
        refine ih _ (rem.erase i) hrem' (by simpa using hs) (hnr.erase i) hmem' hhi2 hcl2 f w'' ?_ fun k hk hl => ?_
        · by_cases hsi : s = i
          · rw [if_pos hsi] at hb'
            have : valOf dl f s = dstVal o.dst v := by
              unfold valOf
              rw [hdlg, hsi, hol]
              simp only [Option.map_some, hd]
              rfl
            rw [this]; exact hb'
          · rw [if_neg hsi] at hb'; exact hb'
        · by_cases hki : k = i
          · subst hki
            unfold factO valOf
            rw [hdlg, hol]
            simp only [Option.map_some, hd]
            simpa [hd] using hv
          · exact hf k hk (hst k hk hki hl)
      | some d =>
        have hdm : d ∈ dstsOf_ l := List.mem_filterMap.2 ⟨o, List.mem_of_getElem? hol, hd⟩
        rw [fills_put _ _ _ _ _ hdm]
        refine ih _ (rem.erase i) hrem' (by simpa using hs) (hnr.erase i) hmem' hhi2 hcl2 _ w'' ?_ fun k hk hl => ?_
        · by_cases hsi : s = i
          · rw [if_pos hsi] at hb'
            have : valOf dl (fun t => if t = d then v else f t) s = dstVal o.dst v := by
              unfold valOf
              rw [hdlg, hsi, hol]
              simp only [Option.map_some, hd]
              simp
            rw [this]; exact hb'
          · rw [if_neg hsi] at hb'
            rw [hval d hd v s hsi]; exact hb'
        · by_cases hki : k = i
          · subst hki
            unfold factO valOf
            rw [hdlg, hol]
            simp only [Option.map_some, hd]
            simpa [hd] using hv
          · have h0 := hf k hk (hst k hk hki hl)
            unfold factO at h0 ⊢
            rw [hval d hd v k hki]
            exact h0
    unfold wpOp
    simp only [ho]
    by_cases hw : Region.wanted o (yielded (l ++ l2).toArray (fills (dstsOf_ l) f a).tmps) = true
    · replace hone := hone.1 (hgd.1 hw)
      simp only [hw, if_true]
      left
      unfold Oper.wp
      rw [evalF_fills f hlt]
      generalize (execOp (evalF (dstsOf_ l) f a) o).run P w' = r at *
      cases r with
      | ok n w'' =>
        cases n <;> simp only [mildO] at hone <;> simp only [Oper.upon]
        case value u =>
          obtain ⟨hne, rfl, hv⟩ := hone
          refine hnext u _ ?_ hv
          rw [if_neg (fun e => hne e.symm), getD_set_ne false hne]
          exact hb
        case enter f' args =>
          obtain ⟨rfl, hone⟩ := hone
          refine hone.mono ?_
          rintro e w3 ⟨v, rfl, hj, hv⟩
          refine hnext v w3 ?_ hv
          rw [if_pos rfl, Array.getD_eq_getD_getElem?, Array.getElem?_setIfInBounds_self_of_lt (by rw [hs, List.length_append]; omega)]
          exact hj
      | halt x w'' => simp only [mildO] at hone
    · replace hone := hone.2 (fun h => hw (hgd.2 h))
      simp only [hw]
      refine hnext undef w' ?_ ?_
      · rw [if_neg (fun e => hone.2 e.symm), getD_set_ne false hone.2]; exact hb
      · cases o.dst <;> exact hone.1

/-- THE LAW: n operations, of which number s changes the world, then the end. -/
theorem wp_region_one {id : Nat} {L : List Oper} {ds : List Nat} (n s : Nat) (J : Bool → Value → World → Prop) (dl : List (Option Nat)) (Φ : List (Value → Prop)) (hsn : s < (L.take n).length) (hdl : (L.take n).map (·.dst) = dl) (hds : dstsOf_ (L.take n) = ds) (hm : P.follows .mixedOrders = true)
    (hn : typedB (L.take n) a.tmps.size = true) (ht : tailB (L.take n) (L.drop n) = true) (hob : ∀ (i : Nat) (o : Oper), (L.take n)[i]? = some o → ObO P dl Φ ds a s J i (Φ.getD i fun _ => True) o) (h0 : ∀ v, J false v w.drew)
    (hQ : ∀ f w', J true (valOf dl f s) w' → PostO f dl Φ → wpList P L.toArray Q (L.drop n) (fills ds f a) w') : (Code.region id L.toArray true).wp P Q a w := by
  subst hds
  refine wp_region_any hm ?_
  have hL : L.take n ++ L.drop n = L := List.take_append_drop n L
  have hf0 : (Array.replicate L.length false).getD s false = false := by
    rw [Array.getD_eq_getD_getElem?, Array.getElem?_replicate]; split <;> rfl
  have := one_aux (l2 := L.drop n) hsn hdl hn ht hob (by rw [hL]; exact hQ) (L.take n).length (Array.replicate L.length false) (List.range (L.take n).length) (by simp) (by rw [hL]; simp) List.nodup_range (by
    intro i
    simp only [List.mem_range, Array.getD_eq_getD_getElem?]
    constructor
    · intro h; exact ⟨h, by
        have : i < L.length := by rw [List.length_take] at h; omega
        simp [this]⟩
    · exact fun h => h.1) (by
    intro i _ hi
    rw [hL] at hi
    simp [Array.getD_eq_getD_getElem?, hi]) (by
    intro i o _ hl
    exfalso
    simp [Array.getD_eq_getD_getElem?, Array.getElem?_replicate] at hl
    split at hl <;> simp at hl) (fun t => a.tmps.getD t undef) { w with drawn := w.drawn + 1 } (by rw [hf0]; exact h0 _) (by
    intro i hi h
    exfalso
    simp [Array.getD_eq_getD_getElem?, Array.getElem?_replicate] at h
    split at h <;> simp at h)
  rw [fills_self, hL] at this
  have hlen : (L.take n).length + (L.drop n).length = L.toArray.size := by rw [← List.length_append, hL]; simp
  rw [hlen] at this
  exact this
end
end Go.Proofs.Ythfnikdapknohaa

namespace Go.Proofs.Ythfnikdapknohaa
set_option linter.unusedSimpArgs false
set_option linter.unusedVariables false
open Go.RowKit

def ObOAll (P : Program) (dl : List (Option Nat)) (Φ : List (Value → Prop)) (ds : List Nat) (a : Act) (s : Nat) (J : Bool → Value → World → Prop) : Nat → List Oper → List (Value → Prop) → Prop
  | _, [], _ => True
  | _, _ :: _, [] => False
  | i, o :: os, ph :: phs => ObO P dl Φ ds a s J i ph o ∧ ObOAll P dl Φ ds a s J (i + 1) os phs
theorem obOAll_get {P : Program} {dl : List (Option Nat)} {Φ : List (Value → Prop)} {ds : List Nat} {a : Act} {s : Nat} {J : Bool → Value → World → Prop} : ∀ (os : List Oper) (phs : List (Value → Prop)) (k : Nat), ObOAll P dl Φ ds a s J k os phs →
    ∀ (i : Nat) (o : Oper), os[i]? = some o → ObO P dl Φ ds a s J (k + i) (phs.getD i fun _ => True) o
  | [], _, _, _ => fun i o h => by simp at h
  | _ :: _, [], _, h => h.elim
  | x :: os, ph :: phs, k, h => fun i o ho => by
    cases i with
    | zero => obtain rfl : x = o := by simpa using ho
              exact h.1
    | succ i =>
      have := obOAll_get os phs (k + 1) h.2 i o (by simpa using ho)
      rw [show k + (i + 1) = k + 1 + i by omega]
      simpa using this
section
variable {P : Program} {dl : List (Option Nat)} {Φ : List (Value → Prop)} {ds : List Nat} {a : Act} {w : World} {s i : Nat} {J : Bool → Value → World → Prop} {ph : Value → Prop} {o : Oper}
theorem obO_yes (h : ∀ f b w', J b (valOf dl f s) w' → (i = s → b = false) → PreO dl Φ f o.after.toList → Gd dl f o.guard ∧ mildO P w' o.dst ph i s J ((execOp (evalF ds f a) o).run P w')) : ObO P dl Φ ds a s J i ph o := by
  intro f b w' h1 h2 h3
  have := h f b w' h1 h2 h3
  exact ⟨fun _ => this.2, fun hn => absurd this.1 hn⟩
theorem mildO_val {d : Option Nat} {q : Value → Prop} {r : Result Next} {w' : World} (u : Value) (hi : i ≠ s) (hr : r = .ok (.value u) w') (hq : q (dstVal d u)) : mildO P w' d q i s J r := by
  subst hr
  exact ⟨hi, rfl, hq⟩
theorem mildO_call {d : Option Nat} {q : Value → Prop} {w' : World} {ρ : Operand → Value} (f : Nat) (args : Array Operand) (ts : Array TypeId) (fn : Func) (hi : i = s) (hf : P.funcs[f]? = some fn) (hn : (fn.name == "runtime.NumGoroutine") = false) (hb : fn.body.isNone = false)
    {t : TypeId} {pos : String} {af : Array Edge} {g : Option (Nat × Bool)} (hρ : ρ (.func f) = .func (.func f) #[] #[])
    (h : Calls P f (args.map ρ) w' (fun e w3 => ∃ v, e = .returned v ∧ J true (dstVal d v) w3 ∧ q (dstVal d v))) :
    mildO P w' d q i s J ((execOp ρ { dst := d, op := .call { callee := .value (.func f), args := args, argTypes := ts }, type := t, pos := pos, after := af, guard := g }).run P w') := by
  have hr : (execOp ρ { dst := d, op := .call { callee := .value (.func f), args := args, argTypes := ts }, type := t, pos := pos, after := af, guard := g }).run P w' = .ok (.enter f (args.map ρ)) w' := by
    simp [execOp, resolve, hρ, Deferred.ofValue, invoke, callFunc, hf]
    rw [if_neg (by simpa using hn), if_neg (by intro h; simp [h] at hb)]
  rw [hr]
  exact ⟨hi, h⟩
end
theorem wp_region_oneL {P : Program} {a : Act} {w : World} {Q : Exit → Act → World → Prop} {id : Nat} {L : List Oper} {ds : List Nat} (n s : Nat) (J : Bool → Value → World → Prop) (dl : List (Option Nat)) (Φ : List (Value → Prop)) (hsn : s < (L.take n).length) (hdl : (L.take n).map (·.dst) = dl) (hds : dstsOf_ (L.take n) = ds) (hm : P.follows .mixedOrders = true)
    (hn : typedB (L.take n) a.tmps.size = true) (ht : tailB (L.take n) (L.drop n) = true) (hob : ObOAll P dl Φ ds a s J 0 (L.take n) Φ) (h0 : ∀ v, J false v w.drew)
    (hQ : ∀ f w', J true (valOf dl f s) w' → PostO f dl Φ → wpList P L.toArray Q (L.drop n) (fills ds f a) w') : (Code.region id L.toArray true).wp P Q a w :=
  wp_region_one n s J dl Φ hsn hdl hds hm hn ht (fun i o ho => by simpa using obOAll_get _ _ 0 hob i o ho) h0 hQ
end Go.Proofs.Ythfnikdapknohaa

namespace Go.Proofs.Ythfnikdapknohaa
set_option linter.unusedSimpArgs false
set_option linter.unusedVariables false

/-- a number's bytes -/
def vput (n : Nat) : List UInt8 := if h : n < 128 then [UInt8.ofNat n] else UInt8.ofNat (n % 128 + 128) :: vput (n / 128)
termination_by n
decreasing_by omega
theorem vput_lt {n : Nat} (h : n < 128) : vput n = [UInt8.ofNat n] := by rw [vput, dif_pos h]
theorem vput_ge {n : Nat} (h : 128 ≤ n) : vput n = UInt8.ofNat (n % 128 + 128) :: vput (n / 128) := by rw [vput, dif_neg (by omega)]
theorem vput_len (n k : Nat) (h : n < 2 ^ (7 * k)) : (vput n).length ≤ k + 1 := by
  induction k generalizing n with
  | zero => rw [vput_lt (by simp at h; omega)]; simp
  | succ k ih =>
    rcases Nat.lt_or_ge n 128 with h1 | h1
    · rw [vput_lt h1]; simp
    · rw [vput_ge h1, List.length_cons]
      have := ih (n / 128) (by rw [show 7 * (k + 1) = 7 * k + 7 from by omega, Nat.pow_add] at h; omega)
      omega
theorem vput_len64 (n : Nat) (h : n < 18446744073709551616) : 1 ≤ (vput n).length ∧ (vput n).length ≤ 11 := by
  refine ⟨?_, vput_len n 10 (by have : (18446744073709551616 : Nat) ≤ 2 ^ (7 * 10) := by decide
                                omega)⟩
  rcases Nat.lt_or_ge n 128 with h1 | h1
  · rw [vput_lt h1]; simp
  · rw [vput_ge h1]; simp

/-- the number in front of bytes: an error, or the number and how many bytes it has -/
def vgo : List UInt8 → Nat → Nat → Int ⊕ (Nat × Nat)
  | [], _, _ => .inl 2
  | c :: t, i, n =>
    if i = 9 ∧ 1 < c.toNat % 128 ∨ 9 < i ∨ 0 < i ∧ c.toNat = 0 then .inl 3
    else if 127 < c.toNat then vgo t (i + 1) (n + c.toNat % 128 * 2 ^ (7 * i))
    else .inr (n + c.toNat % 128 * 2 ^ (7 * i), i + 1)
/-- a read: the number, what is left, the error -/
def numR (most : Nat) (l : List UInt8) : Nat × List UInt8 × Int :=
  match vgo l 0 0 with
  | .inl e => (0, [], e)
  | .inr (n, k) => if most < n then (0, [], 9) else (n, l.drop k, 0)
/-- a reader's step -/
def numS (most : Nat) (l : List UInt8) (e : Int) : Nat × List UInt8 × Int := if e ≠ 0 then (0, [], e) else numR most l
theorem vgo_err (l : List UInt8) (i n : Nat) (e : Int) (h : vgo l i n = .inl e) : e = 2 ∨ e = 3 := by
  induction l generalizing i n with
  | nil => simp [vgo] at h; omega
  | cons c t ih =>
    unfold vgo at h
    split at h
    · simp at h; omega
    · split at h
      · exact ih _ _ h
      · simp at h
theorem vgo_ok (l : List UInt8) (i n m k : Nat) (h : vgo l i n = .inr (m, k)) : i < k ∧ k ≤ i + l.length ∧ i ≤ 9 := by
  induction l generalizing i n with
  | nil => simp [vgo] at h
  | cons c t ih =>
    unfold vgo at h
    split at h
    · simp at h
    · rename_i hc
      split at h
      · have := ih _ _ h
        simp; omega
      · simp at h; simp; omega
/-- the number fits in 64 bits -/
theorem vgo_lt (l : List UInt8) (i n m k : Nat) (hn : i ≤ 9 → n < 2 ^ (7 * i)) (h : vgo l i n = .inr (m, k)) : m < 18446744073709551616 := by
  induction l generalizing i n with
  | nil => simp [vgo] at h
  | cons c t ih =>
    unfold vgo at h
    split at h
    · simp at h
    · rename_i hc
      have hi : i ≤ 9 := by omega
      have hn := hn hi
      have hmod : c.toNat % 128 < 128 := Nat.mod_lt _ (by decide)
      split at h
      · refine ih _ _ (fun hi' => ?_) h
        rw [show 7 * (i + 1) = 7 * i + 7 from by omega, Nat.pow_add]
        have := Nat.mul_le_mul_right (2 ^ (7 * i)) (show c.toNat % 128 ≤ 127 by omega)
        omega
      · simp at h
        obtain ⟨rfl, _⟩ := h
        rcases Nat.lt_or_ge i 9 with h9 | h9
        · have h2 : 2 ^ (7 * i) ≤ 2 ^ 56 := Nat.pow_le_pow_right (by decide) (by omega)
          have := Nat.mul_le_mul (show c.toNat % 128 ≤ 127 by omega) h2
          omega
        · obtain rfl : i = 9 := by omega
          have : c.toNat % 128 ≤ 1 := by omega
          have := Nat.mul_le_mul_right (2 ^ (7 * 9)) this
          omega
theorem numR_lt (most : Nat) (l : List UInt8) : (numR most l).1 < 18446744073709551616 ∧ (numR most l).1 ≤ most := by
  unfold numR
  split
  · simp
  · rename_i n k h
    split
    · simp
    · exact ⟨vgo_lt l 0 0 n k (by simp) h, by simp; omega⟩
theorem numS_lt (most : Nat) (l : List UInt8) (e : Int) : (numS most l e).1 < 18446744073709551616 ∧ (numS most l e).1 ≤ most := by
  unfold numS; split
  · simp
  · exact numR_lt most l
/-- what is left is a back of what was there -/
theorem numR_rest (most : Nat) (l : List UInt8) : ∃ k, k ≤ l.length ∧ ((numR most l).2.2 = 0 → (numR most l).2.1 = l.drop k ∧ 0 < k) ∧ ((numR most l).2.2 ≠ 0 → (numR most l).2.1 = [] ∧ (numR most l).1 = 0) := by
  unfold numR
  split
  · rename_i e h
    have := vgo_err _ _ _ _ h
    exact ⟨0, by omega, fun h => by simp at h; omega, fun _ => by simp⟩
  · rename_i n k h
    have := vgo_ok _ _ _ _ _ h
    refine ⟨k, by omega, ?_, ?_⟩
    · split <;> simp; omega
    · split <;> simp
theorem numS_err (most : Nat) (l : List UInt8) (e : Int) : (numS most l e).2.2 ≠ 0 → (numS most l e).2.1 = [] ∧ (numS most l e).1 = 0 := by
  unfold numS
  split
  · simp
  · obtain ⟨k, _, _, h⟩ := numR_rest most l; exact h
theorem numS_len (most : Nat) (l : List UInt8) (e : Int) : (numS most l e).2.1.length ≤ l.length := by
  unfold numS
  split
  · simp
  · obtain ⟨k, hk, h1, h2⟩ := numR_rest most l
    by_cases h : (numR most l).2.2 = 0
    · rw [(h1 h).1]; simp
    · rw [(h2 h).1]; simp

/-! ### what is put reads back -/
theorem u8_ofNat_toNat (n : Nat) (h : n < 256) : (UInt8.ofNat n).toNat = n := by rw [UInt8.toNat_ofNat']; omega
theorem vgo_vput (n : Nat) (t : List UInt8) (i acc : Nat) (hi : i ≤ 9) (hn : n * 2 ^ (7 * i) < 18446744073709551616) (h0 : 0 < i → 0 < n) : vgo (vput n ++ t) i acc = .inr (acc + n * 2 ^ (7 * i), i + (vput n).length) := by
  induction n using Nat.strongRecOn generalizing i acc with
  | _ n ih =>
    have hp : 0 < 2 ^ (7 * i) := Nat.pow_pos (by decide)
    have h9 : i = 9 → n < 2 := by
      rintro rfl
      rcases Nat.lt_or_ge n 2 with h | h
      · exact h
      · have := Nat.mul_le_mul_right (2 ^ (7 * 9)) h
        omega
    rcases Nat.lt_or_ge n 128 with h1 | h1
    · rw [vput_lt h1]
      have hc := u8_ofNat_toNat n (by omega)
      show vgo (UInt8.ofNat n :: t) i acc = _
      unfold vgo
      rw [hc, Nat.mod_eq_of_lt h1, if_neg (by omega), if_neg (by omega)]
      rfl
    · rw [vput_ge h1]
      have hc := u8_ofNat_toNat (n % 128 + 128) (by omega)
      show vgo (UInt8.ofNat (n % 128 + 128) :: (vput (n / 128) ++ t)) i acc = _
      have hi9 : i < 9 := by omega
      unfold vgo
      rw [hc, if_neg (by omega), if_pos (by omega), show (n % 128 + 128) % 128 = n % 128 from by omega]
      have hpow : 2 ^ (7 * (i + 1)) = 128 * 2 ^ (7 * i) := by rw [show 7 * (i + 1) = 7 * i + 7 from by omega, Nat.pow_add]; omega
      have hdm : n / 128 * (128 * 2 ^ (7 * i)) + n % 128 * 2 ^ (7 * i) = n * 2 ^ (7 * i) := by
        rw [← Nat.mul_assoc, ← Nat.add_mul]
        congr 1
        omega
      rw [ih (n / 128) (by omega) (i + 1) _ (by omega) (by rw [hpow]; omega) (by omega), hpow, List.length_cons]
      congr 2
      · omega
      · omega
theorem numR_vput (n most : Nat) (t : List UInt8) (hn : n < 18446744073709551616) (hm : n ≤ most) : numR most (vput n ++ t) = (n, t, 0) := by
  unfold numR
  rw [vgo_vput n t 0 0 (by omega) (by simpa using hn) (by omega)]
  simp only [Nat.mul_zero, Nat.pow_zero, Nat.mul_one, Nat.zero_add]
  rw [if_neg (by omega)]
  simp
theorem numR_vput_big (n most : Nat) (t : List UInt8) (hn : n < 18446744073709551616) (hm : most < n) : numR most (vput n ++ t) = (0, [], 9) := by
  unfold numR
  rw [vgo_vput n t 0 0 (by omega) (by simpa using hn) (by omega)]
  simp only [Nat.mul_zero, Nat.pow_zero, Nat.mul_one, Nat.zero_add]
  rw [if_pos (by omega)]
/-- bytes that are one number are just its bytes -/
theorem vput_vgo (l : List UInt8) (i acc m k : Nat) (h : vgo l i acc = .inr (m, k)) : ∃ n, m = acc + n * 2 ^ (7 * i) ∧ l.take (k - i) = vput n ∧ (0 < i → 0 < n) := by
  induction l generalizing i acc with
  | nil => simp [vgo] at h
  | cons c t ih =>
    unfold vgo at h
    split at h
    · simp at h
    · rename_i hc
      have hc256 := c.toNat_lt
      split at h
      · rename_i hb
        have hk := vgo_ok _ _ _ _ _ h
        obtain ⟨n, h1, h2, h3⟩ := ih _ _ h
        have hn := h3 (by omega)
        refine ⟨c.toNat % 128 + 128 * n, ?_, ?_, fun _ => by omega⟩
        · rw [h1, show 7 * (i + 1) = 7 * i + 7 from by omega, Nat.pow_add, Nat.add_mul]
          have : 128 * n * 2 ^ (7 * i) = n * (2 ^ (7 * i) * 2 ^ 7) := by
            rw [show (2:Nat) ^ 7 = 128 from rfl, Nat.mul_comm 128 n, Nat.mul_assoc, Nat.mul_comm 128]
          omega
        · rw [show k - i = (k - (i + 1)) + 1 from by omega, List.take_succ_cons, h2, vput_ge (n := c.toNat % 128 + 128 * n) (by omega)]
          rw [show (c.toNat % 128 + 128 * n) / 128 = n from by omega, show (c.toNat % 128 + 128 * n) % 128 + 128 = c.toNat from by omega, UInt8.ofNat_toNat]
      · rename_i hb
        simp at h
        obtain ⟨rfl, rfl⟩ := h
        refine ⟨c.toNat, by rw [Nat.mod_eq_of_lt (by omega)], ?_, fun hi => by omega⟩
        rw [show i + 1 - i = 1 from by omega, vput_lt (by omega), UInt8.ofNat_toNat]
        rfl
theorem numR_one (most : Nat) (l : List UInt8) (n : Nat) (t : List UInt8) (h : numR most l = (n, t, 0)) : l = vput n ++ t := by
  unfold numR at h
  split at h
  · rename_i e he
    have := vgo_err _ _ _ _ he
    simp at h; omega
  · rename_i m k hv
    split at h
    · simp at h
    · simp at h
      obtain ⟨rfl, rfl⟩ := h
      obtain ⟨x, h1, h2, _⟩ := vput_vgo _ _ _ _ _ hv
      simp at h1 h2
      subst h1
      rw [← h2, List.take_append_drop]
end Go.Proofs.Ythfnikdapknohaa

namespace Go.Proofs.Ythfnikdapknohaa
set_option linter.unusedSimpArgs false
set_option linter.unusedVariables false

structure GArc where
  to : UInt32
  wt : UInt32
deriving DecidableEq
def gsum (l : List GArc) : Nat := (l.map fun a => a.wt.toNat).sum
theorem gsum_append (a b : List GArc) : gsum (a ++ b) = gsum a + gsum b := by simp [gsum]
theorem gsum_one (a : GArc) : gsum [a] = a.wt.toNat := by simp [gsum]
theorem gsum_lt (l : List GArc) : gsum l ≤ l.length * 4294967295 := by
  induction l with
  | nil => simp [gsum]
  | cons a t ih =>
    have := u32_lt a.wt
    simp only [gsum, List.map_cons, List.sum_cons, List.length_cons] at *
    omega
theorem gsum_take_le (l : List GArc) (k : Nat) : gsum (l.take k) ≤ gsum l := by
  have h : gsum l = gsum (l.take k) + gsum (l.drop k) := by rw [← gsum_append, List.take_append_drop]
  omega
theorem gsum_snoc (l : List GArc) (k : Nat) (h : k < l.length) : gsum (l.take (k + 1)) = gsum (l.take k) + l[k].wt.toNat := by
  rw [List.take_succ_eq_append_getElem h, gsum_append, gsum_one]
/-- each weight is one at least, the ends rise -/
def rise : Option UInt32 → List GArc → Bool
  | _, [] => true
  | p, a :: t => a.wt != 0 && (match p with | none => true | some q => decide (q < a.to)) && rise (some a.to) t
def gmay (l : List GArc) : Bool := rise none l && decide (gsum l ≤ 2147483647)
/-- the k-th one is right behind its neighbour -/
def stepOk (l : List GArc) (k : Nat) (a : GArc) : Bool := a.wt != 0 && (k == 0 || match l[k - 1]? with | some b => decide (b.to < a.to) | none => true)
theorem rise_take : ∀ (l : List GArc) (p : Option UInt32) (k : Nat), rise p l = true → rise p (l.take k) = true
  | [], p, k, h => by simp [rise]
  | a :: t, p, 0, h => by simp [rise]
  | a :: t, p, k + 1, h => by
    simp only [rise, List.take_succ_cons, Bool.and_eq_true] at *
    exact ⟨h.1, rise_take t _ k h.2⟩
theorem rise_cons (p : Option UInt32) (a : GArc) (t : List GArc) : rise p (a :: t) = (a.wt != 0 && (match p with | none => true | some q => decide (q < a.to)) && rise (some a.to) t) := rfl
def lastTo : Option UInt32 → List GArc → Option UInt32
  | p, [] => p
  | _, a :: t => lastTo (some a.to) t
theorem lastTo_snoc : ∀ (l : List GArc) (p : Option UInt32) (a : GArc), lastTo p (l ++ [a]) = some a.to
  | [], _, _ => rfl
  | _ :: t, _, a => lastTo_snoc t _ a
theorem rise_append : ∀ (l m : List GArc) (p : Option UInt32), rise p (l ++ m) = (rise p l && rise (lastTo p l) m)
  | [], m, p => by simp [rise, lastTo]
  | a :: t, m, p => by
    have := rise_append t m (some a.to)
    rw [List.cons_append]
    rw [rise_cons, rise_cons, this, Bool.and_assoc, Bool.and_assoc, Bool.and_assoc]
    rfl
theorem take_last {α : Type} (l : List α) (k : Nat) (h0 : 0 < k) (h : k ≤ l.length) : l.take k = l.take (k - 1) ++ [l[k - 1]'(by omega)] := by
  have := List.take_succ_eq_append_getElem (l := l) (i := k - 1) (by omega)
  rwa [show k - 1 + 1 = k from by omega] at this
theorem rise_snoc (l : List GArc) (k : Nat) (h : k < l.length) : rise none (l.take (k + 1)) = (rise none (l.take k) && stepOk l k l[k]) := by
  rw [List.take_succ_eq_append_getElem h, rise_append]
  congr 1
  unfold stepOk
  rcases Nat.eq_zero_or_pos k with h0 | h0
  · subst h0
    simp [rise, lastTo]
  · rw [take_last l k h0 (by omega), lastTo_snoc, List.getElem?_eq_getElem (show k - 1 < l.length by omega)]
    have : (k == 0) = false := by simp; omega
    simp [rise, this]
theorem rise_stepOk (l : List GArc) (k : Nat) (h : k < l.length) (hr : rise none l = true) : stepOk l k l[k] = true := by
  have := rise_take l none (k + 1) hr
  rw [rise_snoc l k h] at this
  simp at this
  exact this.2
/-- the bytes of one neighbour behind a number, of all behind it -/
def gaps1 (next : Nat) (a : GArc) : List UInt8 := vput (a.to.toNat - next) ++ vput (a.wt.toNat - 1)
def gapsL : Nat → List GArc → List UInt8
  | _, [] => []
  | n, a :: t => gaps1 n a ++ gapsL (a.to.toNat + 1) t
def gput (l : List GArc) : List UInt8 := vput l.length ++ gapsL 0 l
/-- what the next one can be at least -/
def nextOf (l : List GArc) (k : Nat) : Nat := if k = 0 then 0 else match l[k - 1]? with | some b => b.to.toNat + 1 | none => 0
theorem gapsL_cons (n : Nat) (a : GArc) (t : List GArc) : gapsL n (a :: t) = gaps1 n a ++ gapsL (a.to.toNat + 1) t := rfl
def lastN : Nat → List GArc → Nat
  | n, [] => n
  | _, a :: t => lastN (a.to.toNat + 1) t
theorem lastN_snoc : ∀ (l : List GArc) (n : Nat) (a : GArc), lastN n (l ++ [a]) = a.to.toNat + 1
  | [], _, _ => rfl
  | _ :: t, _, a => lastN_snoc t _ a
theorem gapsL_append : ∀ (l m : List GArc) (n : Nat), gapsL n (l ++ m) = gapsL n l ++ gapsL (lastN n l) m
  | [], m, n => by simp [gapsL, lastN]
  | a :: t, m, n => by
    have := gapsL_append t m (a.to.toNat + 1)
    rw [List.cons_append]
    rw [gapsL_cons, gapsL_cons, this, List.append_assoc]
    rfl
theorem gapsL_snoc (l : List GArc) (k : Nat) (h : k < l.length) : gapsL 0 (l.take (k + 1)) = gapsL 0 (l.take k) ++ gaps1 (nextOf l k) l[k] := by
  rw [List.take_succ_eq_append_getElem h, gapsL_append]
  congr 1
  unfold nextOf
  rcases Nat.eq_zero_or_pos k with h0 | h0
  · subst h0; simp [gapsL, lastN]
  · rw [take_last l k h0 (by omega), lastN_snoc, if_neg (by omega), List.getElem?_eq_getElem (show k - 1 < l.length by omega)]
    simp [gapsL]
theorem nextOf_succ (l : List GArc) (k : Nat) (h : k < l.length) : nextOf l (k + 1) = l[k].to.toNat + 1 := by
  unfold nextOf
  rw [if_neg (by omega), Nat.add_sub_cancel, List.getElem?_eq_getElem h]
theorem nextOf_le (l : List GArc) (k : Nat) (h : k < l.length) (hr : rise none l = true) : nextOf l k ≤ l[k].to.toNat := by
  have := rise_stepOk l k h hr
  unfold stepOk at this
  unfold nextOf
  split
  · omega
  · rename_i hk
    have hk' : (k == 0) = false := by simpa using hk
    rw [hk', List.getElem?_eq_getElem (show k - 1 < l.length by omega)] at this
    rw [List.getElem?_eq_getElem (show k - 1 < l.length by omega)]
    simp at this
    have := UInt32.lt_iff_toNat_lt.1 this.2
    simp only
    omega
theorem rise_wt (l : List GArc) (k : Nat) (h : k < l.length) (hr : rise none l = true) : 0 < l[k].wt.toNat := by
  have := rise_stepOk l k h hr
  unfold stepOk at this
  simp at this
  have h1 := this.1
  rcases Nat.eq_zero_or_pos l[k].wt.toNat with h0 | h0
  · exact absurd (UInt32.toNat_inj.1 (by simpa using h0)) h1
  · exact h0
theorem gaps1_len (n : Nat) (a : GArc) : (gaps1 n a).length ≤ 22 := by
  have h1 := vput_len64 (a.to.toNat - n) (by have := u32_lt a.to; omega)
  have h2 := vput_len64 (a.wt.toNat - 1) (by have := u32_lt a.wt; omega)
  simp [gaps1]; omega
theorem gapsL_len : ∀ (l : List GArc) (n : Nat), (gapsL n l).length ≤ 22 * l.length
  | [], n => by simp [gapsL]
  | a :: t, n => by
    have h1 := gaps1_len n a
    have h2 := gapsL_len t (a.to.toNat + 1)
    simp only [gapsL, List.length_append, List.length_cons]
    omega

/-! ### reading -/
def gbad (s : List UInt8) : Int := if s = [] then 2 else 9
/-- n more neighbours, behind 'acc', of a reader (s, e) -/
def gget : Nat → List GArc → Nat → Nat → List UInt8 → Int → List GArc × List UInt8 × Int
  | 0, acc, _, _, s, e => (acc, s, e)
  | n + 1, acc, next, left, s, e =>
    if 4294967295 < next ∨ left = 0 then ([], [], gbad s)
    else
      let r := numS (4294967295 - next) s e
      let q := numS (left - 1) r.2.1 r.2.2
      if q.2.2 ≠ 0 then ([], [], q.2.2)
      else gget n (acc ++ [⟨UInt32.ofNat (next + r.1), UInt32.ofNat (q.1 + 1)⟩]) (next + r.1 + 1) (left - (q.1 + 1)) q.2.1 0
def gread (s : List UInt8) (e : Int) : List GArc × List UInt8 × Int :=
  let r := numS 18446744073709551615 s e
  if r.2.2 ≠ 0 then ([], [], r.2.2) else gget r.1 [] 0 2147483647 r.2.1 0
theorem u32_ofNat_toNat (n : Nat) (h : n < 4294967296) : (UInt32.ofNat n).toNat = n := by rw [UInt32.toNat_ofNat']; omega
theorem numS_zero (most : Nat) (s : List UInt8) : numS most s 0 = numR most s := by unfold numS; rw [if_neg (by simp)]
/-- what is put reads back -/
theorem gget_gapsL : ∀ (l : List GArc) (acc : List GArc) (next left : Nat) (t : List UInt8), (∀ a, l.head? = some a → next ≤ a.to.toNat) → rise none l = true → gsum l ≤ left →
    gget l.length acc next left (gapsL next l ++ t) 0 = (acc ++ l, t, 0)
  | [], acc, next, left, t, _, _, _ => by simp [gget, gapsL]
  | a :: l, acc, next, left, t, hn, hr, hs => by
    have h0 := hn a rfl
    have hw := rise_wt (a :: l) 0 (by simp) hr
    simp only [List.getElem_cons_zero] at hw
    have hto := u32_lt a.to
    have hwt := u32_lt a.wt
    have hsum : gsum (a :: l) = a.wt.toNat + gsum l := by simp [gsum]
    rw [List.length_cons, gget, if_neg (by omega)]
    have e1 : numS (4294967295 - next) (gapsL next (a :: l) ++ t) 0 = (a.to.toNat - next, vput (a.wt.toNat - 1) ++ (gapsL (a.to.toNat + 1) l ++ t), 0) := by
      have : gapsL next (a :: l) ++ t = vput (a.to.toNat - next) ++ (vput (a.wt.toNat - 1) ++ (gapsL (a.to.toNat + 1) l ++ t)) := by simp [gapsL, gaps1]
      rw [numS_zero, this, numR_vput _ _ _ (by omega) (by omega)]
    have e2 : numS (left - 1) (vput (a.wt.toNat - 1) ++ (gapsL (a.to.toNat + 1) l ++ t)) 0 = (a.wt.toNat - 1, gapsL (a.to.toNat + 1) l ++ t, 0) := by
      rw [numS_zero, numR_vput _ _ _ (by omega) (by omega)]
    simp only [e1, e2]
    rw [if_neg (by simp)]
    have ea : (⟨UInt32.ofNat (next + (a.to.toNat - next)), UInt32.ofNat (a.wt.toNat - 1 + 1)⟩ : GArc) = a := by
      rw [show next + (a.to.toNat - next) = a.to.toNat from by omega, show a.wt.toNat - 1 + 1 = a.wt.toNat from by omega, UInt32.ofNat_toNat, UInt32.ofNat_toNat]
    rw [ea, show next + (a.to.toNat - next) + 1 = a.to.toNat + 1 from by omega, show left - (a.wt.toNat - 1 + 1) = left - a.wt.toNat from by omega]
    have hr2 : rise none l = true ∧ ∀ b, l.head? = some b → a.to.toNat + 1 ≤ b.to.toNat := by
      cases l with
      | nil => exact ⟨rfl, fun b h => by simp at h⟩
      | cons b m =>
        simp [rise] at hr
        refine ⟨by simp [rise]; exact ⟨hr.2.1.1, hr.2.2⟩, fun c hc => ?_⟩
        simp at hc
        subst hc
        exact UInt32.lt_iff_toNat_lt.1 hr.2.1.2
    rw [gget_gapsL l (acc ++ [a]) _ _ t hr2.2 hr2.1 (by omega), List.append_assoc]
    rfl
theorem gread_gput (l : List GArc) (t : List UInt8) (hl : l.length < 18446744073709551616) (h : gmay l = true) : gread (gput l ++ t) 0 = (l, t, 0) := by
  unfold gmay at h
  simp at h
  unfold gread gput
  have e : numS 18446744073709551615 (vput l.length ++ gapsL 0 l ++ t) 0 = (l.length, gapsL 0 l ++ t, 0) := by
    rw [numS_zero, List.append_assoc, numR_vput _ _ _ hl (by omega)]
  rw [e]
  simp only
  rw [if_neg (by simp), gget_gapsL l [] 0 2147483647 t (fun a _ => Nat.zero_le _) h.1 h.2]
  rfl
/-- what was read is put as it stood -/
theorem gget_ok : ∀ (n : Nat) (acc : List GArc) (next left : Nat) (s : List UInt8) (out : List GArc) (s' : List UInt8), left ≤ 2147483647 → gget n acc next left s 0 = (out, s', 0) →
    ∃ more, out = acc ++ more ∧ more.length = n ∧ s = gapsL next more ++ s' ∧ rise none more = true ∧ (∀ a, more.head? = some a → next ≤ a.to.toNat) ∧ gsum more ≤ left
  | 0, acc, next, left, s, out, s', _, h => by
    simp [gget] at h
    exact ⟨[], by simp [h.1], rfl, by simp [gapsL, h.2], rfl, fun a h => by simp at h, by simp [gsum]⟩
  | n + 1, acc, next, left, s, out, s', hleft, h => by
    rw [gget] at h
    split at h
    · simp [gbad] at h
      split at h <;> omega
    · rename_i hc
      simp only [numS_zero] at h
      split at h
      · rename_i he
        simp only [Prod.mk.injEq] at h
        exact absurd h.2.2 he
      · rename_i he
        generalize hr : numR (4294967295 - next) s = r at *
        obtain ⟨g, s1, e1⟩ := r
        have he1 : e1 = 0 := by
          rcases Decidable.em (e1 = 0) with h0 | h0
          · exact h0
          · exfalso
            apply he
            unfold numS
            simp [h0]
        subst he1
        simp only [numS_zero] at h he
        generalize hq : numR (left - 1) s1 = q at *
        obtain ⟨x, s2, e2⟩ := q
        have he2 : e2 = 0 := by simpa using he
        subst he2
        have hg := (numR_lt (4294967295 - next) s).2
        rw [hr] at hg
        have hx := (numR_lt (left - 1) s1).2
        rw [hq] at hx
        simp only at hg hx h
        obtain ⟨more, h1, h2, h3, h4, h5, h6⟩ := gget_ok n _ _ _ _ _ _ (by omega) h
        have hto := u32_ofNat_toNat (next + g) (by omega)
        have hwt := u32_ofNat_toNat (x + 1) (by omega)
        refine ⟨⟨UInt32.ofNat (next + g), UInt32.ofNat (x + 1)⟩ :: more, by rw [h1]; simp, by simp [h2], ?_, ?_, ?_, ?_⟩
        · have r1 := numR_one _ _ _ _ hr
          have r2 := numR_one _ _ _ _ hq
          rw [r1, r2, h3]
          simp only [gapsL, gaps1, hto, hwt]
          rw [show next + g - next = g from by omega, Nat.add_sub_cancel]
          simp
        · have hne : (UInt32.ofNat (x + 1)) ≠ 0 := fun e => by
            have := congrArg UInt32.toNat e
            rw [hwt] at this
            simp at this
          cases more with
          | nil => simp [rise]; exact fun e => hne (by simpa using e)
          | cons b m =>
            have hb := h5 b rfl
            simp [rise] at h4 ⊢
            refine ⟨fun e => hne (by simpa using e), ⟨h4.1, ?_⟩, h4.2⟩
            rw [UInt32.lt_iff_toNat_lt]
            have := hto
            simp only [UInt32.ofNat_add] at this
            omega
        · intro a ha
          simp at ha
          subst ha
          have := hto
          simp only [UInt32.ofNat_add] at this
          simp only
          omega
        · have : gsum (⟨UInt32.ofNat (next + g), UInt32.ofNat (x + 1)⟩ :: more) = (UInt32.ofNat (x + 1)).toNat + gsum more := by simp [gsum]
          rw [this, hwt]
          omega
theorem gread_ok (b : List UInt8) (out : List GArc) (s' : List UInt8) (h : gread b 0 = (out, s', 0)) : gmay out = true ∧ b = gput out ++ s' ∧ out.length < 18446744073709551616 := by
  unfold gread at h
  simp only [numS_zero] at h
  have hlt := (numR_lt 18446744073709551615 b).1
  split at h
  · rename_i he
    simp only [Prod.mk.injEq] at h
    exact absurd h.2.2 he
  · rename_i he
    generalize hr : numR 18446744073709551615 b = r at *
    obtain ⟨n, s1, e1⟩ := r
    have he1 : e1 = 0 := by simpa using he
    subst he1
    simp only at h hlt
    obtain ⟨more, h1, h2, h3, h4, h5, h6⟩ := gget_ok n [] 0 2147483647 s1 out s' (by omega) h
    rw [List.nil_append] at h1
    subst h1
    refine ⟨by unfold gmay; simp [h4, h6], ?_, by omega⟩
    rw [numR_one _ _ _ _ hr, h3]
    simp [gput, h2]
end Go.Proofs.Ythfnikdapknohaa

namespace Go.Proofs.Ythfnikdapknohaa
set_option linter.unusedSimpArgs false
set_option linter.unusedVariables false
open Go.RowKit

theorem or128 (n : Nat) : bits .or .u8 (((UInt8.ofNat n).toNat : Nat) : Int) 128 = (((UInt8.ofNat (n % 128 + 128)).toNat : Nat) : Int) := by
  have h := or_u8 (UInt8.ofNat n) 128
  rw [show (((128 : UInt8).toNat : Nat) : Int) = 128 from rfl] at h
  rw [h]
  congr 2
  have h3 : ∀ m : Nat, m < 256 → UInt8.ofNat m ||| 128 = UInt8.ofNat (m % 128 + 128) := by
    intro m hm
    have : ∀ x : Fin 256, UInt8.ofNat x.1 ||| 128 = UInt8.ofNat (x.1 % 128 + 128) := by decide +kernel
    exact this ⟨m, hm⟩
  have h1 : UInt8.ofNat n = UInt8.ofNat (n % 256) := by
    apply UInt8.toNat_inj.1
    rw [UInt8.toNat_ofNat', UInt8.toNat_ofNat']
    omega
  rw [h1, h3 _ (Nat.mod_lt _ (by decide))]
  congr 2
  omega
theorem or128' (n : Nat) : bits .or .u8 ((n : Int) % 256) 128 = (n : Int) % 128 + 128 := by
  have h := or128 n
  rw [UInt8.toNat_ofNat', UInt8.toNat_ofNat'] at h
  rw [show ((n : Int) % 256) = ((n % 2 ^ 8 : Nat) : Int) from by omega, h]
  omega

set_option maxRecDepth 100000 in
set_option maxHeartbeats 800000 in
theorem vput_any (w : World) (base : Nat) (v0 : Value) (l0 : List UInt8) (hown : Ow w base v0 l0) (n : Nat) (hn : n < 18446744073709551616) (hsz0 : l0.length ≤ 549755813888) (hbase : base ≤ w.heap.size) :
    Calls Try.prog 59 #[v0, .int .u64 (n : Int)] w fun e w' => ∃ v', e = .returned v' ∧ Ow w' base v' (l0 ++ vput n) ∧ Ext w w' v0 v' := by
  have hlen := vput_len64 n hn
  go_enter Try.func59, Try.ntmps59
  go_wp2_with fail
  go_loopw [0, 1] (fun b x wr => ∃ (m : Nat) (acc : List UInt8), x = .int .u64 (m : Int) ∧ m < 18446744073709551616 ∧ Ow wr base b (l0 ++ acc) ∧ acc ++ vput m = vput n ∧ Ext w wr v0 b) (fun _ x _ => (intOf x).toNat)
  case atStart => exact ⟨n, [], rfl, hn, by simpa using hown, rfl, Ext.refl _ _⟩
  case round =>
    obtain ⟨m, acc, rfl, hm, hob, hacc, hext⟩ := hrel
    have hal : acc.length ≤ 11 := by have := congrArg List.length hacc; simp at this; omega
    have hor := or128' m
    have hsz := hext.gr.size
    have hll : (l0 ++ acc).length ≤ 549755813900 := by simp; omega
    by_cases hlt : 127 < m
    · have hst := vput_ge (n := m) (by omega)
      have Hst := Lib.hid hst
      have Hacc := Lib.hid hacc
      clear hst hacc
      go_wp2_with (at_builtin
                   go_loud (refine wpList_app1 rfl (.tmp 9) (.tmp 13) rfl (b := UInt8.ofNat (m % 128 + 128)) hob (by simp [b8]; omega) rfl rfl (by omega) (by omega) ?_)
                   intro v' w' hown' hext')
      go_roundw
      case rel => exact ⟨m / 128, acc ++ [UInt8.ofNat (m % 128 + 128)], by go_num, by omega, by rw [← List.append_assoc]; exact hown', by rw [← Hacc.out, Hst.out, List.append_assoc]; rfl, hext.trans hext'⟩
      case measure => simp [intOf]; omega
    · have hst := vput_lt (n := m) (by omega)
      rw [hst] at hacc
      have Hacc := Lib.hid hacc
      clear hst hacc
      go_wp2_with (at_builtin
                   go_loud (refine wpList_app1 rfl (.tmp 15) (.tmp 18) rfl (b := UInt8.ofNat m) hob (by first | rfl | (simp [b8]; omega)) rfl rfl (by omega) (by omega) ?_)
                   intro v' w' hown' hext')
      go_ret
      refine ⟨_, rfl, ?_, hext.trans hext'⟩
      rw [List.append_assoc, Hacc.out] at hown'
      exact hown'
end Go.Proofs.Ythfnikdapknohaa

namespace Go.Proofs.Ythfnikdapknohaa
set_option linter.unusedSimpArgs false
set_option linter.unusedVariables false
open Go.RowKit

/-- block g holds a Reader of which l is left, with error e -/
def RdrAt (w : World) (g : Nat) (l : List UInt8) (e : Int) : Prop :=
  ∃ v l', BoxAt 145 w g [v, .int .i64 e] ∧ By w g v l' ∧ (e = 0 → l' = l) ∧ (e ≠ 0 → l = []) ∧ -9223372036854775808 ≤ e ∧ e ≤ 9223372036854775807
theorem RdrAt.lt {w : World} {g : Nat} {l : List UInt8} {e : Int} (h : RdrAt w g l e) : g < w.heap.size := by
  obtain ⟨v, l', h1, _⟩ := h; exact h1.lt
theorem RdrAt.below {w w' : World} {g B : Nat} {l : List UInt8} {e : Int} (h : RdrAt w g l e) (hg : g < B) (hb : Below B w w') : RdrAt w' g l e := by
  obtain ⟨v, l', h1, h2, h3⟩ := h
  exact ⟨v, l', h1.below hg hb, h2.below (hb.mono (by omega)), h3⟩
theorem RdrAt.grown {w w' : World} {g : Nat} {row : Option Nat} {l : List UInt8} {e : Int} (h : RdrAt w g l e) (hg : w.grownBy w' row) (hr : ∀ k, row = some k → g < k) : RdrAt w' g l e := by
  have hl := h.lt
  obtain ⟨v, l', h1, h2, h3⟩ := h
  have hb : Below (g + 1) w w' := (Below.refl _ _).grown hg (by omega) (fun k hk => by have := hr k hk; omega)
  exact ⟨v, l', h1.below (by omega) hb, h2.below (hb.mono (by omega)), h3⟩
theorem RdrAt.err {w : World} {g : Nat} {l : List UInt8} {e : Int} (h : RdrAt w g l e) : e ≠ 0 → l = [] := by
  obtain ⟨v, l', h1, h2, h3, h4, _⟩ := h; exact h4

def badL (l : List UInt8) (e n : Int) : List UInt8 := if e = 0 ∧ n ≠ 0 then [] else l
def badE (e n : Int) : Int := if e = 0 then n else e
def endE (l : List UInt8) (e : Int) : Int := if 0 < l.length then 4 else e
/-! ### the table of Len8 -/
theorem ret_i64 {a b : Int} (h : a = b) : Ending.returned (.int .i64 a) = .returned (.int .i64 b) := by rw [h]
set_option maxHeartbeats 4000000 in
set_option maxRecDepth 100000 in
theorem len8_any (w : World) (n : Nat) (hn : n < 256) : Calls Try.prog 78 #[.int .u8 (n : Int)] w fun e w' => e = .returned (.int .i64 (Lib.bitLen n : Nat)) ∧ w = w' := by
  go_enter Try.func78, Try.ntmps78
  go_wp2_with fail
  go_ret
  refine ⟨ret_i64 ?_, rfl⟩
  clear w
  revert n
  unfold wrap64
  decide +kernel
theorem bitLen_small (n : Nat) (h : n < 128) : Lib.bitLen n ≤ 7 ∧ (Lib.bitLen n ≤ 1 ↔ n ≤ 1) := by
  have : ∀ x : Fin 128, Lib.bitLen x.1 ≤ 7 ∧ (Lib.bitLen x.1 ≤ 1 ↔ x.1 ≤ 1) := by decide +kernel
  exact this ⟨n, h⟩

set_option maxRecDepth 100000 in
set_option maxHeartbeats 800000 in
theorem vnew_any (w : World) (A : Option Addr) (n c : Nat) : Calls Try.prog 42 #[.slice A n c] w fun e w' => e = .returned (.pointer (some ⟨w.heap.size, 0, none⟩)) ∧ w' = w.alloc (.cells #[.slice A n c, .int .i64 0] 145) := by
  go_enter Try.func42, Try.ntmps42
  go_wp2_with fail
  go_ret
  exact ⟨rfl, rfl⟩
theorem RdrAt.new_ {w : World} {v : Value} {l : List UInt8} (h : By w w.heap.size v l) : RdrAt (w.alloc (.cells #[v, .int .i64 0] 145)) w.heap.size l 0 :=
  ⟨v, l, BoxAt.new_ _ _ _, h.alloc (Nat.le_refl _) _, fun _ => rfl, fun h => absurd rfl h, by decide, by decide⟩

set_option maxRecDepth 100000 in
set_option maxHeartbeats 800000 in
theorem verr_any (w : World) (g : Nat) (l : List UInt8) (e : Int) (h : RdrAt w g l e) : Calls Try.prog 44 #[.pointer (some ⟨g, 0, none⟩)] w fun ev w' => ev = .returned (.int .i64 e) ∧ w = w' := by
  obtain ⟨v, l', h1, _⟩ := h
  have hc := h1.cell 1 _ rfl
  go_enter Try.func44, Try.ntmps44
  go_wp2_with fail
  go_ret
  exact ⟨rfl, rfl⟩
set_option maxRecDepth 100000 in
set_option maxHeartbeats 800000 in
theorem vleft_any (w : World) (g : Nat) (l : List UInt8) (e : Int) (h : RdrAt w g l e) : Calls Try.prog 94 #[.pointer (some ⟨g, 0, none⟩)] w fun ev w' => ev = .returned (.int .i64 (l.length : Nat)) ∧ w = w' := by
  obtain ⟨v, l', h1, h2, h3, h4, _⟩ := h
  have hc := h1.cell 1 _ rfl
  have hd := h1.cell 0 _ rfl
  by_cases he : e = 0
  · obtain rfl := h3 he
    subst he
    obtain ⟨A, c, rfl, _⟩ := h2
    go_enter Try.func94, Try.ntmps94
    go_wp2_with fail
    go_ret
    exact ⟨rfl, rfl⟩
  · obtain rfl := h4 he
    have hne : (e == 0) = false := by simpa using he
    have hne' : (e != 0) = true := by simpa using he
    go_enter Try.func94, Try.ntmps94
    go_wp2_with fail
    go_ret
    exact ⟨rfl, rfl⟩
set_option maxRecDepth 100000 in
set_option maxHeartbeats 800000 in
theorem vbad_any (w : World) (g : Nat) (l : List UInt8) (e n : Int) (h : RdrAt w g l e) (hn : -9223372036854775808 ≤ n ∧ n ≤ 9223372036854775807) :
    Calls Try.prog 79 #[.pointer (some ⟨g, 0, none⟩), .int .i64 n] w fun ev w' => ev = .returned (.tuple #[]) ∧ RdrAt w' g (badL l e n) (badE e n) ∧ w.grownBy w' (some g) := by
  obtain ⟨v, l', h1, h2, h3, h4, h5⟩ := h
  have hc := h1.cell 1 _ rfl
  have hfr := h1.frozen 1
  by_cases he : e = 0
  · obtain rfl := h3 he
    subst he
    by_cases hn0 : n = 0
    · subst hn0
      go_enter Try.func79, Try.ntmps79
      go_wp2_with fail
      go_end0
      exact ⟨rfl, ⟨v, l', h1, h2, fun _ => by simp [badL], fun h => absurd rfl h, by decide, by decide⟩, grefl _ _⟩
    · have hne : (n == 0) = false := by simpa using hn0
      have hne' : (n != 0) = true := by simpa using hn0
      go_enter Try.func79, Try.ntmps79
      go_wp2_with fail
      go_end0
      refine ⟨rfl, ?_, gset _ _ _⟩
      rw [badL, badE, if_pos ⟨rfl, hn0⟩, if_pos rfl]
      exact ⟨v, l', h1.put 1 _, h2.below ((Below.refl _ _).setCell (p := ⟨g, 1, none⟩) (Nat.le_refl _) _), fun h => absurd h hn0, fun _ => rfl, hn⟩
  · have hne : (e == 0) = false := by simpa using he
    go_enter Try.func79, Try.ntmps79
    go_wp2_with fail
    go_end0
    refine ⟨rfl, ?_, grefl _ _⟩
    rw [badL, badE, if_neg (fun h => he h.1), if_neg he]
    exact ⟨v, l', h1, h2, h3, h4, h5⟩
end Go.Proofs.Ythfnikdapknohaa

namespace Go.Proofs.Ythfnikdapknohaa
set_option linter.unusedSimpArgs false
set_option linter.unusedVariables false
open Go.RowKit

def cArc : Cdc GArc := Cdc.flat 2 (fun a => [.int .u32 (a.to.toNat : Int), .int .u32 (a.wt.toNat : Int)]) (fun _ => True) (fun _ => rfl) (fun x u hu => by
  simp at hu
  rcases hu with rfl | rfl <;> rfl)
theorem infoArc : (Try.prog.info? 70).map (fun i => (i.zero, i.size, i.bytes)) = some (some (.agg #[.int .u32 0, .int .u32 0]), cArc.n, 8) := by kernel_rfl
theorem InC.arcs' {w : World} {cs : List Value} (h : InC w 65 cs) : ∃ v xs, cs = [v] ∧ RowOn cArc w (fun k => k < w.heap.size) (fun k => k < w.heap.size) v xs :=
  h.row (C := cArc) Try.underlying65 (by kernel_rfl) (by decide) fun cs hc => by
    obtain ⟨hl, hf⟩ := hc.fields Try.underlying70 (by kernel_rfl) (by kernel_rfl)
    obtain ⟨u0, h0, g0⟩ := hf 0 _ rfl
    obtain ⟨u1, h1, g1⟩ := hf 1 _ rfl
    obtain ⟨n0, e0, k0⟩ := InC.u32 (S := fun _ => True) Try.underlying51 g0
    obtain ⟨n1, e1, k1⟩ := InC.u32 (S := fun _ => True) Try.underlying51 g1
    simp at e0 e1
    subst e0; subst e1
    match cs, hl with
    | [c0, c1], _ =>
      injection h0 with h0
      injection h1 with h1
      subst h0; subst h1
      exact ⟨⟨n0, n1⟩, rfl, trivial⟩
/-- the value reads as these arcs, in blocks below B -/
abbrev ByA (w : World) (B : Nat) (v : Value) (l : List GArc) : Prop := RowOn cArc w (fun k => k < B) (fun _ => True) v l
theorem ByA.below {w w' : World} {B : Nat} {v : Value} {l : List GArc} (h : ByA w B v l) (hb : Below B w w') : ByA w' B v l := by
  obtain ⟨A, c, h1, h2, h3, h4⟩ := h
  refine ⟨A, c, h1, h2, h3, fun hn => ?_⟩
  obtain ⟨ad, e, hb', hc⟩ := h4 hn
  refine ⟨ad, e, hb', fun i x hx => ?_⟩
  obtain ⟨cs, ha, hcs⟩ := hc i x hx
  exact ⟨cs, ha, fun j u hu => (hb.cell (by rw [add_block]; exact hb')).trans (hcs j u hu)⟩
theorem ByA.more {w : World} {B B' : Nat} {v : Value} {l : List GArc} (h : ByA w B v l) (hB : B ≤ B') : ByA w B' v l := h.mono (fun _ hk => by omega) fun _ hk => hk
theorem ByA.step {w w' : World} {v : Value} {l : List GArc} (h : ByA w w.heap.size v l) (hb : Below w.heap.size w w') : ByA w' w'.heap.size v l := (h.below hb).more hb.size
theorem InC.arcs {w : World} {v : Value} (h : InC w 65 [v]) : ∃ l, ByA w w.heap.size v l := by
  obtain ⟨v', xs, e, hr⟩ := h.arcs'
  injection e with e
  subst e
  exact ⟨xs, hr.mono (fun _ hk => hk) (fun _ _ => trivial)⟩
/-- the two cells of the k-th arc -/
theorem ByA.cells {w : World} {B : Nat} {A : Option Addr} {n c : Nat} {l : List GArc} (h : ByA w B (.slice A n c) l) (k : Nat) (hk : k < l.length) :
    ∃ ad, A = some ad ∧ ad.block < B ∧ w.cell? (ad.add (k * 2)) = some (.int .u32 ((l[k]).to.toNat : Int)) ∧ w.cell? { block := (ad.add (k * 2)).block, off := (ad.add (k * 2)).off + 1 } = some (.int .u32 ((l[k]).wt.toNat : Int)) := by
  obtain ⟨ad, cs, e, hb, ⟨rfl, _⟩, hc⟩ := h.at_ k l[k] (List.getElem?_eq_getElem hk)
  refine ⟨ad, e, hb, hc 0 _ rfl, ?_⟩
  have := hc 1 _ rfl
  rw [← add_add] at this
  have e2 : (ad.add (k * cArc.n)).add 1 = { block := (ad.add (k * 2)).block, off := (ad.add (k * 2)).off + 1 } := by simp [Addr.add, cArc, Cdc.flat]
  rw [← e2]
  exact this

set_option maxRecDepth 100000 in
set_option maxHeartbeats 800000 in
theorem gsum_any (w : World) (B : Nat) (v : Value) (l : List GArc) (hl : l.length ≤ 4294967296) (h : ByA w B v l) (hB : B ≤ w.heap.size) :
    Calls Try.prog 82 #[v] w fun e w' => e = .returned (.int .u64 (gsum l : Nat)) ∧ Below w.heap.size w w' := by
  obtain ⟨A, c, rfl, hc1, hc2⟩ := h.form
  unfold maxLen at hc2
  have hlt := fun k => gsum_lt (l.take k)
  have Hlt := Lib.hid hlt
  clear hlt
  go_enter Try.func82, Try.ntmps82
  go_wp2_with fail
  go_loopw [3, 8] (fun x i wr => ∃ k : Nat, k ≤ l.length ∧ i = .int .i64 k ∧ x = .int .u64 (gsum (l.take k) : Nat) ∧ Below w.heap.size w wr) (fun _ i _ => l.length - (intOf i).toNat)
  case atStart => exact ⟨0, by omega, rfl, rfl, Below.refl _ _⟩
  case round =>
    obtain ⟨k, hk, rfl, rfl, hbl⟩ := hrel
    by_cases hlt : k < l.length
    · obtain ⟨ad, rfl, hab, hx0, hx1⟩ := (h.below (hbl.mono hB)).cells k hlt
      have hsn := gsum_snoc l k hlt
      have h1 := Hlt.out k
      have h2 : (l.take k).length ≤ 4294967296 := by simp; omega
      have h3 : gsum (l.take k) ≤ 18446744069414584320 := by
        have := Nat.mul_le_mul_right 4294967295 h2
        omega
      have Hsn := Lib.hid hsn
      have hwt := u32_lt (l[k]).wt
      clear hsn h1 h2
      generalize l[k] = a at *
      generalize gsum (l.take k) = S at *
      go_wp2_with fail
      go_roundw
      case rel => exact ⟨k + 1, by omega, by go_num, by rw [Hsn.out]; go_num, hbl.trans ((balloc _ _).mono hbl.size)⟩
      case measure => simp [intOf]; omega
    · obtain rfl : k = l.length := by omega
      rw [List.take_length]
      go_wp2_with fail
      go_ret
      exact ⟨rfl, hbl⟩
end Go.Proofs.Ythfnikdapknohaa

namespace Go.Proofs.Ythfnikdapknohaa
set_option linter.unusedSimpArgs false
set_option linter.unusedVariables false
open Go.RowKit

theorem gmay_take (l : List GArc) (k : Nat) (h : k < l.length) (hk : stepOk l k l[k] = false) : gmay l = false := by
  rcases hg : gmay l with _ | _
  · rfl
  · unfold gmay at hg
    simp at hg
    have := rise_stepOk l k h hg.1
    rw [hk] at this
    cases this

set_option maxRecDepth 100000 in
set_option maxHeartbeats 1600000 in
theorem gmay_any (w : World) (B : Nat) (v : Value) (l : List GArc) (hl : l.length ≤ 4294967296) (h : ByA w B v l) (hB : B ≤ w.heap.size) :
    Calls Try.prog 72 #[v] w fun e w' => e = .returned (.bool (gmay l)) ∧ Below w.heap.size w w' := by
  obtain ⟨A, c, rfl, hc1, hc2⟩ := h.form
  unfold maxLen at hc2
  have hsum := fun W (h : ByA W B (.slice A l.length c) l) hW => gsum_any W B (.slice A l.length c) l hl h hW
  have hgm : gmay l = (rise none l && decide (gsum l ≤ 2147483647)) := rfl
  have hno := fun k h hk => gmay_take l k h hk
  have Hsum := Lib.hid hsum
  have Hno := Lib.hid hno
  have Hgm := Lib.hid hgm
  clear hsum hno hgm
  go_enter Try.func72, Try.ntmps72
  go_wp2_with fail
  go_loopw [7] (fun i wr => ∃ k : Nat, k ≤ l.length ∧ i = .int .i64 k ∧ rise none (l.take k) = true ∧ Below w.heap.size w wr) (fun i _ => l.length - (intOf i).toNat)
  case atStart => exact ⟨0, by omega, rfl, rfl, Below.refl _ _⟩
  case round =>
    obtain ⟨k, hk, rfl, hri, hbl⟩ := hrel
    by_cases hlt : k < l.length
    · obtain ⟨ad, rfl, hab, hx0, hx1⟩ := (h.below (hbl.mono hB)).cells k hlt
      have hstep := rise_snoc l k hlt
      rw [hri, Bool.true_and] at hstep
      have hno := Hno.out k hlt
      have hst : stepOk l k l[k] = ((l[k]).wt != 0 && (k == 0 || match l[k - 1]? with | some b => decide (b.to < (l[k]).to) | none => true)) := rfl
      have hbz := hbl.size
      by_cases hw0 : (l[k]).wt = 0
      · rw [hw0] at hst
        simp at hst
        have hf := hno hst
        have Hf := Lib.hid hf
        have hwt : (((l[k]).wt.toNat : Nat) : Int) = 0 := by rw [hw0]; rfl
        rw [hwt] at hx1
        clear hst hf hno hstep hwt hw0
        generalize l[k] = a at *
        go_wp2_with fail
        go_quiet (fail)
        go_wp2_with fail
        go_ret
        rw [Hf.out]
        exact ⟨rfl, bdrewN (hbl.trans ((balloc _ _).mono hbl.size)) _⟩
      · have hwn : ((((l[k]).wt.toNat : Nat) : Int) == 0) = false := beq_eq_false_iff_ne.2 (fun e => hw0 (UInt32.toNat_inj.1 (by simpa using e)))
        have hwn' : ((l[k]).wt != 0) = true := by simpa using hw0
        rw [hwn', Bool.true_and] at hst
        rcases Nat.eq_zero_or_pos k with hk0 | hk0
        · have h0' : (k == 0) = true := by simpa using hk0
          rw [h0', Bool.true_or] at hst
          rw [hst] at hstep
          have hk0i : decide (0 < k) = false := by simp; omega
          have Hstep := Lib.hid hstep
          have Hk0 := Lib.hid hk0
          clear hst hstep hno hwn' hw0 h0' hk0
          generalize l[k] = a at *
          go_wp2_with fail
          go_quiet (fail)
          go_wp2_with fail
          go_roundw
          case rel => exact ⟨k + 1, by omega, by go_num, Hstep.out, bdrewN (hbl.trans ((balloc _ _).mono hbl.size)) _⟩
          case measure => simp [intOf]; omega
        · obtain ⟨m, rfl⟩ : ∃ m, k = m + 1 := ⟨k - 1, by omega⟩
          have h0' : (m + 1 == 0) = false := by simp
          have hm : m < l.length := by omega
          rw [h0', Bool.false_or, Nat.add_sub_cancel, List.getElem?_eq_getElem hm] at hst
          obtain ⟨ad', e, _, hy0, hy1⟩ := (h.below (hbl.mono hB)).cells m hm
          injection e with e
          subst e
          simp only at hst
          rw [hst] at hstep hno
          have Hstep := Lib.hid hstep
          have Hno1 := Lib.hid hno
          clear hst hstep hno hwn' hw0 h0'
          generalize l[m + 1] = a at *
          generalize l[m] = b at *
          have hx0' := World.cell?_alloc_lt wr (.cells #[.int .u32 (a.to.toNat : Int), .int .u32 (a.wt.toNat : Int)] 70) (ad.add (m * 2)) (by rw [add_block]; omega)
          rw [hy0] at hx0'
          by_cases hlo : b.to < a.to
          · have hle : decide ((a.to.toNat : Int) ≤ (b.to.toNat : Int)) = false := by
              have := UInt32.lt_iff_toNat_lt.1 hlo
              simp; omega
            have hle' : decide (a.to.toNat ≤ b.to.toNat) = false := by
              have := UInt32.lt_iff_toNat_lt.1 hlo
              simp; omega
            have hlt' : (decide (b.to < a.to)) = true := by simpa using hlo
            rw [hlt'] at Hstep
            clear hlo hlt' Hno1
            go_wp2_with fail
            go_quiet (fail)
            go_wp2_with fail
            go_roundw
            case rel => exact ⟨m + 1 + 1, by omega, by go_num, Hstep.out, bdrewN (hbl.trans ((balloc _ _).mono hbl.size)) _⟩
            case measure => simp [intOf]; omega
          · have hle : decide ((a.to.toNat : Int) ≤ (b.to.toNat : Int)) = true := by
              have : ¬ b.to.toNat < a.to.toNat := fun h => hlo (UInt32.lt_iff_toNat_lt.2 h)
              simp; omega
            have hle' : decide (a.to.toNat ≤ b.to.toNat) = true := by
              have : ¬ b.to.toNat < a.to.toNat := fun h => hlo (UInt32.lt_iff_toNat_lt.2 h)
              simp; omega
            have hf := Hno1.out (by simpa using hlo)
            have Hf := Lib.hid hf
            clear hlo hf Hstep Hno1
            go_wp2_with fail
            go_quiet (fail)
            go_wp2_with fail
            go_ret
            rw [Hf.out]
            exact ⟨rfl, bdrewN (hbl.trans ((balloc _ _).mono hbl.size)) _⟩
    · obtain rfl : k = l.length := by omega
      rw [List.take_length] at hri
      have hs := Hsum.out wr (h.below (hbl.mono hB)) (Nat.le_trans hB hbl.size)
      have hgm := Hgm.out
      rw [hri, Bool.true_and] at hgm
      have HG := Lib.hid hgm
      clear hgm Hgm
      generalize gsum l = S at *
      have Hs := Lib.hid hs
      clear hs
      go_wp2_with fail
      refine Hs.out.mono ?_
      rintro _ w1 ⟨rfl, hb1⟩
      go_wp2_with fail
      go_ret
      rw [HG.out]
      refine ⟨?_, bstep hbl hb1⟩
      exact congrArg (fun b => Ending.returned (Value.bool b)) (decide_eq_decide.2 (by omega))

theorem Ext.ne {w w' : World} {v v' : Value} (h : Ext w w' v v') {g : Nat} (hg : g < w.heap.size) (hv : v.ownBlock ≠ some g) : v'.ownBlock ≠ some g := by
  rcases h.at_ with h1 | h1
  · rw [h1]; exact hv
  · intro e; have := h1 g e; omega
/-- the sums that a round reckons -/
theorem sub_u64 (a b : Nat) (h : b ≤ a) (ha : a < 18446744073709551616) : IntKind.u64.wrap ((a : Int) - (b : Int)) = ((a - b : Nat) : Int) := by rw [wrap_u64]; omega
set_option maxRecDepth 100000 in
set_option maxHeartbeats 1600000 in
theorem gapsput_any (w : World) (base B : Nat) (v0 : Value) (l0 : List UInt8) (hown : Ow w base v0 l0) (v : Value) (l : List GArc) (hl : l.length ≤ 1073741824) (hl0 : l0.length ≤ 1073741824) (h : ByA w B v l) (hB : B ≤ base) (hbase : base ≤ w.heap.size) (hm : gmay l = true) :
    Calls Try.prog 74 #[v0, v] w fun e w' => ∃ v', e = .returned (.tuple #[v', .int .i64 0]) ∧ Ow w' base v' (l0 ++ gput l) ∧ Ext w w' v0 v' := by
  obtain ⟨A, c, rfl, hc1, hc2⟩ := h.form
  unfold maxLen at hc2
  have hmay := gmay_any w B _ l (by omega) h (Nat.le_trans hB hbase)
  rw [hm] at hmay
  have hr : rise none l = true := by unfold gmay at hm; simp at hm; exact hm.1
  have Hmay := Lib.hid hmay
  have Hr := Lib.hid hr
  clear hmay hr hm
  have hne0 : ∀ k, v0.ownBlock = some k → base ≤ k ∧ k < w.heap.size := hown.blk
  go_enter Try.func74, Try.ntmps74
  go_wp2_with fail
  refine Hmay.out.mono ?_
  rintro _ w1 ⟨rfl, hb1⟩
  have hown1 := hown.below_ hb1
  go_wp2_with fail
  refine (vput_any w1 base v0 l0 hown1 l.length (by omega) (by omega) (Nat.le_trans hbase hb1.size)).mono ?_
  rintro _ w2 ⟨v2, rfl, hown2, hext2⟩
  have hx2 : Ext w w2 v0 v2 := hext2.after hb1 v0 rfl
  have h2 := h.below ((hb1.mono (Nat.le_trans hB hbase)).trans ((hext2.below (B := base) (Nat.le_trans hbase hb1.size) fun k hk => (hown1.blk k hk).1).mono hB))
  clear hown1 hb1 hext2 h Hmay
  have hlv := vput_len64 l.length (by omega)
  go_wp2_with fail
  go_loopw [0, 6, 20] (fun b x i wr => ∃ k : Nat, k ≤ l.length ∧ i = .int .i64 k ∧ x = .int .u64 (nextOf l k : Nat) ∧ Ow wr base b (l0 ++ vput l.length ++ gapsL 0 (l.take k)) ∧ Ext w wr v0 b ∧ ByA wr B (.slice A l.length c) l) (fun _ _ i _ => l.length - (intOf i).toNat)
  case atStart => exact ⟨0, by omega, rfl, rfl, by simpa [gapsL] using hown2, hx2, h2⟩
  case round =>
    obtain ⟨k, hk, rfl, rfl, hob, hext, hrow⟩ := hrel
    have hsz := hext.gr.size
    have hsz' : base ≤ wr.heap.size := Nat.le_trans hbase hsz
    by_cases hlt : k < l.length
    · obtain ⟨ad, rfl, hab, hx0, hx1⟩ := hrow.cells k hlt
      have hgl := gapsL_len (l.take k) 0
      have htk : (l.take k).length ≤ 1073741824 := by simp; omega
      have hbl : (l0 ++ vput l.length ++ gapsL 0 (l.take k)).length ≤ 30000000000 := by simp only [List.length_append]; omega
      have hsn := gapsL_snoc l k hlt
      have hnx := nextOf_succ l k hlt
      have hle := nextOf_le l k hlt Hr.out
      have hw0 := rise_wt l k hlt Hr.out
      have hto := u32_lt (l[k]).to
      have hwt := u32_lt (l[k]).wt
      have Hsn := Lib.hid hsn
      have Hnx := Lib.hid hnx
      have hsub := sub_u64 (l[k]).to.toNat (nextOf l k) hle (by omega)
      have hsub1 := sub_u64 (l[k]).wt.toNat 1 hw0 (by omega)
      rw [show ((1 : Nat) : Int) = 1 from rfl] at hsub1
      have hg1 : gaps1 (nextOf l k) l[k] = vput ((l[k]).to.toNat - nextOf l k) ++ vput ((l[k]).wt.toNat - 1) := rfl
      have Hg1 := Lib.hid hg1
      have hlv1 := (vput_len64 ((l[k]).to.toNat - nextOf l k) (by omega)).2
      clear hgl htk hsn hnx hg1
      generalize l[k] = a at *
      generalize nextOf l k = nx at *
      have hpre : l0 ++ vput l.length ++ gapsL 0 (l.take k) = l0 ++ vput l.length ++ gapsL 0 (l.take k) := rfl
      generalize hpp : l0 ++ vput l.length ++ gapsL 0 (l.take k) = pre at *
      have Hpp := Lib.hid hpp
      clear hpp hpre
      go_wp2_with fail
      have hbx := BoxAt.new_ 70 wr [.int .u32 (a.to.toNat : Int), .int .u32 (a.wt.toNat : Int)]
      have hxa : Ext wr (wr.alloc (.cells [.int .u32 (a.to.toNat : Int), .int .u32 (a.wt.toNat : Int)].toArray 70)) u0 u0 := (Ext.refl wr u0).then_ (balloc _ _)
      have hn0 : Value.ownBlock u0 ≠ some wr.heap.size := fun e => by have := (hob.blk _ e).2; omega
      have hsa : (wr.alloc (.cells [.int .u32 (a.to.toNat : Int), .int .u32 (a.wt.toNat : Int)].toArray 70)).heap.size = wr.heap.size + 1 := by simp
      have hba : base ≤ (wr.alloc (.cells [.int .u32 (a.to.toNat : Int), .int .u32 (a.wt.toNat : Int)].toArray 70)).heap.size := by omega
      refine (vput_any _ base u0 pre (hob.alloc (.cells [.int .u32 (a.to.toNat : Int), .int .u32 (a.wt.toNat : Int)].toArray 70)) (a.to.toNat - nx) (by omega) (by omega) hba).mono ?_
      rintro _ w3 ⟨v3, rfl, hob3, hext3⟩
      have hbx3 := hbx.grown hext3.gr hn0
      have hn3 := hext3.ne (g := wr.heap.size) (by omega) hn0
      have hs3 := hext3.gr.size
      have hc0 := hbx3.cell 0 _ rfl
      have hc1 := hbx3.cell 1 _ rfl
      have hx03 : Ext wr w3 u0 v3 := hxa.trans hext3
      have hp1 : (pre ++ vput (a.to.toNat - nx)).length ≤ 30000000100 := by rw [List.length_append]; omega
      clear hbx hx0 hx1
      generalize wr.alloc (.cells [.int .u32 (a.to.toNat : Int), .int .u32 (a.wt.toNat : Int)].toArray 70) = wa at *
      go_wp2_with fail
      refine (vput_any w3 base v3 _ hob3 (a.wt.toNat - 1) (by omega) (by omega) (by omega)).mono ?_
      rintro _ w4 ⟨v4, rfl, hob4, hext4⟩
      have hbx4 := hbx3.grown hext4.gr hn3
      have hd0 := hbx4.cell 0 _ rfl
      have hd1 := hbx4.cell 1 _ rfl
      have hx04 := hx03.trans hext4
      clear hc0 hc1
      go_wp2_with fail
      go_roundw
      case rel => exact ⟨k + 1, by omega, by go_num, by rw [Hnx.out]; go_num, by rw [Hsn.out, Hg1.out, ← List.append_assoc, ← List.append_assoc, Hpp.out]; exact hob4, hext.trans hx04, hrow.below ((hx04.below (B := base) hsz' fun q hq => (hob.blk q hq).1).mono hB)⟩
      case measure => simp [intOf]; omega
    · obtain rfl : k = l.length := by omega
      rw [List.take_length] at hob
      have hg : l0 ++ gput l = l0 ++ vput l.length ++ gapsL 0 l := by unfold gput; simp
      go_wp2_with fail
      go_ret2
      refine ⟨_, rfl, ?_, hext⟩
      rw [hg]
      exact hob
end Go.Proofs.Ythfnikdapknohaa

namespace Go.Proofs.Ythfnikdapknohaa
set_option linter.unusedSimpArgs false
set_option linter.unusedVariables false
open Go.RowKit

theorem vgo_cons (l : List UInt8) (k n : Nat) (hk : k < l.length) : vgo (l.drop k) k n =
    if k = 9 ∧ 1 < (l[k]).toNat % 128 ∨ 9 < k ∨ 0 < k ∧ (l[k]).toNat = 0 then .inl 3
    else if 127 < (l[k]).toNat then vgo (l.drop (k + 1)) (k + 1) (n + (l[k]).toNat % 128 * 2 ^ (7 * k))
    else .inr (n + (l[k]).toNat % 128 * 2 ^ (7 * k), k + 1) := by
  rw [List.drop_eq_getElem_cons hk]
  rfl
theorem and127 (c : UInt8) : bits .and .u8 (c.toNat : Int) 127 = (c.toNat : Int) % 128 := by
  have h := and_u8 c 127
  rw [show (((127 : UInt8).toNat : Nat) : Int) = 127 from rfl] at h
  rw [h, UInt8.toNat_and]
  have : c.toNat &&& (127 : UInt8).toNat = c.toNat % 128 := Nat.and_two_pow_sub_one_eq_mod c.toNat 7
  omega
theorem or_shift (n a i : Nat) (hi : i ≤ 9) (hn : n < 2 ^ (7 * i)) (ha : a < 128) (h9 : i = 9 → a ≤ 1) : bits .or .u64 (n : Int) ((a * 2 ^ (7 * i) : Nat) : Int) = ((n + a * 2 ^ (7 * i) : Nat) : Int) ∧ a * 2 ^ (7 * i) < 18446744073709551616 ∧ n + a * 2 ^ (7 * i) < 18446744073709551616 := by
  have hb : n + a * 2 ^ (7 * i) < 18446744073709551616 ∧ n < 18446744073709551616 := by
    rcases Nat.lt_or_ge i 9 with h | h
    · have h2 : 2 ^ (7 * i) ≤ 2 ^ 56 := Nat.pow_le_pow_right (by decide) (by omega)
      have := Nat.mul_le_mul (show a ≤ 127 by omega) h2
      omega
    · obtain rfl : i = 9 := by omega
      have := Nat.mul_le_mul_right (2 ^ (7 * 9)) (h9 rfl)
      omega
  refine ⟨?_, by omega, hb.1⟩
  have h := or_u64 (UInt64.ofNat n) (UInt64.ofNat (a * 2 ^ (7 * i)))
  have e1 : (UInt64.ofNat n).toNat = n := by rw [UInt64.toNat_ofNat']; exact Nat.mod_eq_of_lt (by omega)
  have e2 : (UInt64.ofNat (a * 2 ^ (7 * i))).toNat = a * 2 ^ (7 * i) := by rw [UInt64.toNat_ofNat']; exact Nat.mod_eq_of_lt (by omega)
  rw [UInt64.toNat_or, e1, e2] at h
  rw [h, Nat.or_comm, Nat.mul_comm, ← Nat.two_pow_add_eq_or_of_lt hn a]
  congr 1
  omega

set_option maxRecDepth 100000 in
set_option maxHeartbeats 1600000 in
theorem vnum_any (w : World) (g : Nat) (l : List UInt8) (e : Int) (most : Nat) (hm : most < 18446744073709551616) (h : RdrAt w g l e) :
    Calls Try.prog 43 #[.pointer (some ⟨g, 0, none⟩), .int .u64 (most : Int)] w fun ev w' => ev = .returned (.int .u64 ((numS most l e).1 : Nat)) ∧ RdrAt w' g (numS most l e).2.1 (numS most l e).2.2 ∧ w.grownBy w' (some g) := by
  have h0 := h
  obtain ⟨v, l', h1, h2, h3, h4, h5⟩ := h
  have hc := h1.cell 1 _ rfl
  have hd := h1.cell 0 _ rfl
  have hfr := h1.frozen 0
  by_cases he : e = 0
  · obtain rfl := h3 he
    subst he
    obtain ⟨A, c, rfl, hc1, hc2, hrd⟩ := id h2
    unfold maxLen at hc2
    have hbad := fun (n : Int) hn => vbad_any w g l' 0 n h0 hn
    have Hbad := Lib.hid hbad
    have hres : numS most l' 0 = numR most l' := by unfold numS; rw [if_neg (by simp)]
    have hRe : ∀ e, vgo l' 0 0 = .inl e → numR most l' = (0, [], e) := fun e h => by unfold numR; rw [h]
    have hRb : ∀ n k, vgo l' 0 0 = .inr (n, k) → most < n → numR most l' = (0, [], 9) := fun n k h hb => by unfold numR; rw [h]; exact if_pos hb
    have hRo : ∀ n k, vgo l' 0 0 = .inr (n, k) → ¬ most < n → numR most l' = (n, l'.drop k, 0) := fun n k h hb => by unfold numR; rw [h]; exact if_neg hb
    rw [hres]
    generalize numR most l' = R at *
    have HRe := Lib.hid hRe
    have HRb := Lib.hid hRb
    have HRo := Lib.hid hRo
    clear hres hbad h0 h3 h4 h5 hRe hRb hRo
    go_enter Try.func43, Try.ntmps43
    go_wp2_with fail
    go_loop [5, 22] (fun x i => ∃ k n : Nat, k ≤ l'.length ∧ k ≤ 10 ∧ i = .int .i64 k ∧ x = .int .u64 n ∧ vgo l' 0 0 = vgo (l'.drop k) k n ∧ n < 18446744073709551616 ∧ (k ≤ 9 → n < 2 ^ (7 * k))) (fun _ i => l'.length - (intOf i).toNat)
    case atStart => exact ⟨0, 0, by omega, by omega, rfl, rfl, by simp, by simp, by simp⟩
    case round =>
      obtain ⟨k, n, hk, hk10, rfl, rfl, hv, hn, hn9⟩ := hrel
      by_cases hlt : k < l'.length
      · rw [vgo_cons l' k n hlt] at hv
        obtain ⟨ad, rfl, _, hcs⟩ := hrd.ad (by omega)
        have hx := hcs k _ (b8s_get l' k hlt)
        have hback := h2.back_ (k := k + 1) (by omega)
        generalize l'[k] = b at *
        have hb := u8_lt b
        have hand := and127 b
        have hl8 := fun W => len8_any W (b.toNat % 128) (by omega)
        have hbl := bitLen_small (b.toNat % 128) (by omega)
        have hcast : ((b.toNat : Int) % 128) = ((b.toNat % 128 : Nat) : Int) := by omega
        rw [hcast] at hand
        clear hcast
        have hL := hbl.1
        generalize Lib.bitLen (b.toNat % 128) = L at *
        have Hl8 := Lib.hid hl8
        have Hback := Lib.hid hback
        have Hbl := Lib.hid hbl.2
        have Hn9 := Lib.hid hn9
        clear hl8 hback hrd hcs hbl hn9
        by_cases herr : k = 9 ∧ 1 < b.toNat % 128 ∨ 9 < k ∨ 0 < k ∧ b.toNat = 0
        · rw [if_pos herr] at hv
          have h64 : 64 < k * 7 + L ∨ k * 7 + L ≤ 64 ∧ 0 < k ∧ b.toNat = 0 := by
            have := Hbl.out; omega
          have HR := Lib.hid (HRe.out 3 hv)
          clear hv Hn9 herr Hbl HRe HRb HRo
          rcases h64 with h64 | ⟨h64, h0k, hb0⟩
          · go_wp2_with (first
              | (go_at_call 78; refine (Hl8.out _).mono ?_; rintro _ _ ⟨rfl, rfl⟩)
              | (go_at_call 79; refine (Hbad.out 3 (by decide)).mono ?_; rintro _ w1 ⟨rfl, hr1, hg1⟩))
            go_ret
            rw [HR.out]
            exact ⟨rfl, hr1, hg1⟩
          · have hz : ((b.toNat : Int) == 0) = true := by simp; omega
            clear hb0
            go_wp2_with (first
              | (go_at_call 78; refine (Hl8.out _).mono ?_; rintro _ _ ⟨rfl, rfl⟩)
              | (go_at_call 79; refine (Hbad.out 3 (by decide)).mono ?_; rintro _ w1 ⟨rfl, hr1, hg1⟩))
            go_ret
            rw [HR.out]
            exact ⟨rfl, hr1, hg1⟩
        · rw [if_neg herr] at hv
          have h64 : k * 7 + L ≤ 64 ∧ (k = 0 ∨ 0 < b.toNat) ∧ k ≤ 9 ∧ (k = 9 → b.toNat % 128 ≤ 1) := by
            have := Hbl.out; omega
          obtain ⟨h64, h0k, hk9, h9⟩ := h64
          obtain ⟨hor, hsh, hn'⟩ := or_shift n (b.toNat % 128) k hk9 (Hn9.out hk9) (Nat.mod_lt _ (by decide)) h9
          have H9 := Lib.hid h9
          have h64' : decide (64 < (k : Int) * 7 + (L : Int)) = false := by simp; omega
          have hz : 0 < k → ((b.toNat : Int) == 0) = false := fun h => by simp; omega
          have hpow : k + 1 ≤ 9 → n + b.toNat % 128 * 2 ^ (7 * k) < 2 ^ (7 * (k + 1)) := fun h => by
            have h1 := Hn9.out hk9
            have h2 := Nat.mul_le_mul_right (2 ^ (7 * k)) (show b.toNat % 128 ≤ 127 by omega)
            rw [show 7 * (k + 1) = 7 * k + 7 from by omega, Nat.pow_add]
            omega
          have hor' : bits .or .u64 (n : Int) (IntKind.u64.wrap ((b.toNat : Int) % 128 * 2 ^ (7 * k))) = ((n + b.toNat % 128 * 2 ^ (7 * k) : Nat) : Int) := by
            have e : ((b.toNat : Int) % 128 * 2 ^ (7 * k)) = ((b.toNat % 128 * 2 ^ (7 * k) : Nat) : Int) := by simp
            rw [e, wrap_u64, Int.emod_eq_of_lt (by omega) (by omega)]
            exact hor
          have Hpow := Lib.hid hpow
          clear herr h9 Hbl hor hsh hpow
          generalize n + b.toNat % 128 * 2 ^ (7 * k) = N at *
          by_cases hgt : 127 < b.toNat
          · rw [if_pos hgt] at hv
            have Hv := Lib.hid hv
            clear hv
            by_cases hk0 : 0 < k
            all_goals
              first | have hz := hz hk0 | (have hk0i : decide (0 < k) = false := (by simp; omega); clear hk0)
              go_wp2_with (first
                | (go_at_call 78; refine (Hl8.out _).mono ?_; rintro _ _ ⟨rfl, rfl⟩))
              exact ⟨⟨_, N, by omega, by omega, by go_num, rfl, Hv.out, hn', Hpow.out⟩, by simp [intOf]; omega⟩
          · rw [if_neg hgt] at hv
            by_cases hmo : most < N
            · have HR := Lib.hid (HRb.out _ _ hv hmo)
              clear hv HRb HRo HRe Hpow
              by_cases hk0 : 0 < k
              all_goals
                first | have hz := hz hk0 | (have hk0i : decide (0 < k) = false := (by simp; omega); clear hk0)
                go_wp2_with (first
                  | (go_at_call 78; refine (Hl8.out _).mono ?_; rintro _ _ ⟨rfl, rfl⟩)
                  | (go_at_call 79; refine (Hbad.out 9 (by decide)).mono ?_; rintro _ w1 ⟨rfl, hr1, hg1⟩))
                go_ret
                rw [HR.out]
                exact ⟨rfl, hr1, hg1⟩
            · have HR := Lib.hid (HRo.out _ _ hv hmo)
              have Hput := Lib.hid (fun u => h1.put 0 u)
              clear hv HRb HRo HRe Hpow
              by_cases hk0 : 0 < k
              all_goals
                first | have hz := hz hk0 | (have hk0i : decide (0 < k) = false := (by simp; omega); clear hk0)
                go_wp2_with (first
                  | (go_at_call 78; refine (Hl8.out _).mono ?_; rintro _ _ ⟨rfl, rfl⟩))
                all_goals
                  go_ret
                  rw [HR.out]
                  have hb2 := Hback.out
                  first | rw [if_pos (show c = k + 1 by first | assumption | omega), show c - (k + 1) = 0 from by omega] at hb2 | rw [if_neg (show ¬ c = k + 1 by first | assumption | omega)] at hb2
                  exact ⟨rfl, ⟨_, _, Hput.out _, hb2.below ((Below.refl _ _).setCell (p := ⟨g, 0, none⟩) (Nat.le_refl _) _), fun _ => rfl, fun h => absurd rfl h, by show _ ≤ (0 : Int); decide, by show (0 : Int) ≤ _; decide⟩, gset _ _ _⟩
      · obtain rfl : k = l'.length := by omega
        rw [List.drop_eq_nil_of_le (Nat.le_refl _)] at hv
        have HR := Lib.hid (HRe.out 2 hv)
        clear hv HRe HRb HRo
        go_wp2_with (first
          | (go_at_call 79; refine (Hbad.out 2 (by decide)).mono ?_; rintro _ w1 ⟨rfl, hr1, hg1⟩))
        go_ret
        rw [HR.out]
        exact ⟨rfl, hr1, hg1⟩
  · have hne : (e != 0) = true := by simpa using he
    have hne' : (e == 0) = false := by simpa using he
    have hR : numS most l e = (0, [], e) := by unfold numS; rw [if_pos he]
    rw [hR]
    have hl := h4 he
    subst hl
    clear hR
    go_enter Try.func43, Try.ntmps43
    go_wp2_with fail
    go_ret
    exact ⟨rfl, h0, grefl _ _⟩
end Go.Proofs.Ythfnikdapknohaa

namespace Go.Proofs.Ythfnikdapknohaa
set_option linter.unusedSimpArgs false
set_option linter.unusedVariables false
open Go.RowKit

theorem bdrew {B : Nat} {a w : World} (h : Below B a w) : Below B a w.drew := h.drew
set_option maxRecDepth 100000 in
set_option maxHeartbeats 1600000 in
theorem rnum_any (w : World) (B : Nat) (v : Value) (l : List UInt8) (e : Int) (most : Nat) (hm : most < 18446744073709551616) (hby : By w B v l) (hB : B ≤ w.heap.size) (hl : e ≠ 0 → l = []) :
    Calls Try.prog 54 #[.agg #[v, .int .i64 e], .int .u64 (most : Int)] w fun ev w' => ∃ v', ev = .returned (.tuple #[.int .u64 ((numS most l e).1 : Nat), .agg #[v', .int .i64 (numS most l e).2.2]]) ∧ By w' B v' (numS most l e).2.1 ∧ Below w.heap.size w w' := by
  obtain ⟨A, c, rfl, hc1, hc2, hrd⟩ := id hby
  unfold maxLen at hc2
  by_cases he : e = 0
  · subst he
    have hres : numS most l 0 = numR most l := by unfold numS; rw [if_neg (by simp)]
    have hRe : ∀ e, vgo l 0 0 = .inl e → numR most l = (0, [], e) := fun e h => by unfold numR; rw [h]
    have hRb : ∀ n k, vgo l 0 0 = .inr (n, k) → most < n → numR most l = (0, [], 9) := fun n k h hb => by unfold numR; rw [h]; exact if_pos hb
    have hRo : ∀ n k, vgo l 0 0 = .inr (n, k) → ¬ most < n → numR most l = (n, l.drop k, 0) := fun n k h hb => by unfold numR; rw [h]; exact if_neg hb
    rw [hres]
    generalize numR most l = R at *
    have HRe := Lib.hid hRe
    have HRb := Lib.hid hRb
    have HRo := Lib.hid hRo
    clear hres hRe hRb hRo hl
    go_enter Try.func54, Try.ntmps54
    go_wp2_with fail
    go_loop [6, 7, 17] (fun x s i => ∃ k n sc : Nat, k ≤ l.length ∧ k ≤ 10 ∧ i = .int .i64 k ∧ x = .int .u64 n ∧ s = .int .u64 sc ∧ sc = 2 ^ (7 * k) % 18446744073709551616 ∧ vgo l 0 0 = vgo (l.drop k) k n ∧ n < 18446744073709551616 ∧ (k ≤ 9 → n < 2 ^ (7 * k))) (fun _ _ i => l.length - (intOf i).toNat)
    case atStart => exact ⟨0, 0, 1, by omega, by omega, rfl, rfl, rfl, by simp, by simp, by simp, by simp⟩
    case round =>
      obtain ⟨k, n, sc, hk, hk10, rfl, rfl, rfl, hsc0, hv, hn, hn9⟩ := hrel
      have hscl : sc < 18446744073709551616 := by omega
      have Hsc0 := Lib.hid hsc0
      clear hsc0
      by_cases hlt : k < l.length
      · rw [vgo_cons l k n hlt] at hv
        obtain ⟨ad, rfl, hab, hcs⟩ := hrd.ad (by omega)
        have hx := hcs k _ (b8s_get l k hlt)
        have hback := hby.back_ (k := k + 1) (by omega)
        have hx' : ((w.alloc (.cells #[.slice (some ad) l.length c, .int .i64 0] 112)).alloc (.cells #[.slice none 0 0, .int .i64 0] 112)).cell? (ad.add k) = some (.int .u8 ((l[k]).toNat : Int)) := by
          rw [World.cell?_alloc_lt _ _ _ (by rw [add_block]; simp; omega), World.cell?_alloc_lt _ _ _ (by rw [add_block]; omega)]
          exact hx
        generalize l[k] = b at *
        have hb := u8_lt b
        have Hback := Lib.hid hback
        have Hn9 := Lib.hid hn9
        clear hback hrd hcs hn9 hby hx
        by_cases herr : k = 9 ∧ 1 < b.toNat % 128 ∨ 9 < k ∨ 0 < k ∧ b.toNat = 0
        · rw [if_pos herr] at hv
          have HR := Lib.hid (HRe.out 3 hv)
          clear hv Hn9 HRe HRb HRo
          have h3 : (((k : Int) == 9) = true ∧ decide (1 < (b.toNat : Int) % 128) = true) ∨ (((k : Int) == 9) = true ∧ decide (1 < (b.toNat : Int) % 128) = false ∧ decide (9 < (k : Int)) = false ∧ decide (0 < k) = true ∧ ((b.toNat : Int) == 0) = true) ∨ (((k : Int) == 9) = false ∧ decide (9 < (k : Int)) = true) ∨ (((k : Int) == 9) = false ∧ decide (9 < (k : Int)) = false ∧ decide (0 < k) = true ∧ ((b.toNat : Int) == 0) = true) := by
            by_cases h9 : k = 9
            · by_cases h1 : 1 < b.toNat % 128
              · left; simp; omega
              · right; left; simp; omega
            · by_cases hk9 : 9 < k
              · right; right; left; simp; omega
              · right; right; right; simp; omega
          clear herr
          rcases h3 with ⟨h1, h2⟩ | ⟨h1, h2, h3, h4, h5⟩ | ⟨h1, h2⟩ | ⟨h1, h2, h3, h4⟩
          all_goals
            go_wp2_with fail
            refine bodyPost_ret (v := .tuple #[.int .u64 0, .agg #[.slice none 0 0, .int .i64 3]]) (by simp [results, Try.results54, go_sem]) rfl ?_
            rw [HR.out]
            exact ⟨_, rfl, By.nil_, bstep (balloc _ _) (balloc _ _)⟩
        · rw [if_neg herr] at hv
          have h3 : (((k : Int) == 9) = true ∧ decide (1 < (b.toNat : Int) % 128) = false ∧ decide (9 < (k : Int)) = false ∧ decide (0 < k) = true ∧ ((b.toNat : Int) == 0) = false) ∨ (((k : Int) == 9) = false ∧ decide (9 < (k : Int)) = false ∧ decide (0 < k) = true ∧ ((b.toNat : Int) == 0) = false) ∨ (((k : Int) == 9) = false ∧ decide (9 < (k : Int)) = false ∧ decide (0 < k) = false) := by
            by_cases h9 : k = 9
            · left; simp; omega
            · right
              by_cases hk0 : 0 < k
              · left; simp; omega
              · right; simp; omega
          have hk9 : k ≤ 9 ∧ (k = 9 → b.toNat % 128 ≤ 1) := by omega
          obtain ⟨hor, hsh, hn'⟩ := or_shift n (b.toNat % 128) k hk9.1 (Hn9.out hk9.1) (Nat.mod_lt _ (by decide)) hk9.2
          have hpow : k + 1 ≤ 9 → n + b.toNat % 128 * 2 ^ (7 * k) < 2 ^ (7 * (k + 1)) := fun h => by
            have h1 := Hn9.out hk9.1
            have h2 := Nat.mul_le_mul_right (2 ^ (7 * k)) (show b.toNat % 128 ≤ 127 by omega)
            rw [show 7 * (k + 1) = 7 * k + 7 from by omega, Nat.pow_add]
            omega
          have h2k : 2 ^ (7 * k) < 18446744073709551616 := Nat.lt_of_le_of_lt (Nat.pow_le_pow_right (by decide) (show 7 * k ≤ 63 by omega)) (by decide)
          have hsc1 : sc = 2 ^ (7 * k) := by rw [Hsc0.out, Nat.mod_eq_of_lt h2k]
          have hsum : IntKind.u64.wrap ((n : Int) + IntKind.u64.wrap ((b.toNat : Int) % 128 * (sc : Int))) = ((n + b.toNat % 128 * 2 ^ (7 * k) : Nat) : Int) := by
            rw [← hsc1] at hsh hn' ⊢
            have e : ((b.toNat : Int) % 128 * (sc : Int)) = ((b.toNat % 128 * sc : Nat) : Int) := by simp
            rw [e]
            generalize b.toNat % 128 * sc = q at *
            have hq : IntKind.u64.wrap (q : Int) = q := by rw [wrap_u64]; omega
            rw [hq, wrap_u64]
            omega
          have hsc : IntKind.u64.wrap ((sc : Int) * 128) = ((2 ^ (7 * (k + 1)) % 18446744073709551616 : Nat) : Int) := by
            rw [show 7 * (k + 1) = 7 * k + 7 from by omega, Nat.pow_add, ← hsc1, wrap_u64]
            omega
          have Hpow := Lib.hid hpow
          have Hsc := Lib.hid hsc
          clear herr hor hsh hpow hk9 h2k hsc hsc1
          generalize n + b.toNat % 128 * 2 ^ (7 * k) = N at *
          by_cases hgt : b.toNat < 128
          · rw [if_neg (by omega)] at hv
            by_cases hmo : most < N
            · have HR := Lib.hid (HRb.out _ _ hv hmo)
              clear hv HRb HRo HRe Hpow Hsc
              rcases h3 with ⟨h1, h2, h3, h4, h5⟩ | ⟨h1, h2, h3, h4⟩ | ⟨h1, h2, h3⟩
              all_goals
                go_wp2_with fail
                refine bodyPost_ret (v := .tuple #[.int .u64 0, .agg #[.slice none 0 0, .int .i64 9]]) (by simp [results, Try.results54, go_sem]) rfl ?_
                rw [HR.out]
                exact ⟨_, rfl, By.nil_, bstep (balloc _ _) (balloc _ _)⟩
            · have HR := Lib.hid (HRo.out _ _ hv hmo)
              clear hv HRb HRo HRe Hpow Hsc
              rcases h3 with ⟨h1, h2, h3, h4, h5⟩ | ⟨h1, h2, h3, h4⟩ | ⟨h1, h2, h3⟩
              all_goals
                go_wp2_with fail
                go_region
                have hb2 := Hback.out
                by_cases hck : c = k + 1
                · rw [if_pos hck] at hb2 ⊢
                  go_wp2_with fail
                  refine bodyPost_ret (v := .tuple #[.int .u64 (N : Int), .agg #[.slice (some ad) (l.length - (k + 1)) (c - (k + 1)), .int .i64 0]]) (by simp [results, Try.results54, go_sem]) rfl ?_
                  rw [HR.out]
                  exact ⟨_, rfl, hb2.below ((bdrew (bstep (balloc _ _) (balloc _ _))).mono hB), bdrew (bstep (balloc _ _) (balloc _ _))⟩
                · rw [if_neg hck] at hb2 ⊢
                  go_wp2_with fail
                  refine bodyPost_ret (v := .tuple #[.int .u64 (N : Int), .agg #[.slice (some { block := ad.block, off := ad.off + (k + 1) }) (l.length - (k + 1)) (c - (k + 1)), .int .i64 0]]) (by simp [results, Try.results54, go_sem]) rfl ?_
                  rw [HR.out]
                  refine ⟨_, rfl, ?_, bdrew (bstep (balloc _ _) (balloc _ _))⟩
                  have hb3 := hb2.below ((bdrew (bstep (balloc w (.cells #[.slice (some ad) l.length c, .int .i64 0] 112)) (balloc _ (.cells #[.slice (some { block := ad.block, off := ad.off + (k + 1) }) (l.length - (k + 1)) (c - (k + 1)), .int .i64 0] 112)))).mono hB)
                  simpa [Addr.add] using hb3
          · rw [if_pos (by omega)] at hv
            have Hv := Lib.hid hv
            clear hv HRb HRo HRe
            rcases h3 with ⟨h1, h2, h3, h4, h5⟩ | ⟨h1, h2, h3, h4⟩ | ⟨h1, h2, h3⟩
            all_goals
              go_wp2_with fail
              refine ⟨⟨k + 1, N, _, by omega, ?_, by go_num, rfl, congrArg (Value.int .u64) Hsc.out, rfl, Hv.out, hn', Hpow.out⟩, by simp [intOf]; omega⟩
              all_goals (simp at h1 h2; omega)
      · obtain rfl : k = l.length := by omega
        rw [List.drop_eq_nil_of_le (Nat.le_refl _)] at hv
        have HR := Lib.hid (HRe.out 2 hv)
        clear hv HRe HRb HRo
        go_wp2_with fail
        refine bodyPost_ret (v := .tuple #[.int .u64 0, .agg #[.slice none 0 0, .int .i64 2]]) (by simp [results, Try.results54, go_sem]) rfl ?_
        rw [HR.out]
        exact ⟨_, rfl, By.nil_, bstep (balloc _ _) (balloc _ _)⟩
  · have hne : (e != 0) = true := by simpa using he
    have hne' : (e == 0) = false := by simpa using he
    have hR : numS most l e = (0, [], e) := by unfold numS; rw [if_pos he]
    rw [hR]
    have hl := hl he
    subst hl
    clear hR
    go_enter Try.func54, Try.ntmps54
    go_wp2_with fail
    go_region
    go_wp2_with fail
    refine bodyPost_ret (v := .tuple #[.int .u64 0, .agg #[.slice A 0 c, .int .i64 e]]) (by simp [results, Try.results54, go_sem]) rfl ?_
    exact ⟨_, rfl, hby.below ((bdrew (bstep (balloc _ _) (balloc _ _))).mono hB), bdrew (bstep (balloc _ _) (balloc _ _))⟩
end Go.Proofs.Ythfnikdapknohaa

namespace Go.Proofs.Ythfnikdapknohaa
set_option linter.unusedSimpArgs false
set_option linter.unusedVariables false
open Go.RowKit

/-- a reader's bytes: the bytes, what is left, the error -/
def bytesS (n : Int) (l : List UInt8) (e : Int) : List UInt8 × List UInt8 × Int :=
  if e ≠ 0 then ([], [], e) else if n < 0 then ([], [], 1) else if (l.length : Int) < n then ([], [], 2) else (l.take n.toNat, l.drop n.toNat, 0)
end Go.Proofs.Ythfnikdapknohaa

namespace Go.Proofs.Ythfnikdapknohaa
set_option linter.unusedSimpArgs false
set_option linter.unusedVariables false
open Go.RowKit

/-- the number that stands for one with a sign, and back -/
def zz (k : Int) : Nat := if 0 ≤ k then 2 * k.toNat else 2 * (-(k + 1)).toNat + 1
def unzz (n : Nat) : Int := if n % 2 = 1 then -((n / 2 : Nat) : Int) - 1 else ((n / 2 : Nat) : Int)
theorem zz_lt (k : Int) (h1 : -9223372036854775808 ≤ k) (h2 : k ≤ 9223372036854775807) : zz k < 18446744073709551616 := by unfold zz; split <;> omega
theorem unzz_zz (k : Int) : unzz (zz k) = k := by unfold unzz zz; split <;> split <;> omega

theorem and1_u64 (n : Nat) (h : n < 18446744073709551616) : bits .and .u64 (n : Int) 1 = ((n % 2 : Nat) : Int) := by
  have := u64_and_nat n 1 h (by decide)
  rw [nat_mask1] at this
  simpa using this
theorem xor0_i64 (a : Int) (h1 : -9223372036854775808 ≤ a) (h2 : a ≤ 9223372036854775807) : bits .xor .i64 a 0 = a := by
  have e : (BitVec.ofInt 64 a ^^^ BitVec.ofInt 64 0) = BitVec.ofInt 64 a := by simp
  have e2 : bits .xor .i64 a 0 = IntKind.i64.wrap ((BitVec.ofInt 64 a ^^^ BitVec.ofInt 64 0).toNat : Nat) := rfl
  rw [e2, e, BitVec.toNat_ofInt, wrap_i64]
  omega
theorem xorm1_i64 (a : Int) (h1 : -9223372036854775808 ≤ a) (h2 : a ≤ 9223372036854775807) : bits .xor .i64 a (-1) = -a - 1 := by
  have e : (BitVec.ofInt 64 a ^^^ BitVec.ofInt 64 (-1)) = ~~~ (BitVec.ofInt 64 a) := by
    rw [show BitVec.ofInt 64 (-1) = BitVec.allOnes 64 from by decide, BitVec.xor_allOnes]
  have e2 : bits .xor .i64 a (-1) = IntKind.i64.wrap ((BitVec.ofInt 64 a ^^^ BitVec.ofInt 64 (-1)).toNat : Nat) := rfl
  rw [e2, e, BitVec.toNat_not, BitVec.toNat_ofInt, wrap_i64]
  omega
theorem xor0_u64 (n : Nat) (h : n < 18446744073709551616) : bits .xor .u64 (n : Int) 0 = n := by
  have := u64_xor_nat n 0 h (by decide)
  simpa using this
theorem xorm1_u64 (n : Nat) (h : n < 18446744073709551616) : bits .xor .u64 (n : Int) 18446744073709551615 = ((18446744073709551615 - n : Nat) : Int) := by
  have h1 := compl_u64 (UInt64.ofNat n)
  have e1 : (UInt64.ofNat n).toNat = n := by rw [UInt64.toNat_ofNat']; exact Nat.mod_eq_of_lt (by omega)
  have h2 := u64_xor_nat n 18446744073709551615 h (by decide)
  rw [show (((18446744073709551615 : Nat) : Int)) = 18446744073709551615 from rfl] at h2
  rw [h2]
  have h3 := u64_xor_nat 18446744073709551615 n (by decide) h
  rw [show (((18446744073709551615 : Nat) : Int)) = IntKind.u64.max from rfl, ← e1, h1, e1] at h3
  rw [Nat.xor_comm, ← h3, UInt64.toNat_not, e1]
  rfl
theorem zz_wrap (k : Int) (h1 : -9223372036854775808 ≤ k) (h2 : k < 0) : zz k = (-(2 * k) - 1).toNat := by unfold zz; rw [if_neg (by omega)]; omega
end Go.Proofs.Ythfnikdapknohaa

namespace Go.Proofs.Ythfnikdapknohaa
set_option linter.unusedSimpArgs false
set_option linter.unusedVariables false
open Go.RowKit

set_option maxRecDepth 100000 in
set_option maxHeartbeats 800000 in
theorem refnum_any (n : Nat) : ∀ (w : World), n < 18446744073709551616 → Calls Try.prog 48 #[.int .u64 (n : Int)] w fun e w' => ∃ v', e = .returned v' ∧ Ow w' w.heap.size v' (vput n) ∧ Below w.heap.size w w' := by
  induction n using Nat.strongRecOn with
  | _ n ih =>
    intro w hn
    have hlen := vput_len64 n hn
    by_cases hlt : n < 128
    · have hst := vput_lt hlt
      rw [hst]
      have hw : (((UInt8.ofNat n).toNat : Nat) : Int) = n := by rw [u8_ofNat_toNat n (by omega)]
      have hnew := Ow.new_ w [UInt8.ofNat n] (by simp [maxLen])
      have e : (b8s [UInt8.ofNat n]).toArray = #[.int .u8 (n : Int)] := by simp only [b8s, List.map_cons, List.map_nil, b8, hw]
      rw [e] at hnew
      have Hnew := Lib.hid hnew
      clear ih hst hw hnew e hlen
      go_enter Try.func48, Try.ntmps48
      go_wp2_with fail
      go_ret
      exact ⟨_, rfl, Hnew.out, balloc _ _⟩
    · have hst := vput_ge (n := n) (by omega)
      have hih := fun W => ih (n / 128) (by omega) W (by omega)
      have hnew := Ow.new_ w [UInt8.ofNat (n % 128 + 128)] (by simp [maxLen])
      have hw : (((UInt8.ofNat (n % 128 + 128)).toNat : Nat) : Int) = (n : Int) % 128 + 128 := by rw [u8_ofNat_toNat _ (by omega)]; omega
      have e : (b8s [UInt8.ofNat (n % 128 + 128)]).toArray = #[.int .u8 ((n : Int) % 128 + 128)] := by simp only [b8s, List.map_cons, List.map_nil, b8, hw]
      have e2 : ((n / 128 : Nat) : Int) = (n : Int) / 128 := by omega
      rw [e] at hnew
      rw [e2] at hih
      have hl2 : (vput (n / 128)).length ≤ 11 := (vput_len64 _ (by omega)).2
      have Hnew := Lib.hid hnew
      have Hih := Lib.hid hih
      have Hst := Lib.hid hst
      clear ih hst hw hnew e hlen e2 hih
      go_enter Try.func48, Try.ntmps48
      go_wp2_with fail
      refine (Hih.out _).mono ?_
      rintro _ w1 ⟨v1, rfl, hown1, hb1⟩
      have hs1 := hb1.size
      simp at hs1
      have hb01 := bstep (balloc w _) hb1
      go_wp2_with (at_builtin
                   refine wpList_app8 rfl (.tmp 12) (.tmp 15) rfl (Hnew.out.below_ hb1) hown1.by_ rfl rfl (by simp; omega) hb01.size ?_
                   intro v2 w2 hown2 hext2)
      go_ret
      refine ⟨_, rfl, ?_, hb01.trans (hext2.below hb01.size (by simp [Value.ownBlock]))⟩
      rw [Hst.out]
      exact hown2
def endR (l : List UInt8) (e : Int) : Int := if e = 0 ∧ 0 < l.length then 4 else e
theorem endR_eq (l : List UInt8) (e : Int) (h : e ≠ 0 → l = []) : endR l e = endE l e := by
  unfold endR endE
  by_cases he : e = 0
  · subst he; simp
  · rw [h he]; simp [he]
set_option maxRecDepth 100000 in
set_option maxHeartbeats 800000 in
theorem rend_any (w : World) (v : Value) (l : List UInt8) (e : Int) (B : Nat) (hby : By w B v l) : Calls Try.prog 58 #[.agg #[v, .int .i64 e]] w fun ev w' => ev = .returned (.int .i64 (endR l e)) ∧ Below w.heap.size w w' := by
  obtain ⟨A, c, rfl, hc1, hc2, hrd⟩ := hby
  unfold maxLen at hc2
  by_cases he : e = 0
  · subst he
    by_cases h0 : 0 < l.length
    · have hR : endR l 0 = 4 := by unfold endR; rw [if_pos ⟨rfl, h0⟩]
      rw [hR]
      clear hR hrd
      go_enter Try.func58, Try.ntmps58
      go_wp2_with fail
      go_ret
      exact ⟨rfl, balloc _ _⟩
    · have hR : endR l 0 = 0 := by unfold endR; rw [if_neg (fun h => h0 h.2)]
      rw [hR]
      have hd : decide (0 < l.length) = false := by simpa using h0
      clear hR hrd
      go_enter Try.func58, Try.ntmps58
      go_wp2_with fail
      go_ret
      exact ⟨rfl, balloc _ _⟩
  · have hR : endR l e = e := by unfold endR; rw [if_neg (fun h => he h.1)]
    rw [hR]
    have hne' : (e == 0) = false := by simpa using he
    clear hR hrd
    go_enter Try.func58, Try.ntmps58
    go_wp2_with fail
    go_ret
    exact ⟨rfl, balloc _ _⟩
end Go.Proofs.Ythfnikdapknohaa

namespace Go.Proofs.Ythfnikdapknohaa
set_option linter.unusedSimpArgs false
set_option linter.unusedVariables false
open Go.RowKit

end Go.Proofs.Ythfnikdapknohaa

namespace Go.Proofs.Ythfnikdapknohaa
set_option linter.unusedSimpArgs false
set_option linter.unusedVariables false
open Go.RowKit

set_option maxRecDepth 100000 in
set_option maxHeartbeats 800000 in
theorem rgsum_any (w : World) (B : Nat) (v : Value) (l : List GArc) (hl : l.length ≤ 4294967296) (h : ByA w B v l) :
    Calls Try.prog 57 #[v] w fun e w' => e = .returned (.int .u64 (gsum l : Nat)) ∧ w = w' := by
  obtain ⟨A, c, rfl, hc1, hc2⟩ := h.form
  unfold maxLen at hc2
  have hlt := fun k => gsum_lt (l.take k)
  have Hlt := Lib.hid hlt
  clear hlt
  go_enter Try.func57, Try.ntmps57
  go_wp2_with fail
  go_loop [3, 7] (fun x i => ∃ k : Nat, k ≤ l.length ∧ i = .int .i64 k ∧ x = .int .u64 (gsum (l.take k) : Nat)) (fun _ i => l.length - (intOf i).toNat)
  case atStart => exact ⟨0, by omega, rfl, rfl⟩
  case round =>
    obtain ⟨k, hk, rfl, rfl⟩ := hrel
    by_cases hlt : k < l.length
    · obtain ⟨ad, rfl, hab, hx0, hx1⟩ := h.cells k hlt
      have hsn := gsum_snoc l k hlt
      have h1 := Hlt.out k
      have h2 : (l.take k).length ≤ 4294967296 := by simp; omega
      have h3 : gsum (l.take k) ≤ 18446744069414584320 := by
        have := Nat.mul_le_mul_right 4294967295 h2
        omega
      have Hsn := Lib.hid hsn
      have hwt := u32_lt (l[k]).wt
      clear hsn h1 h2
      generalize l[k] = a at *
      generalize gsum (l.take k) = S at *
      go_wp2_with fail
      go_round
      case rel => exact ⟨k + 1, by omega, by go_num, by rw [Hsn.out]; go_num⟩
      case measure => simp [intOf]; omega
    · obtain rfl : k = l.length := by omega
      rw [List.take_length]
      go_wp2_with fail
      go_ret
      exact ⟨rfl, rfl⟩

set_option maxRecDepth 100000 in
set_option maxHeartbeats 1600000 in
theorem rgmay_any (w : World) (B : Nat) (v : Value) (l : List GArc) (hl : l.length ≤ 4294967296) (h : ByA w B v l) :
    Calls Try.prog 40 #[v] w fun e w' => e = .returned (.bool (gmay l)) ∧ ∃ q, w' = w.drewN q := by
  obtain ⟨A, c, rfl, hc1, hc2⟩ := h.form
  unfold maxLen at hc2
  have hsum := fun q => rgsum_any (w.drewN q) B (.slice A l.length c) l hl h
  have hgm : gmay l = (rise none l && decide (gsum l ≤ 2147483647)) := rfl
  have hno := fun k h hk => gmay_take l k h hk
  have Hsum := Lib.hid hsum
  have Hno := Lib.hid hno
  have Hgm := Lib.hid hgm
  clear hsum hno hgm
  go_enter Try.func40, Try.ntmps40
  go_wp2_with fail
  go_loopw [6] (fun i wr => ∃ k : Nat, k ≤ l.length ∧ i = .int .i64 k ∧ rise none (l.take k) = true ∧ ∃ q, wr = w.drewN q) (fun i _ => l.length - (intOf i).toNat)
  case atStart => exact ⟨0, by omega, rfl, rfl, 0, rfl⟩
  case round =>
    obtain ⟨k, hk, rfl, hri, q, rfl⟩ := hrel
    by_cases hlt : k < l.length
    · obtain ⟨ad, rfl, hab, hx0, hx1⟩ := h.cells k hlt
      have hstep := rise_snoc l k hlt
      rw [hri, Bool.true_and] at hstep
      have hno := Hno.out k hlt
      have hst : stepOk l k l[k] = ((l[k]).wt != 0 && (k == 0 || match l[k - 1]? with | some b => decide (b.to < (l[k]).to) | none => true)) := rfl
      by_cases hw0 : (l[k]).wt = 0
      · rw [hw0] at hst
        simp at hst
        have hf := hno hst
        have Hf := Lib.hid hf
        have hwt : (((l[k]).wt.toNat : Nat) : Int) = 0 := by rw [hw0]; rfl
        rw [hwt] at hx1
        clear hst hf hno hstep hwt hw0
        generalize l[k] = a at *
        go_wp2_with fail
        go_quiet (fail)
        go_wp2_with fail
        go_ret
        rw [Hf.out]
        exact ⟨rfl, q + nq, by simp⟩
      · have hwn : decide ((((l[k]).wt.toNat : Nat) : Int) < 1) = false := by
          have : (l[k]).wt.toNat ≠ 0 := fun e => hw0 (UInt32.toNat_inj.1 (by simpa using e))
          simp; omega
        have hwn' : ((l[k]).wt != 0) = true := by simpa using hw0
        rw [hwn', Bool.true_and] at hst
        rcases Nat.eq_zero_or_pos k with hk0 | hk0
        · have h0' : (k == 0) = true := by simpa using hk0
          rw [h0', Bool.true_or] at hst
          rw [hst] at hstep
          have hk0i : decide (0 < k) = false := by simp; omega
          have Hstep := Lib.hid hstep
          clear hst hstep hno hwn' hw0 h0' hk0
          generalize l[k] = a at *
          go_wp2_with fail
          go_quiet (fail)
          go_wp2_with fail
          go_roundw
          case rel => exact ⟨k + 1, by omega, by go_num, Hstep.out, q + nq, by simp⟩
          case measure => simp [intOf]; omega
        · obtain ⟨m, rfl⟩ : ∃ m, k = m + 1 := ⟨k - 1, by omega⟩
          have h0' : (m + 1 == 0) = false := by simp
          have hm : m < l.length := by omega
          rw [h0', Bool.false_or, Nat.add_sub_cancel, List.getElem?_eq_getElem hm] at hst
          obtain ⟨ad', e, _, hy0, hy1⟩ := h.cells m hm
          injection e with e
          subst e
          simp only at hst
          rw [hst] at hstep hno
          have Hstep := Lib.hid hstep
          have Hno1 := Lib.hid hno
          clear hst hstep hno hwn' hw0 h0'
          generalize l[m + 1] = a at *
          generalize l[m] = b at *
          by_cases hlo : b.to < a.to
          · have hle : decide ((a.to.toNat : Int) ≤ (b.to.toNat : Int)) = false := by
              have := UInt32.lt_iff_toNat_lt.1 hlo
              simp; omega
            have hle' : decide (a.to.toNat ≤ b.to.toNat) = false := by
              have := UInt32.lt_iff_toNat_lt.1 hlo
              simp; omega
            have hlt' : (decide (b.to < a.to)) = true := by simpa using hlo
            rw [hlt'] at Hstep
            clear hlo hlt' Hno1
            go_wp2_with fail
            go_quiet (fail)
            go_wp2_with fail
            go_roundw
            case rel => exact ⟨m + 1 + 1, by omega, by go_num, Hstep.out, q + nq, by simp⟩
            case measure => simp [intOf]; omega
          · have hle : decide ((a.to.toNat : Int) ≤ (b.to.toNat : Int)) = true := by
              have : ¬ b.to.toNat < a.to.toNat := fun h => hlo (UInt32.lt_iff_toNat_lt.2 h)
              simp; omega
            have hle' : decide (a.to.toNat ≤ b.to.toNat) = true := by
              have : ¬ b.to.toNat < a.to.toNat := fun h => hlo (UInt32.lt_iff_toNat_lt.2 h)
              simp; omega
            have hf := Hno1.out (by simpa using hlo)
            have Hf := Lib.hid hf
            clear hlo hf Hstep Hno1
            go_wp2_with fail
            go_quiet (fail)
            go_wp2_with fail
            go_ret
            rw [Hf.out]
            exact ⟨rfl, q + nq, by simp⟩
    · obtain rfl : k = l.length := by omega
      rw [List.take_length] at hri
      have hs := Hsum.out q
      have hgm := Hgm.out
      rw [hri, Bool.true_and] at hgm
      have HG := Lib.hid hgm
      clear hgm Hgm
      generalize gsum l = S at *
      have Hs := Lib.hid hs
      clear hs
      go_wp2_with fail
      refine Hs.out.mono ?_
      rintro _ _ ⟨rfl, rfl⟩
      go_wp2_with fail
      go_ret
      rw [HG.out]
      exact ⟨congrArg (fun b => Ending.returned (Value.bool b)) (decide_eq_decide.2 (by omega)), q, rfl⟩
end Go.Proofs.Ythfnikdapknohaa

namespace Go.Proofs.Ythfnikdapknohaa
set_option linter.unusedSimpArgs false
set_option linter.unusedVariables false
open Go.RowKit
theorem fieldsArc : Try.prog.fieldsOf 70 = #[{ name := "To", type := 51, offset := 0, embedded := false, tag := "", pkgPath := "", byteOffset := 0 }, { name := "Weight", type := 51, offset := 1, embedded := false, tag := "", pkgPath := "", byteOffset := 4 }] := by kernel_rfl
theorem eqArc_ (d : Nat) (w : World) (a b c e : Int) : (Op.equalIn (d + 2) 70 (.agg #[.int .u32 a, .int .u32 b]) (.agg #[.int .u32 c, .int .u32 e])).run Try.prog w = .ok (a == c && b == e) w := by
  rw [run_equalIn_struct w (d + 1) 70 _ _ (by rw [fieldsArc]; exact Try.underlying70) (by kernel_rfl), fieldsArc]
  have h33 := Try.underlying51
  have p0 : ∀ (x y : Int), (part 51 #[.int .u32 x, .int .u32 y] 0).run Try.prog w = .ok (.int .u32 x) w := fun x y => by kernel_rfl
  have p1 : ∀ (x y : Int), (part 51 #[.int .u32 x, .int .u32 y] 1).run Try.prog w = .ok (.int .u32 y) w := fun x y => by kernel_rfl
  simp only [Op.eqFields, Sem.run_bind, Sem.run_ite, p0, p1, Result.andThen_ok, run_equalIn_int w d 51 _ .u32 _ _ h33]
  by_cases h1 : a = c <;> by_cases h2 : b = e <;> simp [h1, h2]
theorem eqArc (w : World) (a b c e : Int) : (Op.equalIn 10000 70 (.agg #[.int .u32 a, .int .u32 b]) (.agg #[.int .u32 c, .int .u32 e])).run Try.prog w = .ok (a == c && b == e) w := eqArc_ 9998 w a b c e
theorem guardArc : Try.prog.eqGuardType Try.prog.depth 70 = false := by kernel_rfl
end Go.Proofs.Ythfnikdapknohaa
