/- Lemmas for the law ManifestSpoilt: Words for memory and for numbers, used by all walks of this seat: what a slice value reads as, what a call leaves below. No condition.; The model's integer operations at UInt8, UInt32, UInt64, as rules of the walk: a value of such a kind is written by its UInt. No condition.; Rows of bytes: append, new rows, whole reads, as laws of the walk; slices.Clone and slices.Equal at bytes. The rows are readable slices.; Rows of anything: how a thing lies in cells (a codec), slices that read as a list, rows of the call's own; append, load and store laws.; What came in: arguments that read as data, opened to what they read as.; Cells put one behind the other; what a call has changed.; Disks: how one lies in memory; its blocks, what waits.; Disks: what each deed does, in plain.; A region that draws its order: if each operation, in whatever later world, from operands that meet their own facts, yields a value that meets its fact, then the region's end meets all facts, whatever the order. The facts are such as later worlds keep. No condition beyond these.; Regions that draw their order and end in operations that wait for all others (an append, a store): the others by facts on their values, the end in its own order.; A region that draws its order, in which ONE operation (a call) changes the world, and whose end waits for all the others: the others by facts on their values, which speak of no world.; A region that draws its order, in which SOME operations change the world: what holds of the wo. No condition. -/
import Derived.WalkKit
import Derived.WalkSpells
import Derived.WalkLawsBesides
import Derived.Deep.AppendLies
import Derived.Deep.Draws
import Derived.Deep.QuietTactic
import Derived.BigQuiet
import Derived.Lib.Hide
import Derived.Laws.BitsAllLaws
import Derived.Test.YtpoicbhbkabllaaRows
import Derived.ChangeArms
import Derived.DataReads
import Derived.WideShapes
import Derived.ProofKit
import Derived.OpenShut
import Derived.ShutString
import Derived.ChangeOld
import Derived.Below
import Derived.Carry
import Derived.Lib.SmallJoins
import Derived.Laws.IdiomCopy
import Derived.Deep.MidRow
import Derived.RegionTactic
import Derived.Great.BuildSlice
import Derived.Deep.WholeRow
namespace Go.Proofs.Ytpoicbhbkabllaa
set_option linter.unusedSimpArgs false
set_option linter.unusedVariables false
open Go.RowKit

/-! ### addresses -/
theorem add_block (a : Addr) (n : Nat) : (a.add n).block = a.block := by unfold Addr.add; split <;> rfl
theorem add_add (a : Addr) (i j : Nat) : (a.add i).add j = a.add (i + j) := by
  unfold Addr.add
  by_cases hi : i = 0 <;> by_cases hj : j = 0 <;> simp [hi, hj, Nat.add_assoc]
theorem add_zero' (a : Addr) : a.add 0 = a := by simp [Addr.add]

/-! ### 'Below' once more -/
theorem bdrewN {B : Nat} {a w : World} (h : Below B a w) (n : Nat) : Below B a (w.drewN n) := ⟨h.os, h.tape, h.output, h.size, h.block⟩
theorem bsetRow {B : Nat} {a w : World} (h : Below B a w) {g : Nat} (hg : B ≤ g) (cs : Array Value) : Below B a (w.setRow g cs) :=
  h.trans ⟨rfl, rfl, rfl, by simp, fun k hk => setRow_other w g k cs (by omega)⟩
theorem bstep {a b c : World} (h : Below a.heap.size a b) (k : Below b.heap.size b c) : Below a.heap.size a c := h.trans (k.mono h.size)
theorem bstepB {B : Nat} {a b c : World} (h : Below B a b) (k : Below b.heap.size b c) (hB : B ≤ b.heap.size) : Below B a c := h.trans (k.mono hB)
theorem balloc (w : World) (o : Obj) : Below w.heap.size w (w.alloc o) := (Below.refl _ _).alloc (Nat.le_refl _) o

/-! ### a slice that reads as a list of cells; nil let in -/
/-- the slice address A with n elements of 'size' cells reads as xs, all in blocks below B -/
def Rd (w : World) (B size : Nat) (A : Option Addr) (n : Nat) (xs : List Value) : Prop :=
  xs.length = n * size ∧ (0 < n → ∃ ad, A = some ad ∧ ad.block < B ∧ ∀ j u, xs[j]? = some u → w.cell? (ad.add j) = some u)

section
variable {w w' : World} {B B' size n : Nat} {A : Option Addr} {xs : List Value}
theorem Rd.none_ : Rd w B size A 0 [] := ⟨by simp, fun h => absurd h (by omega)⟩
theorem Rd.ad (h : Rd w B size A n xs) (hn : 0 < n) : ∃ ad, A = some ad ∧ ad.block < B ∧ ∀ j u, xs[j]? = some u → w.cell? (ad.add j) = some u := h.2 hn
theorem Rd.keep (h : Rd w B size A n xs) (hk : ∀ p : Addr, p.block < B → w'.cell? p = w.cell? p) : Rd w' B size A n xs :=
  ⟨h.1, fun hn => by
    obtain ⟨ad, e, hb, hc⟩ := h.2 hn
    exact ⟨ad, e, hb, fun j u hu => (hk _ (by rw [add_block]; exact hb)).trans (hc j u hu)⟩⟩
theorem Rd.more (h : Rd w B size A n xs) (hB : B ≤ B') : Rd w B' size A n xs :=
  ⟨h.1, fun hn => by
    obtain ⟨ad, e, hb, hc⟩ := h.2 hn
    exact ⟨ad, e, by omega, hc⟩⟩
theorem Rd.below (h : Rd w B size A n xs) (hb : Below B w w') : Rd w' B size A n xs := h.keep fun _ hp => hb.cell hp
theorem Rd.alloc (h : Rd w B size A n xs) (hB : B ≤ w.heap.size) (o : Obj) : Rd (w.alloc o) B size A n xs := h.keep fun p hp => World.cell?_alloc_lt w o p (by omega)
theorem Rd.cut (h : Rd w B size A n xs) {k cap : Nat} (hk : k ≤ n) (hc : n ≤ cap) :
    Rd w B size (if cap = k then A else A.map (·.add (k * size))) (n - k) (xs.drop (k * size)) := by
  refine ⟨by rw [List.length_drop, h.1, Nat.sub_mul], fun hn => ?_⟩
  obtain ⟨ad, rfl, hb, hcell⟩ := h.2 (by omega)
  rw [if_neg (by omega)]
  refine ⟨ad.add (k * size), rfl, by rw [add_block]; exact hb, fun j u hu => ?_⟩
  rw [add_add]
  exact hcell _ u (by rw [← hu, List.getElem?_drop])
theorem Rd.front (h : Rd w B size A n xs) {k : Nat} (hk : k ≤ n) : Rd w B size A k (xs.take (k * size)) := by
  refine ⟨by rw [List.length_take, h.1]; exact Nat.min_eq_left (Nat.mul_le_mul_right _ hk), fun hn => ?_⟩
  obtain ⟨ad, rfl, hb, hcell⟩ := h.2 (by omega)
  refine ⟨ad, rfl, hb, fun j u hu => hcell j u ?_⟩
  rw [List.getElem?_take] at hu
  split at hu
  · exact hu
  · cases hu
theorem Rd.of_own {base : Nat} {e : TypeId} {c : Nat} (h : w.ownsRow base e size (.slice A n c) n xs) : Rd w w.heap.size size A n xs := by
  refine ⟨h.1, fun hn => ?_⟩
  obtain ⟨g, cap, hv, _, hlt⟩ := h.form hn
  have hA : A = some ⟨g, 0, none⟩ := by injection hv
  subst hA
  exact ⟨_, rfl, hlt, h.cells (g := g) rfl⟩
end

/-! ### append from any readable source -/
section
variable {P : Program} (w : World)

theorem run_append_of_nil (base : Nat) (t ty e : TypeId) (i : TypeInfo) (size : Nat) (ht : P.underlying t = some (.slice e)) (hi : P.info? e = some i)
    (v : Value) (n : Nat) (xs : List Value) (hown : w.ownsRow base e size v n xs) (c : Nat) : (Builtin.append_ #[t, t] ty #[v, .slice none 0 c]).run P w = .ok v w := by
  rcases hown.2 with ⟨rfl, rfl⟩ | ⟨g, cap, cur, rfl, _, _, hnc, _⟩
  · simp [Builtin.append_, run_underlying ht, sizeOf, typeInfo, hi, Builtin.lenOf, Builtin.firstCells]
  · simp [Builtin.append_, run_underlying ht, sizeOf, typeInfo, hi, Builtin.lenOf, Builtin.firstCells, hnc, storeCells]

theorem run_append_rd (base : Nat) (t ty e : TypeId) (i : TypeInfo) (z : Value) (size bytes : Nat) (ht : P.underlying t = some (.slice e)) (hi : P.info? e = some i) (hz : i.zero = some z)
    (hsize : i.size = size) (hby : i.bytes = bytes) (hzs : z.cells.size = size) (hsz : 0 < size)
    (v : Value) (n : Nat) (xs : List Value) (hown : w.ownsRow base e size v n xs)
    (B : Nat) (A : Option Addr) (m c : Nat) (news : List Value) (hr : Rd w B size A m news) (h1 : ∀ u ∈ news, u.oneCell' = true)
    (h63 : n + m ≤ maxLen) (hbytes : (n + m) * bytes ≤ 140737488355328) (hbase : base ≤ w.heap.size) :
    ∃ v' w', (Builtin.append_ #[t, t] ty #[v, .slice A m c]).run P w = .ok v' w' ∧ w'.ownsRow base e size v' (n + m) (xs ++ news) ∧ w.grownBy w' v.ownBlock ∧
      (v'.ownBlock = v.ownBlock ∨ v'.ownBlock = some w.heap.size) := by
  rcases A with _ | ad
  · have hm : m = 0 := by
      rcases Nat.eq_zero_or_pos m with h0 | h0
      · exact h0
      · obtain ⟨ad, h, _⟩ := hr.2 h0
        cases h
    subst hm
    have hn : news = [] := List.eq_nil_of_length_eq_zero (by simpa using hr.1)
    subst hn
    exact ⟨v, w, run_append_of_nil w base t ty e i size ht hi v n xs hown c, by simpa using hown, World.grownBy.refl w _, .inl rfl⟩
  · have hcells : ∀ j u, news[j]? = some u → w.cell? (ad.add j) = some u := by
      intro j u hu
      rcases Nat.eq_zero_or_pos m with h0 | h0
      · subst h0
        have hn : news = [] := List.eq_nil_of_length_eq_zero (by simpa using hr.1)
        subst hn
        simp at hu
      · obtain ⟨ad', h, _, hc⟩ := hr.2 h0
        injection h with h
        subst h
        exact hc j u hu
    obtain ⟨v', w', hrun, h2, h3, _, h5⟩ := run_append_own_at (P := P) w base t ty e i z size bytes ht hi hz hsize hby hzs hsz v n xs hown ad m c news hr.1 hcells h1 h63 hbytes hbase
    exact ⟨v', w', hrun, h2, h3, h5⟩
end

/-! ### a whole struct or array, stored into a block -/
section
variable {P : Program}
theorem run_storeVar_at (w : World) (g o : Nat) (t ty : TypeId) (cur vals : Array Value) (hg : w.heap[g]? = some (.cells cur t (0, 0))) (hi : (P.info? ty).map (·.size) = some vals.size)
    (hfit : o + vals.size ≤ cur.size) (h1 : ∀ v ∈ vals.toList, v.oneCell' = true) :
    (storeVar ty ⟨g, o, none⟩ (.agg vals)).run P w = .ok () (w.setRow g (cur.toList.take o ++ vals.toList ++ cur.toList.drop (o + vals.size)).toArray) := by
  have hst := run_storeCells_at P g o t vals.toList 0 cur w hg (by simpa using hfit) h1
  cases hq : P.info? ty with
  | none => simp [hq] at hi
  | some i =>
    have hs : i.size = vals.size := by simpa [hq] using hi
    simp [storeVar, Value.cells, sizeOf, typeInfo, hq, hs, hst]
theorem run_storeVar_row (w : World) (g : Nat) (t ty : TypeId) (cur vals : Array Value) (hg : w.heap[g]? = some (.cells cur t (0, 0))) (hi : (P.info? ty).map (·.size) = some vals.size)
    (hfit : vals.size = cur.size) (h1 : ∀ v ∈ vals.toList, v.oneCell' = true) : (storeVar ty ⟨g, 0, none⟩ (.agg vals)).run P w = .ok () (w.setRow g vals) := by
  rw [run_storeVar_at w g 0 t ty cur vals hg hi (by omega) h1]
  have : cur.toList.drop (0 + vals.size) = [] := List.drop_eq_nil_of_le (by simp; omega)
  rw [this]
  simp
theorem wpList_store_row {ops : Array Oper} {rest : List Oper} {o : Oper} {a : Act} {w : World} {Q : Exit → Act → World → Prop} (hgd : o.guard = none) (ty : TypeId) (x y : Operand) (ho : o.op = .store ty x y)
    (g : Nat) (vals : Array Value) (hx : a.eval x = .pointer (some ⟨g, 0, none⟩)) (hy : a.eval y = .agg vals) (t : TypeId) (cur : Array Value) (hg : w.heap[g]? = some (.cells cur t (0, 0)))
    (hi : (P.info? ty).map (·.size) = some vals.size) (hfit : vals.size = cur.size) (h1 : ∀ v ∈ vals.toList, v.oneCell' = true)
    (h : wpList P ops Q rest (a.put o.dst undef) (w.setRow g vals)) : wpList P ops Q (o :: rest) a w :=
  wpList_plain hgd fun K hK => by
    unfold Oper.wp execOp
    simp only [ho, hx, hy, Instr.storeAt, Instr.sureAddr, Sem.run_bind, Sem.run_pure, Result.andThen_ok, run_storeVar_row w g t ty cur vals hg hi hfit h1]
    exact hK _ _ h
end

/-! ### bytes -/
/-- a byte as a value -/
def b8 (b : UInt8) : Value := .int .u8 (b.toNat : Int)
/-- the cells of a list of bytes -/
def b8s (l : List UInt8) : List Value := l.map b8
theorem b8s_length (l : List UInt8) : (b8s l).length = l.length := by simp [b8s]
theorem b8s_get (l : List UInt8) (k : Nat) (h : k < l.length) : (b8s l)[k]? = some (.int .u8 ((l[k]).toNat : Int)) := by simp [b8s, h, b8]
theorem b8s_append (a b : List UInt8) : b8s (a ++ b) = b8s a ++ b8s b := by simp [b8s]
theorem b8s_one (l : List UInt8) : ∀ u ∈ b8s l, u.oneCell' = true := by
  intro u hu
  obtain ⟨_, _, rfl⟩ := List.mem_map.1 hu
  rfl

/-- the value v is a slice of bytes that reads as l, in blocks below B -/
def By (w : World) (B : Nat) (v : Value) (l : List UInt8) : Prop :=
  ∃ A c, v = .slice A l.length c ∧ l.length ≤ c ∧ c ≤ maxLen ∧ Rd w B 1 A l.length (b8s l)

/-- the value v is a slice of bytes of the call's own, all of whose cells lie in blocks from base on -/
def Ow (w : World) (base : Nat) (v : Value) (l : List UInt8) : Prop := w.ownsRow base 5 1 v l.length (b8s l)

section
variable {w w' : World} {B B' : Nat} {v : Value} {l : List UInt8}
theorem By.below (h : By w B v l) (hb : Below B w w') : By w' B v l := by
  obtain ⟨A, c, h1, h2, h3, h4⟩ := h
  exact ⟨A, c, h1, h2, h3, h4.below hb⟩
theorem By.more (h : By w B v l) (hB : B ≤ B') : By w B' v l := by
  obtain ⟨A, c, h1, h2, h3, h4⟩ := h
  exact ⟨A, c, h1, h2, h3, h4.more hB⟩
theorem By.alloc (h : By w B v l) (hB : B ≤ w.heap.size) (o : Obj) : By (w.alloc o) B v l := by
  obtain ⟨A, c, h1, h2, h3, h4⟩ := h
  exact ⟨A, c, h1, h2, h3, h4.alloc hB o⟩
theorem By.step (h : By w w.heap.size v l) (hb : Below w.heap.size w w') : By w' w'.heap.size v l := (h.below hb).more hb.size
theorem By.nil_ : By w B (.slice none 0 0) [] := ⟨none, 0, rfl, Nat.le_refl _, Nat.zero_le _, Rd.none_⟩
theorem Ow.by_ {base : Nat} (h : Ow w base v l) : By w w.heap.size v l := by
  unfold Ow at h
  rcases h.2 with ⟨rfl, hn⟩ | ⟨g, cap, cur, rfl, _, hg, hnc, hcm, _⟩
  · have : l = [] := List.eq_nil_of_length_eq_zero hn
    subst this
    exact By.nil_
  · exact ⟨_, cap, rfl, hnc, hcm, Rd.of_own h⟩
theorem Ow.mono {base base' : Nat} (h : Ow w base v l) (hb : base' ≤ base) : Ow w base' v l := by
  refine ⟨h.1, ?_⟩
  rcases h.2 with h2 | ⟨g, cap, cur, h1, h2, h3⟩
  · exact .inl h2
  · exact .inr ⟨g, cap, cur, h1, Nat.le_trans hb h2, h3⟩
end

/-- one new cell reads as a row of one -/
theorem rd1 (w : World) (x : Value) (t : TypeId) (hx : x.oneCell' = true) : Rd (w.alloc (.cells #[x] t)) (w.alloc (.cells #[x] t)).heap.size 1 (some ⟨w.heap.size, 0, none⟩) 1 [x] :=
  have _ := hx
  ⟨rfl, fun _ => ⟨_, rfl, by simp, cell_one_new w x t⟩⟩
theorem one_by {w : World} {B : Nat} {v : Value} {l : List UInt8} (h : By w B v l) : ∀ k (h1 : k < [v].length) (h2 : k < [l].length), By w B [v][k] [l][k] := by
  intro k h1 h2
  have : k = 0 := by simp at h1; omega
  subst this
  exact h
end Go.Proofs.Ytpoicbhbkabllaa

namespace Go.Proofs.Ytpoicbhbkabllaa
set_option linter.unusedSimpArgs false
set_option linter.unusedVariables false

theorem u8_lt (x : UInt8) : x.toNat < 256 := x.toNat_lt
theorem u16_lt (x : UInt16) : x.toNat < 65536 := x.toNat_lt
theorem u32_lt (x : UInt32) : x.toNat < 4294967296 := x.toNat_lt
theorem u64_lt (x : UInt64) : x.toNat < 18446744073709551616 := x.toNat_lt

/-! conversions -/
theorem wrap_u8_u8 (x : UInt8) : IntKind.u8.wrap (x.toNat : Int) = (x.toNat : Int) := by rw [IntKind.wrap_u8']; have := u8_lt x; omega
theorem wrap_u8_u32 (x : UInt32) : IntKind.u8.wrap (x.toNat : Int) = (x.toUInt8.toNat : Int) := by
  rw [IntKind.wrap_u8', UInt32.toNat_toUInt8]; simp
theorem wrap_u8_u64 (x : UInt64) : IntKind.u8.wrap (x.toNat : Int) = (x.toUInt8.toNat : Int) := by
  rw [IntKind.wrap_u8', UInt64.toNat_toUInt8]; simp
theorem wrap_u32_u8 (x : UInt8) : IntKind.u32.wrap (x.toNat : Int) = (x.toUInt32.toNat : Int) := by
  rw [IntKind.wrap_u32', UInt8.toNat_toUInt32]; have := u8_lt x; omega
theorem wrap_u32_u32 (x : UInt32) : IntKind.u32.wrap (x.toNat : Int) = (x.toNat : Int) := by rw [IntKind.wrap_u32']; have := u32_lt x; omega
theorem wrap_u32_u64 (x : UInt64) : IntKind.u32.wrap (x.toNat : Int) = (x.toUInt32.toNat : Int) := by
  rw [IntKind.wrap_u32', UInt64.toNat_toUInt32]; simp
theorem wrap_u64 (n : Int) : IntKind.u64.wrap n = n % 18446744073709551616 := by simp [IntKind.wrap, IntKind.bits, IntKind.signed]
theorem wrap_i64 (n : Int) : IntKind.i64.wrap n = (n + 9223372036854775808) % 18446744073709551616 - 9223372036854775808 := by
  simp [IntKind.wrap, IntKind.bits, IntKind.signed]
  omega
theorem wrap_u64_u8 (x : UInt8) : IntKind.u64.wrap (x.toNat : Int) = (x.toUInt64.toNat : Int) := by
  rw [wrap_u64, UInt8.toNat_toUInt64]; have := u8_lt x; omega
theorem wrap_u64_u32 (x : UInt32) : IntKind.u64.wrap (x.toNat : Int) = (x.toUInt64.toNat : Int) := by
  rw [wrap_u64, UInt32.toNat_toUInt64]; have := u32_lt x; omega
theorem wrap_u64_u64 (x : UInt64) : IntKind.u64.wrap (x.toNat : Int) = (x.toNat : Int) := by rw [wrap_u64]; have := u64_lt x; omega
theorem wrap_i64_u8 (x : UInt8) : IntKind.i64.wrap (x.toNat : Int) = (x.toNat : Int) := by rw [wrap_i64]; have := u8_lt x; omega
theorem wrap_i64_u32 (x : UInt32) : IntKind.i64.wrap (x.toNat : Int) = (x.toNat : Int) := by rw [wrap_i64]; have := u32_lt x; omega

/-! bits -/
theorem and_u8 (a b : UInt8) : bits .and .u8 (a.toNat : Int) (b.toNat : Int) = ((a &&& b).toNat : Int) := by rw [u8_and_nat _ _ (u8_lt a) (u8_lt b), UInt8.toNat_and]
theorem or_u8 (a b : UInt8) : bits .or .u8 (a.toNat : Int) (b.toNat : Int) = ((a ||| b).toNat : Int) := by rw [u8_or_nat _ _ (u8_lt a) (u8_lt b), UInt8.toNat_or]
theorem xor_u8 (a b : UInt8) : bits .xor .u8 (a.toNat : Int) (b.toNat : Int) = ((a ^^^ b).toNat : Int) := by rw [u8_xor_nat _ _ (u8_lt a) (u8_lt b), UInt8.toNat_xor]
theorem and_u32 (a b : UInt32) : bits .and .u32 (a.toNat : Int) (b.toNat : Int) = ((a &&& b).toNat : Int) := by rw [u32_and_nat _ _ (u32_lt a) (u32_lt b), UInt32.toNat_and]
theorem or_u32 (a b : UInt32) : bits .or .u32 (a.toNat : Int) (b.toNat : Int) = ((a ||| b).toNat : Int) := by rw [u32_or_nat _ _ (u32_lt a) (u32_lt b), UInt32.toNat_or]
theorem xor_u32 (a b : UInt32) : bits .xor .u32 (a.toNat : Int) (b.toNat : Int) = ((a ^^^ b).toNat : Int) := by rw [u32_xor_nat _ _ (u32_lt a) (u32_lt b), UInt32.toNat_xor]
theorem and_u64 (a b : UInt64) : bits .and .u64 (a.toNat : Int) (b.toNat : Int) = ((a &&& b).toNat : Int) := by rw [u64_and_nat _ _ (u64_lt a) (u64_lt b), UInt64.toNat_and]
theorem or_u64 (a b : UInt64) : bits .or .u64 (a.toNat : Int) (b.toNat : Int) = ((a ||| b).toNat : Int) := by rw [u64_or_nat _ _ (u64_lt a) (u64_lt b), UInt64.toNat_or]
theorem xor_u64 (a b : UInt64) : bits .xor .u64 (a.toNat : Int) (b.toNat : Int) = ((a ^^^ b).toNat : Int) := by rw [u64_xor_nat _ _ (u64_lt a) (u64_lt b), UInt64.toNat_xor]

/-! shifts by a literal -/
theorem shr_u32 (a : UInt32) (k : Nat) (hk : k < 32) : ((a.toNat : Int)).fdiv (2 ^ k) = ((a >>> (UInt32.ofNat k)).toNat : Int) := by
  have h : (UInt32.ofNat k).toNat % 32 = k := by rw [UInt32.toNat_ofNat']; omega
  rw [UInt32.toNat_shiftRight, h, Nat.shiftRight_eq_div_pow, Int.fdiv_eq_ediv_of_nonneg _ (by exact Int.le_of_lt (Int.pow_pos (by decide)))]
  simp
theorem shr_u64 (a : UInt64) (k : Nat) (hk : k < 64) : ((a.toNat : Int)).fdiv (2 ^ k) = ((a >>> (UInt64.ofNat k)).toNat : Int) := by
  have h : (UInt64.ofNat k).toNat % 64 = k := by rw [UInt64.toNat_ofNat']; omega
  rw [UInt64.toNat_shiftRight, h, Nat.shiftRight_eq_div_pow, Int.fdiv_eq_ediv_of_nonneg _ (by exact Int.le_of_lt (Int.pow_pos (by decide)))]
  simp
theorem not_u32 (a : UInt32) : IntKind.u32.wrap (-(a.toNat : Int) - 1) = ((~~~a).toNat : Int) := by
  have := u32_lt a
  rw [IntKind.wrap_u32', UInt32.toNat_not]; simp only [UInt32.size]; omega
theorem not_u64 (a : UInt64) : IntKind.u64.wrap (-(a.toNat : Int) - 1) = ((~~~a).toNat : Int) := by
  have := u64_lt a
  rw [wrap_u64, UInt64.toNat_not]; simp only [UInt64.size]; omega
theorem mul_u32 (a b : UInt32) : IntKind.u32.wrap ((a.toNat : Int) * (b.toNat : Int)) = ((a * b).toNat : Int) := by
  rw [IntKind.wrap_u32', UInt32.toNat_mul]; simp
theorem mul_u64 (a b : UInt64) : IntKind.u64.wrap ((a.toNat : Int) * (b.toNat : Int)) = ((a * b).toNat : Int) := by
  rw [wrap_u64, UInt64.toNat_mul]; simp
theorem add_u32 (a b : UInt32) : IntKind.u32.wrap ((a.toNat : Int) + (b.toNat : Int)) = ((a + b).toNat : Int) := by
  rw [IntKind.wrap_u32', UInt32.toNat_add]; simp
theorem add_u64 (a b : UInt64) : IntKind.u64.wrap ((a.toNat : Int) + (b.toNat : Int)) = ((a + b).toNat : Int) := by
  rw [wrap_u64, UInt64.toNat_add]; simp

theorem compl_u32 (a : UInt32) : bits .xor .u32 IntKind.u32.max (a.toNat : Int) = ((~~~a).toNat : Int) := by
  have h : (-1 : UInt32) ^^^ a = ~~~a := by rw [UInt32.xor_comm, UInt32.xor_neg_one]
  rw [← h, ← xor_u32]; rfl
theorem compl_u64 (a : UInt64) : bits .xor .u64 IntKind.u64.max (a.toNat : Int) = ((~~~a).toNat : Int) := by
  have h : (-1 : UInt64) ^^^ a = ~~~a := by rw [UInt64.xor_comm, UInt64.xor_neg_one]
  rw [← h, ← xor_u64]; rfl

/-! in the walk's own forms: a conversion to uint8 is '% 256', a shift is a division -/
theorem mod_u8_u32 (x : UInt32) : (x.toNat : Int) % 256 = (x.toUInt8.toNat : Int) := by rw [← wrap_u8_u32, IntKind.wrap_u8']
theorem mod_u8_u64 (x : UInt64) : (x.toNat : Int) % 256 = (x.toUInt8.toNat : Int) := by rw [← wrap_u8_u64, IntKind.wrap_u8']
theorem div_u32 (x : UInt32) (k : Nat) (hk : k < 32) (d : Int) (hd : d = 2 ^ k) : (x.toNat : Int) / d = ((x >>> UInt32.ofNat k).toNat : Int) := by
  rw [hd, ← shr_u32 x k hk, Int.fdiv_eq_ediv_of_nonneg _ (by exact Int.le_of_lt (Int.pow_pos (by decide)))]
theorem div_u64 (x : UInt64) (k : Nat) (hk : k < 64) (d : Int) (hd : d = 2 ^ k) : (x.toNat : Int) / d = ((x >>> UInt64.ofNat k).toNat : Int) := by
  rw [hd, ← shr_u64 x k hk, Int.fdiv_eq_ediv_of_nonneg _ (by exact Int.le_of_lt (Int.pow_pos (by decide)))]
end Go.Proofs.Ytpoicbhbkabllaa

namespace Go.Proofs.Ytpoicbhbkabllaa
set_option linter.unusedSimpArgs false
set_option linter.unusedVariables false
open Go.RowKit

/-! ### what an append onto an own row leaves -/
structure Ext (w w' : World) (v v' : Value) : Prop where
  gr : w.grownBy w' v.ownBlock
  at_ : v'.ownBlock = v.ownBlock ∨ ∀ k, v'.ownBlock = some k → w.heap.size ≤ k
theorem Ext.refl (w : World) (v : Value) : Ext w w v v := ⟨World.grownBy.refl _ _, .inl rfl⟩
theorem Ext.trans {a b c : World} {u v x : Value} (h : Ext a b u v) (k : Ext b c v x) : Ext a c u x := by
  refine ⟨⟨k.gr.os.trans h.gr.os, k.gr.tape.trans h.gr.tape, k.gr.output.trans h.gr.output, Nat.le_trans h.gr.size k.gr.size, fun i hi hne => ?_⟩, ?_⟩
  · refine (k.gr.block i (Nat.lt_of_lt_of_le hi h.gr.size) (fun e => ?_)).trans (h.gr.block i hi hne)
    rcases h.at_ with h1 | h1
    · exact hne (by rw [e, h1])
    · exact absurd (h1 i e.symm) (by omega)
  · rcases k.at_ with k1 | k1
    · rcases h.at_ with h1 | h1
      · exact .inl (k1.trans h1)
      · exact .inr fun i hi => h1 i (by rw [← k1]; exact hi)
    · exact .inr fun i hi => Nat.le_trans h.gr.size (k1 i hi)
theorem Ext.below {w w' : World} {v v' : Value} (h : Ext w w' v v') {B : Nat} (hB : B ≤ w.heap.size) (hv : ∀ k, v.ownBlock = some k → B ≤ k) : Below B w w' :=
  (Below.refl B w).grown h.gr hB hv
theorem Ext.after {a w w' : World} {v v' : Value} (h : Ext w w' v v') (hb : Below a.heap.size a w) (row : Value) (hv : v.ownBlock = row.ownBlock) : Ext a w' row v' := by
  refine ⟨⟨h.gr.os.trans hb.os, h.gr.tape.trans hb.tape, h.gr.output.trans hb.output, Nat.le_trans hb.size h.gr.size, fun i hi hne => ?_⟩, ?_⟩
  · exact (h.gr.block i (Nat.lt_of_lt_of_le hi hb.size) (by rw [hv]; exact hne)).trans (hb.block i hi)
  · rcases h.at_ with h1 | h1
    · exact .inl (h1.trans hv)
    · exact .inr fun k hk => Nat.le_trans hb.size (h1 k hk)
theorem Ext.then_ {w w' w'' : World} {v v' : Value} (h : Ext w w' v v') (hb : Below w'.heap.size w' w'') : Ext w w'' v v' :=
  ⟨⟨hb.os.trans h.gr.os, hb.tape.trans h.gr.tape, hb.output.trans h.gr.output, Nat.le_trans h.gr.size hb.size, fun i hi hne => (hb.block i (Nat.lt_of_lt_of_le hi h.gr.size)).trans (h.gr.block i hi hne)⟩, h.at_⟩

/-! ### own rows of bytes -/
theorem info8 : (Try.prog.info? 5).map (fun i => (i.zero, i.size, i.bytes)) = some (some (.int .u8 0), 1, 1) := by kernel_rfl
theorem size8 : (Try.prog.info? 5).map (·.size) = some 1 := by kernel_rfl
section
variable {w w' : World} {base B : Nat} {v : Value} {l : List UInt8}
theorem Ow.blk (h : Ow w base v l) : ∀ k, v.ownBlock = some k → base ≤ k ∧ k < w.heap.size := World.ownsRow.lt h
theorem Ow.keep (h : Ow w base v l) {row : Option Nat} (hg : w.grownBy w' row) (hne : v.ownBlock = none ∨ v.ownBlock ≠ row) : Ow w' base v l := World.ownsRow.kept h hg hne
theorem Ow.below_ (h : Ow w base v l) (hb : Below w.heap.size w w') : Ow w' base v l :=
  World.ownsRow.kept h (row := none) ⟨hb.os, hb.tape, hb.output, hb.size, fun k hk _ => hb.block k hk⟩ (by cases hv : v.ownBlock <;> simp)
theorem Ow.nil_ (w : World) (base : Nat) : Ow w base (.slice none 0 0) [] := World.ownsRow_nil _ _ _ _
theorem Ow.alloc (h : Ow w base v l) (o : Obj) : Ow (w.alloc o) base v l := World.ownsRow.alloc h o
theorem Ow.form (h : Ow w base v l) (hl : l ≠ []) : ∃ g cap, v = .slice (some ⟨g, 0, none⟩) l.length cap ∧ l.length ≤ cap ∧ cap ≤ maxLen ∧ base ≤ g ∧ g < w.heap.size := by
  obtain ⟨g, cap, hv, hb, hlt⟩ := World.ownsRow.form (size := 1) h (List.length_pos_iff.2 hl)
  rcases h.2 with ⟨rfl, _⟩ | ⟨g', cap', cur, hv', _, _, h1, h2, _⟩
  · cases hv
  · rw [hv] at hv'
    injection hv' with e1 e2 e3
    subst e3
    exact ⟨g, cap, hv, h1, h2, hb, hlt⟩
end

/-- a new row of bytes, written out -/
theorem By.new_ (w : World) (l : List UInt8) (hm : l.length ≤ maxLen) : By (w.alloc (.cells (b8s l).toArray 5)) (w.heap.size + 1) (.slice (some ⟨w.heap.size, 0, none⟩) l.length l.length) l :=
  ⟨_, _, rfl, Nat.le_refl _, hm, by simp [b8s_length], fun _ => ⟨_, rfl, by simp, fun j u hu => World.news_of_block (heap_alloc_new w _) j u (by simpa using hu)⟩⟩
theorem By.newF (w : World) (l : List UInt8) (hm : l.length ≤ maxLen) (fr : Nat × Nat) : By (w.alloc (.cells (b8s l).toArray 5 fr)) (w.heap.size + 1) (.slice (some ⟨w.heap.size, 0, none⟩) l.length l.length) l :=
  ⟨_, _, rfl, Nat.le_refl _, hm, by simp [b8s_length], fun _ => ⟨_, rfl, by simp, fun j u hu => World.news_of_block (heap_alloc_new w _) j u (by simpa using hu)⟩⟩
theorem Ow.new_ (w : World) (l : List UInt8) (hm : l.length ≤ maxLen) : Ow (w.alloc (.cells (b8s l).toArray 5)) w.heap.size (.slice (some ⟨w.heap.size, 0, none⟩) l.length l.length) l := by
  refine ⟨by simp [b8s_length], .inr ⟨w.heap.size, l.length, _, rfl, Nat.le_refl _, heap_alloc_new w _, Nat.le_refl _, hm, by simp [b8s_length], ?_⟩⟩
  exact List.take_of_length_le (by simp [b8s_length])

/-- append(s, x...), s the call's own, x any readable row -/
theorem wpList_app8 {ops : Array Oper} {rest : List Oper} {o : Oper} {a : Act} {w : World} {Q : Exit → Act → World → Prop} (hgd : o.guard = none) (s x : Operand)
    (ho : o.op = .call { callee := .builtin .append, args := #[s, x], argTypes := #[30, 30] })
    {base B : Nat} {v v2 : Value} {l l2 : List UInt8} (hown : Ow w base v l) (hby : By w B v2 l2) (hs : a.eval s = v) (hx : a.eval x = v2)
    (hsz : l.length + l2.length ≤ 140737488355328) (hbase : base ≤ w.heap.size)
    (h : ∀ v' w', Ow w' base v' (l ++ l2) → Ext w w' v v' → wpList Try.prog ops Q rest (a.put o.dst v') w') : wpList Try.prog ops Q (o :: rest) a w := by
  obtain ⟨i, hi, hz0, hz1, hz2⟩ := info_parts info8
  obtain ⟨A, c, rfl, _, _, hrd⟩ := hby
  refine wpList_plain hgd fun K hK => ?_
  obtain ⟨v', w', hr, h2, h3, h5⟩ := run_append_rd (P := Try.prog) w base 30 o.type 5 i (.int .u8 0) 1 1 Try.underlying30 hi hz0 hz1 hz2 rfl (by omega) v l.length (b8s l) hown B A l2.length c (b8s l2) hrd (b8s_one l2)
    (by unfold maxLen; omega) (by omega) hbase
  unfold Oper.wp execOp
  simp only [ho, resolve, invoke, builtin, Sem.run_bind, Sem.run_pure, Result.andThen_ok, List.map_toArray, List.map_cons, List.map_nil, hs, hx, hr]
  refine hK _ _ (h v' w' ?_ ⟨h3, ?_⟩)
  · unfold Ow
    rw [List.length_append, b8s_append]
    exact h2
  · rcases h5 with h5 | h5
    · exact .inl h5
    · exact .inr fun k hk => by rw [h5] at hk; injection hk with hk; omega

/-! ### bytes to a string -/
def bst (l : List UInt8) : ByteArray := ⟨l.toArray⟩
theorem bst_toList (l : List UInt8) : (bst l).toList = l := ByteArray.toList_mk l
theorem foldl_push8 : ∀ (ns : List UInt8) (s : ByteArray), (ns.map fun b => (b.toNat : Int)).foldl (fun r n => r.push (UInt8.ofNat n.toNat)) s = ⟨s.data ++ ns.toArray⟩ := by
  intro ns
  induction ns with
  | nil => intro s; simp
  | cons n ns ih =>
    intro s
    rw [List.map_cons, List.foldl_cons, ih]
    simp [ByteArray.push]
theorem conv8 {w : World} {B : Nat} {v : Value} {l : List UInt8} (h : By w B v l) : (convert 30 9 v).run Try.prog w = .ok (.string (bst l)) w := by
  obtain ⟨A, c, rfl, _, _, hr⟩ := h
  rw [run_convert_bytes_string w _ _ 5 A l.length c Try.underlying30 Try.underlying5 Try.underlying9]
  cases A with
  | none =>
    have h0 : l.length = 0 := by
      rcases Nat.eq_zero_or_pos l.length with h | h
      · exact h
      · obtain ⟨_, h, _⟩ := hr.ad h; cases h
    have hl : l = [] := List.eq_nil_of_length_eq_zero h0
    subst hl
    rfl
  | some ad =>
    have hc : ∀ j u, (b8s l)[j]? = some u → w.cell? (ad.add j) = some u := by
      intro j u hu
      rcases Nat.eq_zero_or_pos l.length with h | h
      · have hl : l = [] := List.eq_nil_of_length_eq_zero h
        subst hl
        simp [b8s] at hu
      · obtain ⟨ad', e, _, hc⟩ := hr.ad h
        injection e with e
        subst e
        exact hc j u hu
    have hl := run_loadCells_list (P := Try.prog) w ad (b8s l) hc
    rw [b8s_length] at hl
    have hm : b8s l = (l.map fun b => (b.toNat : Int)).map (Value.int .u8) := by simp [b8s, b8]
    rw [hm] at hl
    rw [run_bytesToString w ad l.length c (l.map fun b => (b.toNat : Int)) hl, foldl_push8]
    simp [bst, ByteArray.empty, ByteArray.emptyWithCapacity]
    rfl
theorem bst_eq (a b : List UInt8) : ((bst a).toList == (bst b).toList) = decide (a = b) := by rw [bst_toList, bst_toList, Bool.eq_iff_iff]; simp

theorem eqnil (t e : TypeId) (h : Try.prog.underlying t = some (.slice e)) (w : World) (A : Option Addr) (n c : Nat) : (binOp .eql t (.slice A n c) (.slice none 0 0)).run Try.prog w = .ok (.bool A.isNone) w := Lib.run_eql_slice_nil w t e A n c 0 0 h

set_option maxHeartbeats 400000 in
/-- slices.Clone at bytes: the same bytes in memory of one's own -/
theorem clone8 (w : World) (v : Value) (l : List UInt8) (hby : By w w.heap.size v l) (hsz : l.length ≤ 140737488355328) :
    Calls Try.prog 94 #[v] w fun e w' => ∃ v', e = .returned v' ∧ Ow w' w.heap.size v' l ∧ Below w.heap.size w w' := by
  have hby2 := hby.alloc (Nat.le_refl _) (.cells #[] 5)
  obtain ⟨A, c, rfl, hc1, hc2, hrd⟩ := hby
  have hn := eqnil 30 5 Try.underlying30
  cases A with
  | none =>
    have h0 : l.length = 0 := by
      rcases Nat.eq_zero_or_pos l.length with h | h
      · exact h
      · obtain ⟨_, h, _⟩ := hrd.ad h; cases h
    have hl : l = [] := List.eq_nil_of_length_eq_zero h0
    subst hl
    go_enter Try.func94, Try.ntmps94
    go_wp2
    go_ret
    exact ⟨_, rfl, Ow.nil_ _ _, Below.refl _ _⟩
  | some ad =>
    go_enter Try.func94, Try.ntmps94
    go_wp2_with (first
      | (at_builtin
         refine wpList_app8 rfl (.tmp 5) (.tmp 6) rfl (Ow.new_ w [] (Nat.zero_le _)) hby2 rfl rfl (by simpa using hsz) (by simp) ?_
         intro v1 w1 hown1 hext1))
    go_ret
    exact ⟨_, rfl, by simpa using hown1, ((Below.refl _ _).alloc (Nat.le_refl _) _).trans (hext1.below (by simp) (by simp [Value.ownBlock]))⟩

/-! ### reading and writing an own row -/
section
variable {w : World} {base g n cap : Nat} {l : List UInt8} {v : Value}
theorem Ow.cellAt (h : Ow w base (.slice (some ⟨g, 0, none⟩) n cap) l) (hn : n = l.length) (j : Nat) (hj : j < l.length) : w.cell? ⟨g, j, none⟩ = some (.int .u8 ((l[j]).toNat : Int)) := by
  subst hn
  rw [World.ownsRow.cellAt h j (by simpa using hj), b8s_get l j hj]
theorem Ow.cell_ (h : Ow w base (.slice (some ⟨g, 0, none⟩) n cap) l) (hn : n = l.length) (j : Nat) (b : UInt8) (hb : l[j]? = some b) : w.cell? ⟨g, j, none⟩ = some (.int .u8 (b.toNat : Int)) := by
  obtain ⟨hj, e⟩ := List.getElem?_eq_some_iff.1 hb
  rw [h.cellAt hn j hj, e]
theorem Ow.frozenAt (h : Ow w base (.slice (some ⟨g, 0, none⟩) n cap) l) (hn : n = l.length) (j : Nat) : w.frozen? ⟨g, j, none⟩ = false := by
  subst hn
  exact World.ownsRow.frozenAt h j
theorem Ow.put_ (h : Ow w base (.slice (some ⟨g, 0, none⟩) n cap) l) (hn : n = l.length) (j : Nat) (b : UInt8) :
    Ow (w.setCell ⟨g, j, none⟩ (.int .u8 (b.toNat : Int))) base (.slice (some ⟨g, 0, none⟩) n cap) (l.set j b) := by
  subst hn
  have := (World.ownsRow.stored h j (b8 b)).1
  unfold Ow
  rw [List.length_set, show b8s (l.set j b) = (b8s l).set j (b8 b) from by simp [b8s, List.map_set]]
  exact this
theorem Ow.drew (h : Ow w base v l) : Ow w.drew base v l := h
end

theorem Ow.form_ {w : World} {base : Nat} {v : Value} {l : List UInt8} (h : Ow w base v l) :
    ∃ A cap, v = .slice A l.length cap ∧ l.length ≤ cap ∧ cap ≤ maxLen ∧ (0 < l.length → ∃ g, A = some ⟨g, 0, none⟩ ∧ base ≤ g ∧ g < w.heap.size) := by
  rcases Nat.eq_zero_or_pos l.length with h0 | h0
  · obtain ⟨A, c, rfl, h1, h2, _⟩ := h.by_
    exact ⟨A, c, rfl, h1, h2, fun h => by omega⟩
  · obtain ⟨g, cap, rfl, h1, h2, h3, h4⟩ := h.form (fun e => by subst e; simp at h0)
    exact ⟨_, cap, rfl, h1, h2, fun _ => ⟨g, rfl, h3, h4⟩⟩

/-! ### cuts -/
theorem By.front_ {w : World} {B : Nat} {A : Option Addr} {n c : Nat} {l : List UInt8} (h : By w B (.slice A n c) l) {k : Nat} (hk : k ≤ l.length) : By w B (.slice A k c) (l.take k) := by
  obtain ⟨A', c', e, h1, h2, hr⟩ := h
  injection e with e1 e2 e3
  subst e1; subst e2; subst e3
  refine ⟨A, c, by simp [hk], by simp; omega, h2, ?_⟩
  have := hr.front hk
  simpa [b8s, List.map_take, hk] using this
theorem By.back_ {w : World} {B : Nat} {A : Option Addr} {n c : Nat} {l : List UInt8} (h : By w B (.slice A n c) l) {k : Nat} (hk : k ≤ l.length) :
    By w B (.slice (if c = k then A else A.map (·.add k)) (l.length - k) (c - k)) (l.drop k) := by
  obtain ⟨A', c', e, h1, h2, hr⟩ := h
  injection e with e1 e2 e3
  subst e1; subst e2; subst e3
  refine ⟨if c = k then A else A.map (·.add k), c - k, by simp, by simp; omega, by omega, ?_⟩
  have := hr.cut hk h1
  simpa [b8s, List.map_drop] using this
theorem By.len_ {w : World} {B : Nat} {A : Option Addr} {n c : Nat} {l : List UInt8} (h : By w B (.slice A n c) l) : n = l.length ∧ l.length ≤ c ∧ c ≤ maxLen := by
  obtain ⟨A', c', e, h1, h2, hr⟩ := h
  injection e with e1 e2 e3
  exact ⟨e2, by omega, by omega⟩

/-! ### what a law's frame tells of a slice of bytes that came in -/
theorem u8_of_wf {n : Int} (h : (Lit.int .u8 n).wf = true) : ∃ b : UInt8, n = (b.toNat : Int) := by
  have hb : 0 ≤ n ∧ n ≤ 255 := by
    simp [Lit.wf, IntKind.min, IntKind.max, IntKind.bits, IntKind.signed] at h
    omega
  refine ⟨UInt8.ofNat n.toNat, ?_⟩
  rw [UInt8.toNat_ofNat']
  omega
theorem u32_of_wf {n : Int} (h : (Lit.int .u32 n).wf = true) : ∃ b : UInt32, n = (b.toNat : Int) := by
  have hb : 0 ≤ n ∧ n ≤ 4294967295 := by
    simp [Lit.wf, IntKind.min, IntKind.max, IntKind.bits, IntKind.signed] at h
    omega
  refine ⟨UInt32.ofNat n.toNat, ?_⟩
  rw [UInt32.toNat_ofNat']
  omega
theorem u64_of_wf {n : Int} (h : (Lit.int .u64 n).wf = true) : ∃ b : UInt64, n = (b.toNat : Int) := by
  have hb : 0 ≤ n ∧ n ≤ 18446744073709551615 := by
    simp [Lit.wf, IntKind.min, IntKind.max, IntKind.bits, IntKind.signed] at h
    omega
  refine ⟨UInt64.ofNat n.toNat, ?_⟩
  rw [UInt64.toNat_ofNat']
  omega
theorem i64_of_wf {n : Int} (h : (Lit.int .i64 n).wf = true) : -9223372036854775808 ≤ n ∧ n ≤ 9223372036854775807 := by
  simp [Lit.wf, IntKind.min, IntKind.max, IntKind.bits, IntKind.signed] at h
  omega
theorem by_of_row {w : World} {a : Option Addr} {len cap : Nat} {zs : List Int}
    (h : (a = none ∧ len = 0 ∧ cap = 0 ∧ zs = []) ∨
      ∃ x, a = some x ∧ len ≤ cap ∧ cap ≤ maxLen ∧ zs.length = cap ∧ (∀ i, i < zs.length → w.cell? (x.add i) = some (.int .u8 (zs.getD i 0))) ∧ ∀ n ∈ zs, (Lit.int .u8 n).wf = true) :
    ∃ l : List UInt8, l.length = len ∧ By w w.heap.size (.slice a len cap) l := by
  rcases h with ⟨rfl, rfl, rfl, rfl⟩ | ⟨x, rfl, hlc, hcm, hz, hcell, hwf⟩
  · exact ⟨[], rfl, By.nil_⟩
  · refine ⟨(zs.take len).map fun n => UInt8.ofNat n.toNat, by simp; omega, some x, cap, by simp; omega, by simp; omega, hcm, ?_⟩
    refine ⟨by simp [b8s], fun hn => ⟨x, rfl, ?_, ?_⟩⟩
    · have h0 := hcell 0 (by simp at hn; omega)
      have := World.block_lt_of_cell? w (x.add 0) h0
      rwa [add_block] at this
    · intro j u hu
      simp only [b8s, List.map_map, List.getElem?_map, List.getElem?_take] at hu
      by_cases hj : j < len
      · rw [if_pos hj] at hu
        have hjz : j < zs.length := by omega
        rw [List.getElem?_eq_getElem hjz] at hu
        simp only [Option.map_some, Option.some.injEq] at hu
        rw [hcell j hjz, ← hu]
        have hd : zs.getD j 0 = zs[j] := by simp [hjz]
        rw [hd]
        obtain ⟨b, hb⟩ := u8_of_wf (hwf _ (List.getElem_mem hjz))
        rw [hb]
        simp [b8]
      · rw [if_neg hj] at hu
        simp at hu
end Go.Proofs.Ytpoicbhbkabllaa

namespace Go.Proofs.Ytpoicbhbkabllaa
set_option linter.unusedSimpArgs false
set_option linter.unusedVariables false
open Go.RowKit

/-- how a thing lies in cells; S: the blocks in which what it leads to may be -/
structure Cdc (α : Type) where
  n : Nat
  at_ : World → (Nat → Prop) → List Value → α → Prop
  len : ∀ {w S cs x}, at_ w S cs x → cs.length = n
  one : ∀ {w S cs x}, at_ w S cs x → ∀ u ∈ cs, u.oneCell' = true
  keep : ∀ {w w' S cs x}, at_ w S cs x → (∀ p : Addr, S p.block → w'.cell? p = w.cell? p) → at_ w' S cs x
  mono : ∀ {w S S' cs x}, at_ w S cs x → (∀ k, S k → S' k) → at_ w S' cs x

/-- a thing without pointers -/
def Cdc.flat {α : Type} (n : Nat) (enc : α → List Value) (ok : α → Prop) (hl : ∀ x, (enc x).length = n) (h1 : ∀ x, ∀ u ∈ enc x, u.oneCell' = true) : Cdc α where
  n := n
  at_ := fun _ _ cs x => cs = enc x ∧ ok x
  len := fun h => by rw [h.1]; exact hl _
  one := fun h => by rw [h.1]; exact h1 _
  keep := fun h _ => h
  mono := fun h _ => h

/-- the slice value v reads as xs: its row in a block of O, what the elements lead to in blocks of S -/
def RowOn {α : Type} (C : Cdc α) (w : World) (O S : Nat → Prop) (v : Value) (xs : List α) : Prop :=
  ∃ A c, v = .slice A xs.length c ∧ xs.length ≤ c ∧ c ≤ maxLen ∧ (0 < xs.length → ∃ ad, A = some ad ∧ O ad.block ∧
    ∀ (i : Nat) (x : α), xs[i]? = some x → ∃ cs, C.at_ w S cs x ∧ ∀ (j : Nat) (u : Value), cs[j]? = some u → w.cell? (ad.add (i * C.n + j)) = some u)

section
variable {α β : Type} {C : Cdc α} {w w' : World} {O O' S S' : Nat → Prop} {v : Value} {xs : List α}
theorem RowOn.keep (h : RowOn C w O S v xs) (hO : ∀ p : Addr, O p.block → w'.cell? p = w.cell? p) (hS : ∀ p : Addr, S p.block → w'.cell? p = w.cell? p) : RowOn C w' O S v xs := by
  obtain ⟨A, c, h1, h2, h3, h4⟩ := h
  refine ⟨A, c, h1, h2, h3, fun hn => ?_⟩
  obtain ⟨ad, e, hb, hc⟩ := h4 hn
  refine ⟨ad, e, hb, fun i x hx => ?_⟩
  obtain ⟨cs, ha, hcs⟩ := hc i x hx
  exact ⟨cs, C.keep ha hS, fun j u hu => (hO _ (by rw [add_block]; exact hb)).trans (hcs j u hu)⟩
theorem RowOn.mono (h : RowOn C w O S v xs) (hO : ∀ k, O k → O' k) (hS : ∀ k, S k → S' k) : RowOn C w O' S' v xs := by
  obtain ⟨A, c, h1, h2, h3, h4⟩ := h
  refine ⟨A, c, h1, h2, h3, fun hn => ?_⟩
  obtain ⟨ad, e, hb, hc⟩ := h4 hn
  refine ⟨ad, e, hO _ hb, fun i x hx => ?_⟩
  obtain ⟨cs, ha, hcs⟩ := hc i x hx
  exact ⟨cs, C.mono ha hS, hcs⟩
theorem RowOn.nil_ : RowOn C w O S (.slice none 0 0) [] := ⟨none, 0, rfl, Nat.le_refl _, Nat.zero_le _, fun h => absurd h (by simp)⟩
theorem RowOn.form (h : RowOn C w O S v xs) : ∃ A c, v = .slice A xs.length c ∧ xs.length ≤ c ∧ c ≤ maxLen := by
  obtain ⟨A, c, h1, h2, h3, _⟩ := h
  exact ⟨A, c, h1, h2, h3⟩
theorem RowOn.len_ {A : Option Addr} {n c : Nat} (h : RowOn C w O S (.slice A n c) xs) : n = xs.length ∧ xs.length ≤ c ∧ c ≤ maxLen := by
  obtain ⟨A', c', e, h1, h2, _⟩ := h
  injection e with e1 e2 e3
  subst e3
  exact ⟨e2, h1, h2⟩
/-- the cells of one element -/
theorem RowOn.at_ {A : Option Addr} {n c : Nat} (h : RowOn C w O S (.slice A n c) xs) (i : Nat) (x : α) (hx : xs[i]? = some x) :
    ∃ ad cs, A = some ad ∧ O ad.block ∧ C.at_ w S cs x ∧ ∀ (j : Nat) (u : Value), cs[j]? = some u → w.cell? (ad.add (i * C.n + j)) = some u := by
  obtain ⟨A', c', e, h1, h2, h3⟩ := h
  injection e with e1 e2 e3
  subst e1
  obtain ⟨ad, ea, hb, hc⟩ := h3 (by have := (List.getElem?_eq_some_iff.1 hx).1; omega)
  obtain ⟨cs, ha, hcs⟩ := hc i x hx
  exact ⟨ad, cs, ea, hb, ha, hcs⟩
theorem RowOn.front {A : Option Addr} {n c : Nat} (h : RowOn C w O S (.slice A n c) xs) {k : Nat} (hk : k ≤ xs.length) : RowOn C w O S (.slice A k c) (xs.take k) := by
  obtain ⟨A', c', e, h1, h2, h3⟩ := h
  injection e with e1 e2 e3
  subst e1; subst e3
  refine ⟨A, c, by simp [hk], by simp; omega, h2, fun hn => ?_⟩
  obtain ⟨ad, ea, hb, hc⟩ := h3 (by simp at hn; omega)
  refine ⟨ad, ea, hb, fun i x hx => hc i x ?_⟩
  rw [List.getElem?_take] at hx
  split at hx
  · exact hx
  · cases hx
theorem RowOn.back {A : Option Addr} {n c : Nat} (h : RowOn C w O S (.slice A n c) xs) {k : Nat} (hk : k ≤ xs.length) :
    RowOn C w O S (.slice (if c = k then A else A.map (·.add (k * C.n))) (xs.length - k) (c - k)) (xs.drop k) := by
  obtain ⟨A', c', e, h1, h2, h3⟩ := h
  injection e with e1 e2 e3
  subst e1; subst e3
  refine ⟨if c = k then A else A.map (·.add (k * C.n)), c - k, by simp, by simp; omega, by omega, fun hn => ?_⟩
  simp only [List.length_drop] at hn
  obtain ⟨ad, rfl, hb, hc⟩ := h3 (by omega)
  rw [if_neg (by omega)]
  refine ⟨ad.add (k * C.n), rfl, by rw [add_block]; exact hb, fun i x hx => ?_⟩
  rw [List.getElem?_drop] at hx
  obtain ⟨cs, ha, hcs⟩ := hc _ x hx
  refine ⟨cs, ha, fun j u hu => ?_⟩
  rw [add_add, ← hcs j u hu]
  congr 2
  rw [Nat.add_mul, Nat.add_assoc]

/-- a slice as a thing of one cell -/
def Cdc.row (C : Cdc α) : Cdc (List α) where
  n := 1
  at_ := fun w S cs xs => ∃ v, cs = [v] ∧ RowOn C w S S v xs
  len := fun h => by obtain ⟨v, rfl, _⟩ := h; rfl
  one := fun h => by obtain ⟨v, rfl, h⟩ := h; obtain ⟨A, c, rfl, _⟩ := h; intro u hu; simp at hu; subst hu; rfl
  keep := fun h hk => by obtain ⟨v, e, h⟩ := h; exact ⟨v, e, h.keep hk hk⟩
  mono := fun h hk => by obtain ⟨v, e, h⟩ := h; exact ⟨v, e, h.mono hk hk⟩
/-- one thing behind another -/
def Cdc.pair (C : Cdc α) (D : Cdc β) : Cdc (α × β) where
  n := C.n + D.n
  at_ := fun w S cs x => ∃ c1 c2, cs = c1 ++ c2 ∧ C.at_ w S c1 x.1 ∧ D.at_ w S c2 x.2
  len := fun h => by obtain ⟨c1, c2, rfl, h1, h2⟩ := h; simp [C.len h1, D.len h2]
  one := fun h => by
    obtain ⟨c1, c2, rfl, h1, h2⟩ := h
    intro u hu
    rcases List.mem_append.1 hu with hu | hu
    · exact C.one h1 u hu
    · exact D.one h2 u hu
  keep := fun h hk => by obtain ⟨c1, c2, e, h1, h2⟩ := h; exact ⟨c1, c2, e, C.keep h1 hk, D.keep h2 hk⟩
  mono := fun h hk => by obtain ⟨c1, c2, e, h1, h2⟩ := h; exact ⟨c1, c2, e, C.mono h1 hk, D.mono h2 hk⟩
/-- the same, read as another type -/
def Cdc.map (C : Cdc α) (f : β → α) : Cdc β where
  n := C.n
  at_ := fun w S cs x => C.at_ w S cs (f x)
  len := fun h => C.len h
  one := fun h => C.one h
  keep := fun h hk => C.keep h hk
  mono := fun h hk => C.mono h hk

end

/-! ### lists of lists of one length -/
theorem flat_get {α : Type} (n : Nat) : ∀ (css : List (List α)) (_ : ∀ cs ∈ css, cs.length = n) (i : Nat) (cs : List α) (j : Nat), css[i]? = some cs → j < n → css.flatten[i * n + j]? = cs[j]?
  | [], _, i, cs, j, h, _ => by simp at h
  | c :: css, hl, 0, cs, j, h, hj => by
    simp at h; subst h
    simp only [Nat.zero_mul, Nat.zero_add, List.flatten_cons]
    rw [List.getElem?_append_left (by rw [hl c (by simp)]; exact hj)]
  | c :: css, hl, i + 1, cs, j, h, hj => by
    have h' : css[i]? = some cs := by simpa using h
    rw [List.flatten_cons, List.getElem?_append_right (by rw [hl c (by simp), Nat.add_mul]; omega), hl c (by simp)]
    rw [show (i + 1) * n + j - n = i * n + j from by rw [Nat.add_mul]; omega]
    exact flat_get n css (fun c hc => hl c (by simp [hc])) i cs j h' hj
theorem flat_len {α : Type} (n : Nat) : ∀ (css : List (List α)) (_ : ∀ cs ∈ css, cs.length = n), css.flatten.length = css.length * n
  | [], _ => by simp
  | c :: css, hl => by
    rw [List.flatten_cons, List.length_append, flat_len n css (fun c hc => hl c (by simp [hc])), hl c (by simp), List.length_cons, Nat.add_mul]; omega

/-! ### rows of the call's own -/
/-- a slice of the call's own (its row in a block from base on), what the elements lead to in blocks of S -/
def OwnR {α : Type} (E : TypeId) (C : Cdc α) (w : World) (base : Nat) (S : Nat → Prop) (v : Value) (xs : List α) : Prop :=
  ∃ css : List (List Value), css.length = xs.length ∧ w.ownsRow base E C.n v xs.length css.flatten ∧
    (∀ (i : Nat) (cs : List Value) (x : α), css[i]? = some cs → xs[i]? = some x → C.at_ w S cs x) ∧ ∀ k, S k → k < w.heap.size ∧ v.ownBlock ≠ some k
/-- the same of things without pointers -/
abbrev OwnF {α : Type} (E : TypeId) (C : Cdc α) (w : World) (base : Nat) (v : Value) (xs : List α) : Prop := OwnR E C w base (fun _ => False) v xs

section
variable {α : Type} {E : TypeId} {C : Cdc α} {w w' : World} {base : Nat} {O S S' : Nat → Prop} {v : Value} {xs : List α}
theorem OwnR.clen {css : List (List Value)} (hl : css.length = xs.length) (h : ∀ (i : Nat) (cs : List Value) (x : α), css[i]? = some cs → xs[i]? = some x → C.at_ w S cs x) : ∀ cs ∈ css, cs.length = C.n := by
  intro cs hcs
  obtain ⟨i, hi, rfl⟩ := List.mem_iff_getElem.1 hcs
  exact C.len (h i _ (xs[i]'(by omega)) (List.getElem?_eq_getElem hi) (List.getElem?_eq_getElem (by omega)))
theorem OwnR.nil_ (hS : ∀ k, S k → k < w.heap.size) : OwnR E C w base S (.slice none 0 0) ([] : List α) :=
  ⟨[], rfl, World.ownsRow_nil _ _ _ _, fun i cs x h => by simp at h, fun k hk => ⟨hS k hk, by simp [Value.ownBlock]⟩⟩
theorem OwnF.nil_ (w : World) (base : Nat) : OwnF E C w base (.slice none 0 0) ([] : List α) := OwnR.nil_ fun _ h => h.elim
theorem OwnR.blk (h : OwnR E C w base S v xs) : ∀ k, v.ownBlock = some k → base ≤ k ∧ k < w.heap.size := by
  obtain ⟨css, _, h, _⟩ := h
  exact World.ownsRow.lt h
theorem OwnR.form (h : OwnR E C w base S v xs) : (v = .slice none 0 0 ∧ xs = []) ∨ ∃ g cap, v = .slice (some ⟨g, 0, none⟩) xs.length cap ∧ xs.length ≤ cap ∧ cap ≤ maxLen ∧ base ≤ g ∧ g < w.heap.size := by
  have hb := h.blk
  obtain ⟨css, hl, ⟨_, h2⟩, _⟩ := h
  rcases h2 with ⟨rfl, hn⟩ | ⟨g, cap, cur, rfl, h3, h4, h5, h6, _⟩
  · exact .inl ⟨rfl, List.eq_nil_of_length_eq_zero hn⟩
  · exact .inr ⟨g, cap, rfl, h5, h6, hb g rfl⟩
theorem OwnR.form' (h : OwnR E C w base S v xs) : ∃ A cap, v = .slice A xs.length cap ∧ xs.length ≤ cap ∧ cap ≤ maxLen ∧ (0 < xs.length → ∃ g, A = some ⟨g, 0, none⟩ ∧ base ≤ g ∧ g < w.heap.size) := by
  rcases h.form with ⟨rfl, rfl⟩ | ⟨g, cap, rfl, h1, h2, h3, h4⟩
  · exact ⟨none, 0, rfl, Nat.le_refl _, Nat.zero_le _, fun h => by simp at h⟩
  · exact ⟨_, cap, rfl, h1, h2, fun _ => ⟨g, rfl, h3, h4⟩⟩
theorem OwnR.keep {row : Option Nat} (h : OwnR E C w base S v xs) (hg : w.grownBy w' row) (hne : v.ownBlock = none ∨ v.ownBlock ≠ row) (hS : ∀ k, S k → row ≠ some k) : OwnR E C w' base S v xs := by
  obtain ⟨css, hl, h2, h3, h4⟩ := h
  exact ⟨css, hl, World.ownsRow.kept h2 hg hne, fun i cs x hc hx => C.keep (h3 i cs x hc hx) fun p hp => World.cell?_of_block (hg.block p.block (h4 _ hp).1 (fun e => hS _ hp e.symm)),
    fun k hk => ⟨Nat.lt_of_lt_of_le (h4 k hk).1 hg.size, (h4 k hk).2⟩⟩
theorem OwnR.below_ (h : OwnR E C w base S v xs) (hb : Below w.heap.size w w') : OwnR E C w' base S v xs :=
  h.keep (row := none) ⟨hb.os, hb.tape, hb.output, hb.size, fun i hi _ => hb.block i hi⟩ (by cases hv : v.ownBlock <;> simp) (fun k _ e => by cases e)
theorem OwnR.alloc (h : OwnR E C w base S v xs) (o : Obj) : OwnR E C (w.alloc o) base S v xs := h.below_ (balloc w o)
theorem OwnR.more {base' : Nat} (h : OwnR E C w base S v xs) (hb : base' ≤ base) : OwnR E C w base' S v xs := by
  obtain ⟨css, hl, ⟨h1, h2⟩, h3, h4⟩ := h
  refine ⟨css, hl, ⟨h1, ?_⟩, h3, h4⟩
  rcases h2 with h2 | ⟨g, cap, cur, e, hg, r⟩
  · exact .inl h2
  · exact .inr ⟨g, cap, cur, e, Nat.le_trans hb hg, r⟩
theorem OwnR.widen (h : OwnR E C w base S v xs) (hS : ∀ k, S k → S' k) (hlt : ∀ k, S' k → k < w.heap.size ∧ v.ownBlock ≠ some k) : OwnR E C w base S' v xs := by
  obtain ⟨css, hl, h2, h3, h4⟩ := h
  exact ⟨css, hl, h2, fun i cs x hc hx => C.mono (h3 i cs x hc hx) hS, hlt⟩
/-- an own row reads -/
theorem OwnR.row (h : OwnR E C w base S v xs) : RowOn C w (fun k => base ≤ k ∧ k < w.heap.size) S v xs := by
  have hb := h.blk
  obtain ⟨css, hl, h2, h3, h4⟩ := h
  have hcl := OwnR.clen hl h3
  have h2' := h2.2
  rcases h2' with ⟨rfl, hn⟩ | ⟨g, cap, cur, rfl, hg1, hg2, hg3, hg4, _⟩
  · have : xs = [] := List.eq_nil_of_length_eq_zero hn
    subst this
    exact RowOn.nil_
  · refine ⟨_, cap, rfl, hg3, hg4, fun hn => ⟨_, rfl, hb g rfl, fun i x hx => ?_⟩⟩
    have hi : i < css.length := by rw [hl]; exact (List.getElem?_eq_some_iff.1 hx).1
    refine ⟨css[i], h3 i _ x (List.getElem?_eq_getElem hi) hx, fun j u hu => ?_⟩
    have hj : j < C.n := by rw [← hcl _ (List.getElem_mem hi)]; exact (List.getElem?_eq_some_iff.1 hu).1
    refine World.ownsRow.cells h2 (g := g) rfl _ u ?_
    rw [flat_get C.n css hcl i _ j (List.getElem?_eq_getElem hi) hj, hu]
theorem OwnR.rowLt (h : OwnR E C w base S v xs) : RowOn C w (fun k => k < w.heap.size) S v xs := h.row.mono (fun _ hk => hk.2) fun _ hk => hk
theorem OwnR.rowAll (h : OwnR E C w base S v xs) : RowOn C w (fun k => k < w.heap.size) (fun k => k < w.heap.size) v xs := by
  have h4 : ∀ k, S k → k < w.heap.size := by obtain ⟨_, _, _, _, h4⟩ := h; exact fun k hk => (h4 k hk).1
  exact h.row.mono (fun _ hk => hk.2) h4
/-- a new row, written out -/
theorem OwnR.new_ (w : World) (css : List (List Value)) (hl : css.length = xs.length) (hm : xs.length ≤ maxLen)
    (h3 : ∀ (i : Nat) (cs : List Value) (x : α), css[i]? = some cs → xs[i]? = some x → C.at_ w S cs x) (hS : ∀ k, S k → k < w.heap.size) :
    OwnR E C (w.alloc (.cells css.flatten.toArray E)) w.heap.size S (.slice (some ⟨w.heap.size, 0, none⟩) xs.length xs.length) xs := by
  have hcl := OwnR.clen hl h3
  have hfl := flat_len C.n css hcl
  refine ⟨css, hl, ⟨by rw [hfl, hl], .inr ⟨w.heap.size, xs.length, _, rfl, Nat.le_refl _, heap_alloc_new w _, Nat.le_refl _, hm, by simp [hfl, hl], ?_⟩⟩, ?_, ?_⟩
  · exact List.take_of_length_le (by simp [hfl, hl])
  · intro i cs x hc hx
    exact C.keep (h3 i cs x hc hx) fun p hp => World.cell?_alloc_lt w _ p (hS _ hp)
  · intro k hk
    have := hS k hk
    refine ⟨by simp; omega, ?_⟩
    simp [Value.ownBlock]; omega

/-- append(s, x...), s the call's own, x any readable row -/
theorem wpList_appR {ops : Array Oper} {rest : List Oper} {o : Oper} {a : Act} {Q : Exit → Act → World → Prop} (hgd : o.guard = none) (s x : Operand) (t : TypeId)
    (ho : o.op = .call { callee := .builtin .append, args := #[s, x], argTypes := #[t, t] })
    (ht : Try.prog.underlying t = some (.slice E)) {z : Value} {bytes : Nat} (hinfo : (Try.prog.info? E).map (fun i => (i.zero, i.size, i.bytes)) = some (some z, C.n, bytes)) (hz2 : z.cells.size = C.n) (hn0 : 0 < C.n) (hb0 : bytes ≤ 256)
    {v2 : Value} {ys : List α} (hown : OwnR E C w base S v xs) (hrd : RowOn C w O S v2 ys) (hs : a.eval s = v) (hx : a.eval x = v2)
    (hsz : xs.length + ys.length ≤ 549755813888) (hbase : base ≤ w.heap.size)
    (h : ∀ v' w', OwnR E C w' base S v' (xs ++ ys) → Ext w w' v v' → wpList Try.prog ops Q rest (a.put o.dst v') w') : wpList Try.prog ops Q (o :: rest) a w := by
  obtain ⟨i, hi, hz0, hz1, hby⟩ := info_parts hinfo
  obtain ⟨css, hl, h2, h3, h4⟩ := hown
  have hcl := OwnR.clen hl h3
  obtain ⟨A, c, rfl, hc1, hc2, hcell⟩ := hrd
  -- the cells of the source
  obtain ⟨dss, hdl, hd3, hdr⟩ : ∃ dss : List (List Value), dss.length = ys.length ∧ (∀ (i : Nat) (cs : List Value) (y : α), dss[i]? = some cs → ys[i]? = some y → C.at_ w S cs y) ∧
      ∃ B, Rd w B C.n A ys.length dss.flatten := by
    rcases Nat.eq_zero_or_pos ys.length with h0 | h0
    · have : ys = [] := List.eq_nil_of_length_eq_zero h0
      subst this
      exact ⟨[], rfl, fun i cs y h => by simp at h, 0, by simp [Rd]⟩
    · obtain ⟨ad, rfl, _, hc⟩ := hcell h0
      have hex : ∀ i : Fin ys.length, ∃ cs, C.at_ w S cs (ys[i.1]'i.2) ∧ ∀ (j : Nat) (u : Value), cs[j]? = some u → w.cell? (ad.add (i.1 * C.n + j)) = some u := fun i => hc i.1 _ (List.getElem?_eq_getElem i.2)
      refine ⟨List.ofFn fun i => (hex i).choose, by simp, ?_, ad.block + 1, ?_⟩
      · intro i cs y hcs hy
        obtain ⟨hi', rfl⟩ := List.getElem?_eq_some_iff.1 hy
        rw [List.getElem?_ofFn, dif_pos hi'] at hcs
        injection hcs with hcs
        rw [← hcs]
        exact (hex ⟨i, hi'⟩).choose_spec.1
      · have hcl2 : ∀ cs ∈ (List.ofFn fun i => (hex i).choose), cs.length = C.n := by
          intro cs hcs
          obtain ⟨i, rfl⟩ := List.mem_ofFn.1 hcs
          exact C.len (hex i).choose_spec.1
        refine ⟨by rw [flat_len C.n _ hcl2]; simp, fun _ => ⟨ad, rfl, Nat.lt_succ_self _, fun j u hu => ?_⟩⟩
        have hj : j < ys.length * C.n := by
          have := (List.getElem?_eq_some_iff.1 hu).1
          rw [flat_len C.n _ hcl2] at this
          simpa using this
        have hi' : j / C.n < ys.length := Nat.div_lt_of_lt_mul (by rw [Nat.mul_comm]; exact hj)
        have hj2 : j % C.n < C.n := Nat.mod_lt _ hn0
        have hdm : j / C.n * C.n + j % C.n = j := by rw [Nat.mul_comm]; exact Nat.div_add_mod j C.n
        have := flat_get C.n _ hcl2 (j / C.n) (hex ⟨j / C.n, hi'⟩).choose (j % C.n) (by rw [List.getElem?_ofFn, dif_pos hi']) hj2
        rw [hdm, hu] at this
        have := (hex ⟨j / C.n, hi'⟩).choose_spec.2 (j % C.n) u this.symm
        rwa [hdm] at this
  obtain ⟨B, hrd⟩ := hdr
  have hcl2 := OwnR.clen hdl hd3
  refine wpList_plain hgd fun K hK => ?_
  obtain ⟨v', w', hr, g2, g3, g5⟩ := run_append_rd (P := Try.prog) w base t o.type E i z C.n bytes ht hi hz0 hz1 hby hz2 hn0 v xs.length css.flatten h2 B A ys.length c dss.flatten hrd (by
      intro u hu
      obtain ⟨cs, hcs, hu⟩ := List.mem_flatten.1 hu
      obtain ⟨i, hi', rfl⟩ := List.mem_iff_getElem.1 hcs
      exact C.one (hd3 i _ (ys[i]'(by omega)) (List.getElem?_eq_getElem hi') (List.getElem?_eq_getElem (by omega))) u hu)
    (by unfold maxLen; omega) (by
      calc (xs.length + ys.length) * bytes ≤ 549755813888 * 256 := Nat.mul_le_mul hsz hb0
        _ ≤ _ := by decide) hbase
  unfold Oper.wp execOp
  simp only [ho, resolve, invoke, builtin, Sem.run_bind, Sem.run_pure, Result.andThen_ok, List.map_toArray, List.map_cons, List.map_nil, hs, hx, hr]
  have hSame : ∀ p : Addr, S p.block → w'.cell? p = w.cell? p := fun p hp => World.cell?_of_block (g3.block p.block (h4 _ hp).1 (fun e => (h4 _ hp).2 e.symm))
  refine hK _ _ (h v' w' ⟨css ++ dss, by simp [hl, hdl], by rw [List.length_append, List.flatten_append]; exact g2, ?_, ?_⟩ ⟨g3, ?_⟩)
  · intro j cs x hc hx'
    refine C.keep ?_ hSame
    rcases Nat.lt_or_ge j xs.length with hj | hj
    · rw [List.getElem?_append_left (by omega)] at hc
      rw [List.getElem?_append_left hj] at hx'
      exact h3 j cs x hc hx'
    · rw [List.getElem?_append_right (by omega)] at hc
      rw [List.getElem?_append_right hj, ← hl] at hx'
      exact hd3 _ cs x hc hx'
  · intro k hk
    refine ⟨Nat.lt_of_lt_of_le (h4 k hk).1 g3.size, ?_⟩
    rcases g5 with g5 | g5
    · rw [g5]; exact (h4 k hk).2
    · rw [g5]; intro e; injection e with e; have := (h4 k hk).1; omega
  · rcases g5 with g5 | g5
    · exact .inl g5
    · exact .inr fun k hk => by rw [g5] at hk; injection hk with hk; omega

/-! ### a block that holds one thing (a struct whose address is taken) -/
/-- block g holds just these cells, of type T -/
def BoxAt (T : TypeId) (w : World) (g : Nat) (cs : List Value) : Prop := w.heap[g]? = some (.cells cs.toArray T (0, 0))
theorem BoxAt.new_ (T : TypeId) (w : World) (cs : List Value) : BoxAt T (w.alloc (.cells cs.toArray T)) w.heap.size cs := heap_alloc_new w _
end
section
variable {T : TypeId} {w w' : World} {g : Nat} {cs : List Value}
theorem BoxAt.lt (h : BoxAt T w g cs) : g < w.heap.size := (Array.getElem?_eq_some_iff.1 h).1
theorem BoxAt.alloc (h : BoxAt T w g cs) (o : Obj) : BoxAt T (w.alloc o) g cs := (heap_alloc_old w o h.lt).trans h
theorem BoxAt.below (h : BoxAt T w g cs) {B : Nat} (hg : g < B) (hb : Below B w w') : BoxAt T w' g cs := (hb.block g hg).trans h
theorem BoxAt.grown {row : Option Nat} (h : BoxAt T w g cs) (hg : w.grownBy w' row) (hne : row ≠ some g) : BoxAt T w' g cs := (hg.block g h.lt (fun e => hne e.symm)).trans h
theorem BoxAt.cell (h : BoxAt T w g cs) (j : Nat) (u : Value) (hu : cs[j]? = some u) : w.cell? { block := g, off := j } = some u := by
  unfold BoxAt at h; simp [World.cell?, h, hu]
theorem BoxAt.frozen (h : BoxAt T w g cs) (j : Nat) : w.frozen? { block := g, off := j } = false := by
  unfold BoxAt at h; simp [World.frozen?, h]
theorem BoxAt.put (h : BoxAt T w g cs) (j : Nat) (u : Value) : BoxAt T (w.setCell { block := g, off := j } u) g (cs.set j u) := by
  unfold BoxAt at h ⊢
  simp [World.setCell, h, Array.getElem?_modify]
theorem BoxAt.other (h : BoxAt T w g cs) (p : Addr) (u : Value) (hne : p.block ≠ g) : BoxAt T (w.setCell p u) g cs := (Below.heap_setCell w p u g (fun e => hne e.symm)).trans h
end
theorem gset (w : World) (p : Addr) (u : Value) : w.grownBy (w.setCell p u) (some p.block) :=
  ⟨rfl, rfl, rfl, by simp [World.setCell], fun k _ hne => Below.heap_setCell w p u k (fun e => hne (by rw [e]))⟩
theorem grefl (w : World) (row : Option Nat) : w.grownBy w row := World.grownBy.refl w row
theorem gtrans {a b c : World} {row : Option Nat} (h : a.grownBy b row) (k : b.grownBy c row) : a.grownBy c row :=
  ⟨k.os.trans h.os, k.tape.trans h.tape, k.output.trans h.output, Nat.le_trans h.size k.size, fun i hi hne => (k.block i (Nat.lt_of_lt_of_le hi h.size) hne).trans (h.block i hi hne)⟩
theorem gbelow {a b : World} (h : Below a.heap.size a b) (row : Option Nat) : a.grownBy b row := ⟨h.os, h.tape, h.output, h.size, fun i hi _ => h.block i hi⟩
/-- new blocks, of which one was written, behind other new blocks -/
theorem gnew {a b c : World} {row row' : Option Nat} (h : a.grownBy b row) (k : b.grownBy c row') (hr : ∀ i, row' = some i → a.heap.size ≤ i ∨ row = some i) : a.grownBy c row :=
  ⟨k.os.trans h.os, k.tape.trans h.tape, k.output.trans h.output, Nat.le_trans h.size k.size, fun i hi hne => (k.block i (Nat.lt_of_lt_of_le hi h.size) (fun e => by
    rcases hr i e.symm with h | h
    · omega
    · exact hne h.symm)).trans (h.block i hi hne)⟩
theorem gofBelow {a b : World} {row : Option Nat} (h : a.grownBy b row) {B : Nat} (hB : B ≤ a.heap.size) (hr : ∀ k, row = some k → B ≤ k) : Below B a b := (Below.refl B a).grown h hB hr

/-! ### whole things loaded and stored -/
theorem isAgg_run {T : TypeId} {d : TypeDesc} (hu : Try.prog.underlying T = some d) (hd : (match d with | .struct _ | .array _ _ => true | _ => false) = true) (w : World) : (isAgg T).run Try.prog w = .ok true w := by
  unfold isAgg
  rw [Sem.run_bind, run_underlying hu w]
  cases d <;> simp_all
theorem run_loadVar_cells (w : World) (a : Addr) (T : TypeId) (cs : List Value) (h : ∀ (j : Nat) (v : Value), cs[j]? = some v → w.cell? (a.add j) = some v) {d : TypeDesc} (hu : Try.prog.underlying T = some d)
    (hd : (match d with | .struct _ | .array _ _ => true | _ => false) = true) (hi : (Try.prog.info? T).map (·.size) = some cs.length) : (loadVar T a).run Try.prog w = .ok (.agg cs.toArray) w := by
  have hl := run_loadCells_list (P := Try.prog) w a cs h
  cases hq : Try.prog.info? T with
  | none => simp [hq] at hi
  | some i =>
    have hs : i.size = cs.length := by simpa [hq] using hi
    simp [loadVar, Sem.run_bind, isAgg_run hu hd w, sizeOf, typeInfo, hq, hs, hl]
/-- a whole thing is loaded out of cells that are known -/
theorem wpList_load_agg {ops : Array Oper} {rest : List Oper} {o : Oper} {a : Act} {w : World} {Q : Exit → Act → World → Prop} (hgd : o.guard = none) (T : TypeId) (x : Operand) (ho : o.op = .load T x)
    (ad : Addr) (hx : a.eval x = .pointer (some ad)) (cs : List Value) (hc : ∀ (j : Nat) (v : Value), cs[j]? = some v → w.cell? (ad.add j) = some v) {d : TypeDesc} (hu : Try.prog.underlying T = some d)
    (hd : (match d with | .struct _ | .array _ _ => true | _ => false) = true) (hi : (Try.prog.info? T).map (·.size) = some cs.length)
    (h : wpList Try.prog ops Q rest (a.put o.dst (.agg cs.toArray)) w) : wpList Try.prog ops Q (o :: rest) a w :=
  wpList_plain hgd fun K hK => by
    unfold Oper.wp execOp
    simp only [ho, hx, Instr.loadAt, Instr.sureAddr, Sem.run_bind, Sem.run_pure, Result.andThen_ok, run_loadVar_cells w ad T cs hc hu hd hi]
    exact hK _ _ h
theorem BoxAt.cells {T : TypeId} {w : World} {g : Nat} {cs : List Value} (h : BoxAt T w g cs) : ∀ (j : Nat) (v : Value), cs[j]? = some v → w.cell? ((⟨g, 0, none⟩ : Addr).add j) = some v := by
  intro j v hv
  have hadd : (⟨g, 0, none⟩ : Addr).add j = ⟨g, j, none⟩ := by unfold Addr.add; split <;> simp_all
  rw [hadd]
  exact h.cell j v hv
theorem BoxAt.setRow {T : TypeId} {w : World} {g : Nat} {cs : List Value} (h : BoxAt T w g cs) (ds : List Value) : BoxAt T (w.setRow g ds.toArray) g ds := setRow_heap _ _ _ _ _ _ h
theorem wpList_store_box {ops : Array Oper} {rest : List Oper} {o : Oper} {a : Act} {w : World} {Q : Exit → Act → World → Prop} (hgd : o.guard = none) (T T' : TypeId) (x y : Operand) (ho : o.op = .store T x y)
    (g : Nat) (cs ds : List Value) (hx : a.eval x = .pointer (some ⟨g, 0, none⟩)) (hy : a.eval y = .agg ds.toArray) (hs : BoxAt T' w g cs) (hl : ds.length = cs.length) (h1 : ∀ u ∈ ds, u.oneCell' = true)
    (hi : (Try.prog.info? T).map (·.size) = some ds.length)
    (h : BoxAt T' (w.setRow g ds.toArray) g ds → wpList Try.prog ops Q rest (a.put o.dst undef) (w.setRow g ds.toArray)) : wpList Try.prog ops Q (o :: rest) a w :=
  wpList_store_row hgd T x y ho g ds.toArray hx hy T' cs.toArray hs (by simpa using hi) (by simpa using hl) (by simpa using h1) (h (hs.setRow ds))
theorem By.empty {w : World} {B : Nat} (A : Option Addr) (c : Nat) (hc : c ≤ maxLen) : By w B (.slice A 0 c) [] := ⟨A, c, rfl, Nat.zero_le _, hc, by simp [b8s], fun h => by simp at h⟩
/-- results: a slot, then a struct that lies in memory -/
theorem results_tc {fn : Func} {p q : Tmp} {T : TypeId} (h : fn.results = #[.tmp q, .cell p T]) (tmps : Array Value) (w : World) (g : Nat) (cs : List Value)
    (hp : tmps.getD p undef = .pointer (some ⟨g, 0, none⟩)) (hs : ∀ (j : Nat) (v : Value), cs[j]? = some v → w.cell? ((⟨g, 0, none⟩ : Addr).add j) = some v) {d : TypeDesc} (hu : Try.prog.underlying T = some d)
    (hd : (match d with | .struct _ | .array _ _ => true | _ => false) = true) (hi : (Try.prog.info? T).map (·.size) = some cs.length) :
    (results fn tmps).run Try.prog w = .ok (.tuple #[tmps.getD q undef, .agg cs.toArray]) w := by
  have hp' : tmps[p]?.getD undef = .pointer (some ⟨g, 0, none⟩) := by simpa using hp
  have hr := run_loadVar_cells w ⟨g, 0, none⟩ T cs hs hu hd hi
  simp [results, h, hp', asAddr, hr]
/-- a result: a struct that lies in memory -/
theorem results_c {fn : Func} {p : Tmp} {T : TypeId} (h : fn.results = #[.cell p T]) (tmps : Array Value) (w : World) (g : Nat) (cs : List Value)
    (hp : tmps.getD p undef = .pointer (some ⟨g, 0, none⟩)) (hs : ∀ (j : Nat) (v : Value), cs[j]? = some v → w.cell? ((⟨g, 0, none⟩ : Addr).add j) = some v) {d : TypeDesc} (hu : Try.prog.underlying T = some d)
    (hd : (match d with | .struct _ | .array _ _ => true | _ => false) = true) (hi : (Try.prog.info? T).map (·.size) = some cs.length) :
    (results fn tmps).run Try.prog w = .ok (.agg cs.toArray) w := by
  have hp' : tmps[p]?.getD undef = .pointer (some ⟨g, 0, none⟩) := by simpa using hp
  have hr := run_loadVar_cells w ⟨g, 0, none⟩ T cs hs hu hd hi
  simp [results, h, hp', asAddr, hr]
theorem gsetRow' (w : World) (g : Nat) (cs : Array Value) : w.grownBy (w.setRow g cs) (some g) :=
  ⟨rfl, rfl, rfl, by simp, fun i _ hne => setRow_other w g i cs (fun e => hne (by rw [e]))⟩
/-- append(s, b), one byte -/
theorem wpList_app1 {ops : Array Oper} {rest : List Oper} {o : Oper} {a : Act} {w : World} {Q : Exit → Act → World → Prop} (hgd : o.guard = none) (s x : Operand)
    (ho : o.op = .call { callee := .builtin .append, args := #[s, x], argTypes := #[30, 30] })
    {base : Nat} {v u : Value} {l : List UInt8} {b : UInt8} (hown : Ow w base v l) (hu : u = b8 b) (hs : a.eval s = v) (hx : a.eval x = .slice (some ⟨w.heap.size, 0, none⟩) 1 1)
    (hsz : l.length ≤ 140737488355327) (hbase : base ≤ w.heap.size)
    (h : ∀ v' w', Ow w' base v' (l ++ [b]) → Ext w w' v v' → wpList Try.prog ops Q rest (a.put o.dst v') w') : wpList Try.prog ops Q (o :: rest) a (w.alloc (.cells #[u] 5)) := by
  subst hu
  exact wpList_app8 hgd s x ho (hown.below_ (balloc w _)) (By.new_ w [b] (by simp [maxLen])) hs hx (by simp; omega) (by simp; omega) fun v' w' h1 h2 => h v' w' h1 (h2.after (balloc w _) v rfl)
/-- append(s, y), one thing -/
theorem wpList_app1R {α : Type} {E : TypeId} {C : Cdc α} {S : Nat → Prop} {ops : Array Oper} {rest : List Oper} {o : Oper} {a : Act} {w : World} {Q : Exit → Act → World → Prop} (hgd : o.guard = none) (s x : Operand) (t : TypeId)
    (ho : o.op = .call { callee := .builtin .append, args := #[s, x], argTypes := #[t, t] })
    (ht : Try.prog.underlying t = some (.slice E)) {z : Value} {bytes : Nat} (hinfo : (Try.prog.info? E).map (fun i => (i.zero, i.size, i.bytes)) = some (some z, C.n, bytes)) (hz2 : z.cells.size = C.n) (hn0 : 0 < C.n) (hb0 : bytes ≤ 256)
    {base : Nat} {v : Value} {xs : List α} {y : α} (cs : List Value) (hown : OwnR E C w base S v xs) (hy : C.at_ w S cs y) (hs : a.eval s = v) (hx : a.eval x = .slice (some ⟨w.heap.size, 0, none⟩) 1 1)
    (hsz : xs.length ≤ 549755813887) (hbase : base ≤ w.heap.size)
    (h : ∀ v' w', OwnR E C w' base S v' (xs ++ [y]) → Ext w w' v v' → wpList Try.prog ops Q rest (a.put o.dst v') w') : wpList Try.prog ops Q (o :: rest) a (w.alloc (.cells cs.toArray E)) := by
  have hS : ∀ k, S k → k < w.heap.size := by obtain ⟨_, _, _, _, h4⟩ := hown; exact fun k hk => (h4 k hk).1
  have hrow : RowOn C (w.alloc (.cells cs.toArray E)) (fun k => k < w.heap.size + 1) S (.slice (some ⟨w.heap.size, 0, none⟩) 1 1) [y] := by
    refine ⟨_, 1, rfl, Nat.le_refl _, by simp [maxLen], fun _ => ⟨_, rfl, Nat.lt_succ_self _, fun i y' hi => ?_⟩⟩
    match i, hi with
    | 0, hi =>
      injection hi with hi
      subst hi
      refine ⟨cs, C.keep hy fun p hp => World.cell?_alloc_lt w _ p (hS _ hp), fun j u hu => ?_⟩
      rw [Nat.zero_mul, Nat.zero_add]
      exact World.news_of_block (heap_alloc_new w _) j u (by simpa using hu)
    | i + 1, hi => simp at hi
  exact wpList_appR hgd s x t ho ht hinfo hz2 hn0 hb0 (hown.alloc _) hrow hs hx (by simp; omega) (by simp; omega) fun v' w' h1 h2 => h v' w' h1 (h2.after (balloc w _) v rfl)
theorem Ow.newAt (w : World) (l : List UInt8) (g n base : Nat) (hg : w.heap.size = g) (hn : l.length = n) (hm : n ≤ maxLen) (hb : base ≤ g) : Ow (w.alloc (.cells (b8s l).toArray 5)) base (.slice (some ⟨g, 0, none⟩) n n) l := by
  subst hg; subst hn
  exact (Ow.new_ w l hm).mono hb
/-- two rows of the call's own that aren't one -/
def Apart (u v : Value) : Prop := ∀ q, u.ownBlock = some q → v.ownBlock ≠ some q
theorem Apart.symm {u v : Value} (h : Apart u v) : Apart v u := fun q hv hu => h q hu hv
theorem Apart.ne {u v : Value} (h : Apart u v) : u.ownBlock = none ∨ u.ownBlock ≠ v.ownBlock := by
  cases hu : u.ownBlock with
  | none => exact .inl rfl
  | some q => exact .inr fun e => h q hu e.symm
/-- an append onto one keeps it apart from another one that lies there -/
theorem Apart.ext {w w' : World} {u v v' : Value} (h : Apart u v) (hx : Ext w w' v v') (hu : ∀ q, u.ownBlock = some q → q < w.heap.size) : Apart u v' := by
  intro q hq e
  rcases hx.at_ with h1 | h1
  · exact h q hq (by rw [← h1]; exact e)
  · have := h1 q e; have := hu q hq; omega
theorem Apart.new_ {w : World} {u v : Value} (hu : ∀ q, u.ownBlock = some q → q < w.heap.size) (hv : ∀ q, v.ownBlock = some q → w.heap.size ≤ q) : Apart u v :=
  fun q hq e => by have := hu q hq; have := hv q e; omega

/-! ### what the walk meets as bytes -/
/-- a byte in one cell -/
def c8 : Cdc UInt8 := Cdc.flat 1 (fun b => [b8 b]) (fun _ => True) (fun _ => rfl) (fun x u hu => by simp at hu; subst hu; rfl)
def c32 : Cdc UInt32 := Cdc.flat 1 (fun b => [.int .u32 (b.toNat : Int)]) (fun _ => True) (fun _ => rfl) (fun x u hu => by simp at hu; subst hu; rfl)
def c64 : Cdc UInt64 := Cdc.flat 1 (fun b => [.int .u64 (b.toNat : Int)]) (fun _ => True) (fun _ => rfl) (fun x u hu => by simp at hu; subst hu; rfl)
def cInt : Cdc Int := Cdc.flat 1 (fun b => [.int .i64 b]) (fun b => -9223372036854775808 ≤ b ∧ b ≤ 9223372036854775807) (fun _ => rfl) (fun x u hu => by simp at hu; subst hu; rfl)
def cBool : Cdc Bool := Cdc.flat 1 (fun b => [.bool b]) (fun _ => True) (fun _ => rfl) (fun x u hu => by simp at hu; subst hu; rfl)
def cStr : Cdc ByteArray := Cdc.flat 1 (fun b => [.string b]) (fun b => b.size ≤ maxLen) (fun _ => rfl) (fun x u hu => by simp at hu; subst hu; rfl)

theorem RowOn.toBy {w : World} {B : Nat} {v : Value} {l : List UInt8} {S : Nat → Prop} (h : RowOn c8 w (fun k => k < B) S v l) : By w B v l := by
  obtain ⟨A, c, h1, h2, h3, h4⟩ := h
  refine ⟨A, c, h1, h2, h3, by simp [b8s_length], fun hn => ?_⟩
  obtain ⟨ad, e, hb, hc⟩ := h4 hn
  refine ⟨ad, e, hb, fun j u hu => ?_⟩
  obtain ⟨hj, he⟩ := List.getElem?_eq_some_iff.1 hu
  rw [b8s_length] at hj
  obtain ⟨cs, ⟨rfl, _⟩, hcs⟩ := hc j _ (List.getElem?_eq_getElem hj)
  have := hcs 0 _ rfl
  simp only [c8, Cdc.flat, Nat.mul_one, Nat.add_zero] at this
  rw [this, ← he]
  simp [b8s]
theorem By.toRow {w : World} {B : Nat} {v : Value} {l : List UInt8} {S : Nat → Prop} (h : By w B v l) : RowOn c8 w (fun k => k < B) S v l := by
  obtain ⟨A, c, h1, h2, h3, h4⟩ := h
  refine ⟨A, c, h1, h2, h3, fun hn => ?_⟩
  obtain ⟨ad, e, hb, hc⟩ := h4.2 hn
  refine ⟨ad, e, hb, fun i x hx => ⟨[b8 x], ⟨rfl, trivial⟩, fun j u hu => ?_⟩⟩
  match j, hu with
  | 0, hu =>
    injection hu with hu
    subst hu
    simp only [c8, Cdc.flat, Nat.mul_one, Nat.add_zero]
    refine hc i _ ?_
    simp [b8s, hx]
  | j + 1, hu => simp at hu
theorem flatten_b8 : ∀ l : List UInt8, (l.map fun b => [b8 b]).flatten = b8s l
  | [] => rfl
  | b :: l => by rw [List.map_cons, List.flatten_cons, flatten_b8 l]; rfl
theorem OwnF.toOw {w : World} {base : Nat} {v : Value} {l : List UInt8} (h : OwnF 5 c8 w base v l) : Ow w base v l := by
  obtain ⟨css, hl, h2, h3, _⟩ := h
  have : css.flatten = b8s l := by
    rw [← flatten_b8]
    congr 1
    refine List.ext_getElem? fun i => ?_
    rcases Nat.lt_or_ge i l.length with hi | hi
    · have := h3 i (css[i]'(by omega)) (l[i]'hi) (List.getElem?_eq_getElem (by omega)) (List.getElem?_eq_getElem hi)
      simp [List.getElem?_eq_getElem (show i < css.length by omega), List.getElem?_eq_getElem hi, this.1]
    · rw [List.getElem?_eq_none (by omega), List.getElem?_eq_none (by simpa using hi)]
  unfold Ow
  rw [← this]
  exact h2
theorem Ow.toOwn {w : World} {base : Nat} {v : Value} {l : List UInt8} (h : Ow w base v l) : OwnF 5 c8 w base v l := by
  refine ⟨l.map fun b => [b8 b], by simp, by rw [flatten_b8]; exact h, fun i cs x hc hx => ?_, fun _ hk => hk.elim⟩
  rw [List.getElem?_map, hx] at hc
  injection hc with hc
  exact ⟨hc.symm, trivial⟩
end Go.Proofs.Ytpoicbhbkabllaa

namespace Go.Proofs.Ytpoicbhbkabllaa
set_option linter.unusedSimpArgs false
set_option linter.unusedVariables false
set_option maxRecDepth 100000
open Go.ChangeShapes Go.WideShapes Go.ChangeAt Go.RowKit

/-- these cells read as data of type T -/
def InC (w : World) (T : TypeId) (cs : List Value) : Prop :=
  ∃ (H : Type) (enc : TypeId × Value → H) (n : Nat) (y : DataW H × List MemPlace), DataW.trod enc Try.prog w 0 (fun _ => true) true n T cs = some y

section
variable {w : World} {T e : TypeId} {cs : List Value}
theorem InC.of {H : Type} {enc : TypeId × Value → H} {v : Value} {d : DataW H} {p : List MemPlace} (h : DataW.Trod enc Try.prog w 0 (fun _ => true) true T v d p) : InC w T v.cells.toList := by
  obtain ⟨n, h⟩ := h
  exact ⟨_, enc, n, _, h⟩
theorem InC.int {k : IntKind} (ht : Try.prog.underlying T = some (.int k)) (h : InC w T cs) : ∃ n, cs = [.int k n] ∧ (Lit.int k n).wf = true := by
  obtain ⟨H, enc, m, y, h⟩ := h
  obtain ⟨n, h1, _, h3⟩ := DataW.trod_int ht h
  exact ⟨n, h1, h3⟩
theorem InC.bool (ht : Try.prog.underlying T = some .bool) (h : InC w T cs) : ∃ b, cs = [.bool b] := by
  obtain ⟨H, enc, m, y, h⟩ := h
  obtain ⟨b, h1, _⟩ := DataW.trod_bool ht h
  exact ⟨b, h1⟩
theorem InC.string (ht : Try.prog.underlying T = some .string) (h : InC w T cs) : ∃ s : ByteArray, cs = [.string s] ∧ s.size ≤ maxLen := by
  obtain ⟨H, enc, m, y, h⟩ := h
  obtain ⟨s, h1, _, h3⟩ := DataW.trod_string ht h
  exact ⟨s, h1, h3⟩
theorem InC.struct {fs : Array Field} (ht : Try.prog.underlying T = some (.struct fs)) (h : InC w T cs) :
    cs.length = Try.prog.cellsOf T ∧ ∀ (j : Nat) (f : Field), fs[j]? = some f → InC w f.type ((cs.drop f.offset).take (Try.prog.cellsOf f.type)) := by
  obtain ⟨H, enc, m, y, h⟩ := h
  obtain ⟨xs, n, _, _, hl, hlen, hf⟩ := DataW.trod_struct ht h
  refine ⟨hl, fun j f hj => ?_⟩
  have h1 := hf j f hj
  have hj' : j < fs.size := (Array.getElem?_eq_some_iff.1 hj).1
  exact ⟨H, enc, n, xs[j]'(by omega), by rw [h1]; exact List.getElem?_eq_getElem (by omega)⟩
theorem InC.slice (ht : Try.prog.underlying T = some (.slice e)) (h : InC w T cs) :
    cs = [.slice none 0 0] ∨ ∃ (a : Addr) (len cap : Nat), cs = [.slice (some a) len cap] ∧ len ≤ cap ∧ cap ≤ maxLen ∧
      ∀ i, i < len → ∃ cs', cs'.length = Try.prog.cellsOf e ∧ (∀ j, j < Try.prog.cellsOf e → w.cell? (a.add (i * Try.prog.cellsOf e + j)) = cs'[j]?) ∧ InC w e cs' := by
  obtain ⟨H, enc, m, y, h⟩ := h
  rcases DataW.trod_slice ht h with ⟨h0, _⟩ | ⟨a, len, cap, elems, rest, n, _, rfl, _, _, hl, hm, hlen, hel, _⟩
  · exact .inl h0
  · refine .inr ⟨a, len, cap, rfl, hl, hm, fun i hi => ?_⟩
    have h1 := hel i hi
    rw [List.getElem?_eq_getElem (by omega), Option.bind_eq_some_iff] at h1
    obtain ⟨cs', h2, h3⟩ := h1
    obtain ⟨_, h4, h5⟩ := World.cells?_some h2
    refine ⟨cs', h4, fun j hj => ?_, H, enc, n, _, h3⟩
    rw [← add_add]
    exact h5 j hj
/-- a slice that came in reads as a list -/
theorem InC.row {α : Type} {C : Cdc α} (ht : Try.prog.underlying T = some (.slice e)) (hn : Try.prog.cellsOf e = C.n) (hn0 : 0 < C.n)
    (hel : ∀ cs, InC w e cs → ∃ x, C.at_ w (fun k => k < w.heap.size) cs x) (h : InC w T cs) :
    ∃ v xs, cs = [v] ∧ RowOn C w (fun k => k < w.heap.size) (fun k => k < w.heap.size) v xs := by
  rcases h.slice ht with rfl | ⟨a, len, cap, rfl, hl, hm, hi⟩
  · exact ⟨_, [], rfl, RowOn.nil_⟩
  · rw [hn] at hi
    have hex : ∀ i : Fin len, ∃ (cs : List Value) (x : α), C.at_ w (fun k => k < w.heap.size) cs x ∧ ∀ (j : Nat) (u : Value), cs[j]? = some u → w.cell? (a.add (i.1 * C.n + j)) = some u := by
      intro i
      obtain ⟨cs, h1, h2, h3⟩ := hi i.1 i.2
      obtain ⟨x, hx⟩ := hel cs h3
      refine ⟨cs, x, hx, fun j u hu => ?_⟩
      rw [h2 j (by rw [← h1]; exact (List.getElem?_eq_some_iff.1 hu).1), hu]
    refine ⟨_, List.ofFn fun i => (hex i).choose_spec.choose, rfl, some a, cap, by simp, by simpa using hl, hm, fun hp => ⟨a, rfl, ?_, ?_⟩⟩
    · have hp' : 0 < len := by simpa using hp
      obtain ⟨cs, h1, h2, h3⟩ := hi 0 hp'
      have h4 := h2 0 hn0
      rw [List.getElem?_eq_getElem (by omega)] at h4
      have := World.block_lt_of_cell? w _ h4
      rwa [add_block] at this
    · intro i x hx
      rw [List.getElem?_ofFn] at hx
      split at hx
      · rename_i hi'
        injection hx with hx
        have := (hex ⟨i, hi'⟩).choose_spec.choose_spec
        rw [hx] at this
        exact ⟨_, this.1, this.2⟩
      · cases hx
/-- a struct of one-cell fields: field by field -/
theorem InC.fields {fs : Array Field} (ht : Try.prog.underlying T = some (.struct fs)) (hone : Go.Deep.oneCellFields Try.prog fs = true) (hC : Try.prog.cellsOf T = fs.size) (h : InC w T cs) :
    cs.length = fs.size ∧ ∀ (j : Nat) (f : Field), fs[j]? = some f → ∃ u, cs[j]? = some u ∧ InC w f.type [u] := by
  obtain ⟨hl, hf⟩ := h.struct ht
  rw [hC] at hl
  refine ⟨hl, fun j f hj => ?_⟩
  obtain ⟨ho, hk⟩ := Go.Deep.hone_of hone j f hj
  have h1 := hf j f hj
  have hj' : j < fs.size := (Array.getElem?_eq_some_iff.1 hj).1
  rw [ho, hk] at h1
  refine ⟨cs[j]'(by omega), List.getElem?_eq_getElem (by omega), ?_⟩
  have : (cs.drop j).take 1 = [cs[j]'(by omega)] := by
    rw [List.drop_eq_getElem_cons (by omega)]
    rfl
  rwa [this] at h1
theorem InC.agg {fs : Array Field} {v : Value} {base : Nat} (ht : Try.prog.underlying T = some (.struct fs)) (hv : Value.okWide Try.prog w .any base T v) (h : InC w T v.cells.toList) :
    ∃ cs : List Value, v = .agg cs.toArray ∧ InC w T cs := by
  obtain ⟨cs, rfl, _⟩ := okWide_struct ht hv
  exact ⟨cs.toList, by simp, by simpa [Value.cells] using h⟩
end

section
variable {w : World} {cs : List Value} {S : Nat → Prop} {T : TypeId}
theorem InC.u8 (ht : Try.prog.underlying T = some (.int .u8)) (h : InC w T cs) : ∃ x, c8.at_ w S cs x := by
  obtain ⟨n, rfl, hw⟩ := h.int ht
  obtain ⟨b, rfl⟩ := u8_of_wf hw
  exact ⟨b, rfl, trivial⟩
theorem InC.u32 (ht : Try.prog.underlying T = some (.int .u32)) (h : InC w T cs) : ∃ x, c32.at_ w S cs x := by
  obtain ⟨n, rfl, hw⟩ := h.int ht
  obtain ⟨b, rfl⟩ := u32_of_wf hw
  exact ⟨b, rfl, trivial⟩
theorem InC.u64 (ht : Try.prog.underlying T = some (.int .u64)) (h : InC w T cs) : ∃ x, c64.at_ w S cs x := by
  obtain ⟨n, rfl, hw⟩ := h.int ht
  obtain ⟨b, rfl⟩ := u64_of_wf hw
  exact ⟨b, rfl, trivial⟩
theorem InC.i64 (ht : Try.prog.underlying T = some (.int .i64)) (h : InC w T cs) : ∃ x, cInt.at_ w S cs x := by
  obtain ⟨n, rfl, hw⟩ := h.int ht
  exact ⟨n, rfl, i64_of_wf hw⟩
theorem InC.cbool (ht : Try.prog.underlying T = some .bool) (h : InC w T cs) : ∃ x, cBool.at_ w S cs x := by
  obtain ⟨b, rfl⟩ := h.bool ht
  exact ⟨b, rfl, trivial⟩
theorem InC.cstr (ht : Try.prog.underlying T = some .string) (h : InC w T cs) : ∃ x, cStr.at_ w S cs x := by
  obtain ⟨s, rfl, hs⟩ := h.string ht
  exact ⟨s, rfl, hs⟩
/-- a slice of bytes that came in -/
theorem InC.bytes {v : Value} (h : InC w 30 [v]) : ∃ l, By w w.heap.size v l := by
  obtain ⟨v', xs, e, hr⟩ := h.row (C := c8) Try.underlying30 (by kernel_rfl) (by decide) fun cs hc => hc.u8 Try.underlying5
  injection e with e
  subst e
  exact ⟨xs, hr.toBy⟩
theorem InC.bytes' (h : InC w 30 cs) : ∃ l v, cs = [v] ∧ By w w.heap.size v l := by
  obtain ⟨v', xs, e, hr⟩ := h.row (C := c8) Try.underlying30 (by kernel_rfl) (by decide) fun cs hc => hc.u8 Try.underlying5
  exact ⟨xs, v', e, hr.toBy⟩
end
end Go.Proofs.Ytpoicbhbkabllaa

namespace Go.Proofs.Ytpoicbhbkabllaa
set_option linter.unusedSimpArgs false
set_option linter.unusedVariables false
open Go.RowKit

def puts : List Value → Nat → List Value → List Value
  | cs, _, [] => cs
  | cs, o, v :: r => puts (cs.set o v) (o + 1) r
theorem puts_len : ∀ (vs : List Value) (cs : List Value) (o : Nat), (puts cs o vs).length = cs.length
  | [], _, _ => rfl
  | v :: r, cs, o => by rw [puts, puts_len r, List.length_set]
theorem puts_get : ∀ (vs : List Value) (cs : List Value) (o k : Nat), o + vs.length ≤ cs.length → (puts cs o vs)[k]? = if o ≤ k ∧ k < o + vs.length then vs[k - o]? else cs[k]?
  | [], cs, o, k, h => by
    rw [puts, if_neg]
    intro hh
    simp only [List.length_nil] at hh
    omega
  | v :: r, cs, o, k, h => by
    simp only [List.length_cons] at h ⊢
    rw [puts, puts_get r _ _ k (by rw [List.length_set]; omega)]
    by_cases h1 : o = k
    · subst h1
      rw [if_neg (by omega), if_pos (by omega), List.getElem?_set, if_pos rfl, if_pos (by omega), Nat.sub_self]
      first | done | rfl
    · by_cases h2 : o + 1 ≤ k ∧ k < o + 1 + r.length
      · rw [if_pos h2, if_pos (by omega), show k - o = (k - (o + 1)) + 1 from by omega, List.getElem?_cons_succ]
      · rw [if_neg h2, if_neg (by omega), List.getElem?_set, if_neg h1]
theorem BoxAt.setCells_ {T : TypeId} {b : Nat} : ∀ (vs : List Value) {w : World} {cs : List Value} (o : Nat), BoxAt T w b cs → BoxAt T (w.setCells b o vs) b (puts cs o vs)
  | [], _, _, _, h => h
  | v :: r, w, cs, o, h => BoxAt.setCells_ r (o + 1) (h.put o v)
theorem gsetCells (b : Nat) : ∀ (vs : List Value) (w : World) (o : Nat), w.grownBy (w.setCells b o vs) (some b)
  | [], w, _ => grefl w _
  | v :: r, w, o => gtrans (gset w ⟨b, o, none⟩ v) (gsetCells b r _ (o + 1))
theorem gdrew_ {w w' : World} {row : Option Nat} (h : w.grownBy w' row) : w.grownBy w'.drew row := gtrans h (gbelow ((Below.refl w'.heap.size w').drew) row)
/-- what a call has changed: blocks of P, and new ones -/
structure Chg (P : Nat → Prop) (w w' : World) : Prop where
  os : w'.os = w.os
  tape : w'.tape = w.tape
  output : w'.output = w.output
  size : w.heap.size ≤ w'.heap.size
  block : ∀ k, k < w.heap.size → ¬ P k → w'.heap[k]? = w.heap[k]?
theorem Chg.refl (P : Nat → Prop) (w : World) : Chg P w w := ⟨rfl, rfl, rfl, Nat.le_refl _, fun _ _ _ => rfl⟩
theorem Chg.trans {P : Nat → Prop} {a b c : World} (h : Chg P a b) (k : Chg P b c) : Chg P a c :=
  ⟨k.os.trans h.os, k.tape.trans h.tape, k.output.trans h.output, Nat.le_trans h.size k.size, fun i hi hn => (k.block i (Nat.lt_of_lt_of_le hi h.size) hn).trans (h.block i hi hn)⟩
theorem Chg.more {P Q : Nat → Prop} {a b : World} (h : Chg P a b) (hq : ∀ k, k < a.heap.size → P k → Q k) : Chg Q a b := ⟨h.os, h.tape, h.output, h.size, fun k hk hn => h.block k hk fun hp => hn (hq k hk hp)⟩
theorem Chg.ofGrown {P : Nat → Prop} {a b : World} {row : Option Nat} (h : a.grownBy b row) (hr : ∀ k, row = some k → P k) : Chg P a b := ⟨h.os, h.tape, h.output, h.size, fun k hk hn => h.block k hk fun e => hn (hr k e.symm)⟩
theorem Chg.ofBelow {P : Nat → Prop} {a b : World} (h : Below a.heap.size a b) : Chg P a b := ⟨h.os, h.tape, h.output, h.size, fun k hk _ => h.block k hk⟩
theorem Chg.set {P : Nat → Prop} (w : World) (p : Addr) (u : Value) (h : P p.block) : Chg P w (w.setCell p u) := Chg.ofGrown (gset w p u) fun k e => by injection e with e; rw [← e]; exact h
theorem Chg.drew_ {P : Nat → Prop} {a b : World} (h : Chg P a b) : Chg P a b.drew := ⟨h.os, h.tape, h.output, h.size, h.block⟩
theorem Chg.alloc_ {P : Nat → Prop} {a b : World} (h : Chg P a b) (o : Obj) : Chg P a (b.alloc o) := h.trans (Chg.ofBelow (balloc b o))
/-- changes of what was new are none -/
theorem Chg.past {P Q : Nat → Prop} {a b c : World} (h : Chg P a b) (k : Chg Q b c) (hq : ∀ i, Q i → a.heap.size ≤ i ∨ P i) : Chg P a c :=
  ⟨k.os.trans h.os, k.tape.trans h.tape, k.output.trans h.output, Nat.le_trans h.size k.size, fun i hi hn => (k.block i (Nat.lt_of_lt_of_le hi h.size) (fun hx => by
    rcases hq i hx with h1 | h1
    · omega
    · exact hn h1)).trans (h.block i hi hn)⟩
theorem Chg.below {P : Nat → Prop} {a b : World} {B : Nat} (h : Chg P a b) (hB : B ≤ a.heap.size) (hp : ∀ k, P k → B ≤ k) : Below B a b := by
  have h1 := h.block
  refine (Below.refl B a).trans ⟨h.os, h.tape, h.output, h.size, fun k hk => h1 k (by omega) fun hx => by have := hp k hx; omega⟩
theorem BoxAt.chg {P : Nat → Prop} {T : TypeId} {w w' : World} {g : Nat} {cs : List Value} (h : BoxAt T w g cs) (hc : Chg P w w') (hn : ¬ P g) : BoxAt T w' g cs := (hc.block g h.lt hn).trans h
theorem Chg.drewN_ {P : Nat → Prop} {a b : World} (h : Chg P a b) (n : Nat) : Chg P a (b.drewN n) := ⟨h.os, h.tape, h.output, h.size, h.block⟩
end Go.Proofs.Ytpoicbhbkabllaa

namespace Go.Proofs.Ytpoicbhbkabllaa
set_option linter.unusedSimpArgs false
set_option linter.unusedVariables false
open Go.RowKit

abbrev Blk := {l : List UInt8 // l.length = 128}
def flatB (bl : List Blk) : List Value := (bl.map fun b => b8s b.1).flatten
theorem blk_len (b : Blk) : (b8s b.1).length = 128 := by simp [b8s, b.2]
theorem flatB_len (bl : List Blk) : (flatB bl).length = bl.length * 128 := by
  unfold flatB
  rw [flat_len 128 _ (by intro cs hcs; obtain ⟨b, _, rfl⟩ := List.mem_map.1 hcs; exact blk_len b)]
  simp
theorem flatB_at (bl : List Blk) (i j : Nat) (hi : i < bl.length) (hj : j < 128) : (flatB bl)[i * 128 + j]? = (b8s (bl[i]).1)[j]? := by
  unfold flatB
  exact flat_get 128 _ (by intro cs hcs; obtain ⟨b, _, rfl⟩ := List.mem_map.1 hcs; exact blk_len b) i _ j (by rw [List.getElem?_map, List.getElem?_eq_getElem hi]; rfl) hj
/-- bytes laid over a block from o on -/
def over (b : Blk) (o : Nat) (us : List UInt8) : Blk := if h : o + us.length ≤ 128 then ⟨b.1.take o ++ us ++ b.1.drop (o + us.length), by have := b.2; simp; omega⟩ else b
theorem over_get (b : Blk) (o : Nat) (us : List UInt8) (h : o + us.length ≤ 128) (k : Nat) : (over b o us).1[k]? = if o ≤ k ∧ k < o + us.length then us[k - o]? else b.1[k]? := by
  have hb := b.2
  unfold over
  rw [dif_pos h]
  simp only [List.append_assoc]
  rw [List.getElem?_append, List.length_take, Nat.min_eq_left (by omega)]
  split
  · rw [if_neg (by omega), List.getElem?_take, if_pos (by assumption)]
  · rw [List.getElem?_append]
    split
    · rw [if_pos (by omega)]
    · rw [if_neg (by omega), List.getElem?_drop]
      congr 1
      omega
theorem b8s_opt (l : List UInt8) (k : Nat) : (b8s l)[k]? = (l[k]?).map b8 := by simp [b8s]
theorem flatB_puts (bl : List Blk) (i o : Nat) (us : List UInt8) (hi : i < bl.length) (h : o + us.length ≤ 128) : puts (flatB bl) (i * 128 + o) (b8s us) = flatB (bl.set i (over (bl[i]) o us)) := by
  have hl : (b8s us).length = us.length := by simp [b8s]
  have hm : i * 128 + 128 ≤ bl.length * 128 := by omega
  apply List.ext_getElem?
  intro k
  rw [puts_get _ _ _ _ (by rw [hl, flatB_len]; omega), hl]
  by_cases hk : k < bl.length * 128
  · obtain ⟨q, r, hr, rfl⟩ : ∃ q r, r < 128 ∧ k = q * 128 + r := ⟨k / 128, k % 128, Nat.mod_lt _ (by decide), by omega⟩
    have hq : q < bl.length := by omega
    rw [flatB_at (bl.set i _) q r (by simpa using hq) hr, flatB_at bl q r hq hr, b8s_opt, b8s_opt, b8s_opt]
    by_cases hqi : q = i
    · subst hqi
      rw [List.getElem_set_self, over_get _ _ _ h]
      by_cases hc : o ≤ r ∧ r < o + us.length
      · rw [if_pos (by omega), if_pos hc]
        congr 2
        omega
      · rw [if_neg (by omega), if_neg hc]
    · rw [List.getElem_set_ne (by omega), if_neg (by omega)]
  · rw [if_neg (by omega), List.getElem?_eq_none (by rw [flatB_len]; omega), List.getElem?_eq_none (by rw [flatB_len]; simp; omega)]
theorem over_all (b c : Blk) : over b 0 c.1 = c := by
  apply Subtype.ext
  apply List.ext_getElem?
  intro k
  rw [over_get _ _ _ (by rw [c.2]; decide)]
  have h1 := b.2
  have h2 := c.2
  by_cases hk : k < 128
  · rw [if_pos (by omega)]; rfl
  · rw [if_neg (by omega), List.getElem?_eq_none (by omega), List.getElem?_eq_none (by omega)]

abbrev Wt := Nat × Blk
def cWt : Cdc Wt := Cdc.flat 129 (fun x => .int .i64 (x.1 : Int) :: b8s x.2.1) (fun _ => True) (fun x => by simp [b8s, x.2.2]) (fun x u hu => by
  rcases List.mem_cons.1 hu with rfl | hu
  · rfl
  · obtain ⟨b, _, rfl⟩ := List.mem_map.1 hu; rfl)

structure DState where
  bl : List Blk
  wt : List Wt
  off : Bool
  fuse : Int
/-- the disk at g, all its blocks in S -/
structure DiskAt (w : World) (S : Nat → Prop) (g : Nat) (d : DState) : Prop where
  ex : ∃ hb vw, BoxAt 84 w g [.slice (some ⟨hb, 0, none⟩) d.bl.length d.bl.length, vw, .bool d.off, .int .i64 d.fuse] ∧ BoxAt 86 w hb (flatB d.bl) ∧
    OwnF 88 cWt w 0 vw d.wt ∧ hb ≠ g ∧ S hb ∧ ∀ q, vw.ownBlock = some q → q ≠ g ∧ q ≠ hb ∧ S q
  here : S g
  lt : ∀ k, S k → k < w.heap.size
  wts : ∀ x ∈ d.wt, x.1 < d.bl.length
  pos : 0 < d.bl.length
  few : d.bl.length ≤ 65536
  fuseR : -9223372036854775808 ≤ d.fuse ∧ d.fuse ≤ 9223372036854775807
theorem OwnF.kept {α : Type} {E : TypeId} {C : Cdc α} {w w' : World} {base : Nat} {v : Value} {xs : List α} (h : OwnF E C w base v xs) (hk : ∀ q, v.ownBlock = some q → w'.heap[q]? = w.heap[q]?) : OwnF E C w' base v xs := by
  obtain ⟨css, hl, ⟨h1, h2⟩, h3, h4⟩ := h
  refine ⟨css, hl, ⟨h1, ?_⟩, fun i cs x hc hx => C.keep (h3 i cs x hc hx) fun p hp => hp.elim, fun k hk => hk.elim⟩
  rcases h2 with h2 | ⟨g, cap, cur, e, hg, hh, r⟩
  · exact .inl h2
  · subst e
    exact .inr ⟨g, cap, cur, rfl, hg, (hk g rfl).trans hh, r⟩
theorem DiskAt.keep {w w' : World} {S : Nat → Prop} {g : Nat} {d : DState} (h : DiskAt w S g d) (hs : w.heap.size ≤ w'.heap.size) (hk : ∀ k, S k → w'.heap[k]? = w.heap[k]?) : DiskAt w' S g d := by
  obtain ⟨hb, vw, h1, h2, h3, h4, h5, h6⟩ := h.ex
  exact ⟨⟨hb, vw, (hk g h.here).trans h1, (hk hb h5).trans h2, h3.kept fun q hq => hk q (h6 q hq).2.2, h4, h5, h6⟩, h.here, fun k hx => Nat.lt_of_lt_of_le (h.lt k hx) hs, h.wts, h.pos, h.few, h.fuseR⟩
theorem DiskAt.below_ {w w' : World} {S : Nat → Prop} {g : Nat} {d : DState} (h : DiskAt w S g d) (hb : Below w.heap.size w w') : DiskAt w' S g d := h.keep hb.size fun k hk => hb.block k (h.lt k hk)
theorem DiskAt.chg_ {w w' : World} {S P : Nat → Prop} {g : Nat} {d : DState} (h : DiskAt w S g d) (hc : Chg P w w') (hn : ∀ k, S k → ¬ P k) : DiskAt w' S g d := h.keep hc.size fun k hk => hc.block k (h.lt k hk) (hn k hk)
theorem DiskAt.more {w : World} {S S' : Nat → Prop} {g : Nat} {d : DState} (h : DiskAt w S g d) (hs : ∀ k, S k → S' k) (hl : ∀ k, S' k → k < w.heap.size) : DiskAt w S' g d := by
  obtain ⟨hb, vw, h1, h2, h3, h4, h5, h6⟩ := h.ex
  exact ⟨⟨hb, vw, h1, h2, h3, h4, hs _ h5, fun q hq => ⟨(h6 q hq).1, (h6 q hq).2.1, hs _ (h6 q hq).2.2⟩⟩, hs _ h.here, hl, h.wts, h.pos, h.few, h.fuseR⟩
end Go.Proofs.Ytpoicbhbkabllaa

namespace Go.Proofs.Ytpoicbhbkabllaa
set_option linter.unusedSimpArgs false
set_option linter.unusedVariables false

def mayE (d : DState) (i : Int) : Int := if d.off = true then 6 else if 0 ≤ i ∧ i < (d.bl.length : Int) then 0 else 9
def deedE (d : DState) : Int := if d.fuse = 0 then 6 else 0
def deedD (d : DState) : DState := if d.fuse = 0 then { d with off := true } else if 0 < d.fuse then { d with fuse := d.fuse - 1 } else d
def writeE (d : DState) (i : Int) (b : List UInt8) : Int := if mayE d i ≠ 0 then mayE d i else if b.length ≠ 128 then 3 else deedE d
def writeD (d : DState) (i : Int) (b : List UInt8) : DState :=
  if mayE d i ≠ 0 then d else if h : b.length = 128 then (if deedE d ≠ 0 then deedD d else { deedD d with wt := d.wt ++ [(i.toNat, ⟨b, h⟩)] }) else d
def lastW (wt : List Wt) (i : Nat) (b : Blk) : Blk := wt.foldl (fun b x => if x.1 = i then x.2 else b) b
def zeroB : Blk := ⟨List.replicate 128 0, by simp⟩
def readB (d : DState) (i : Nat) : Blk := lastW d.wt i (d.bl.getD i zeroB)
def readL (d : DState) (i : Int) : List UInt8 := if mayE d i ≠ 0 then [] else (readB d i.toNat).1
def syncBl (wt : List Wt) (bl : List Blk) : List Blk := wt.foldl (fun bl x => bl.set x.1 x.2) bl
def syncE (d : DState) : Int := if d.off = true then 6 else deedE d
def syncD (d : DState) : DState := if d.off = true then d else if deedE d ≠ 0 then deedD d else { deedD d with bl := syncBl d.wt d.bl, wt := [] }
def bitAt (n k : Nat) : Bool := n.testBit (k % 64)
def backStep (keep torn k : Nat) (x : Wt) (bl : List Blk) : List Blk := if bitAt keep k = true then bl.set x.1 x.2 else if bitAt torn k = true then bl.set x.1 (over (bl.getD x.1 zeroB) 0 (x.2.1.take 64)) else bl
def backBl (keep torn : Nat) : Nat → List Wt → List Blk → List Blk
  | _, [], bl => bl
  | k, x :: t, bl => backBl keep torn (k + 1) t (backStep keep torn k x bl)
def backD (d : DState) (keep torn : Nat) : DState := { bl := backBl keep torn 0 d.wt d.bl, wt := [], off := false, fuse := -1 }
def spoilE (d : DState) (i at_ : Int) : Int := if 0 ≤ i ∧ i < (d.bl.length : Int) ∧ 0 ≤ at_ ∧ at_ < 128 then 0 else 9
def spoilD (d : DState) (i at_ : Int) (c : UInt8) : DState := if spoilE d i at_ ≠ 0 then d else { d with bl := d.bl.set i.toNat (over (d.bl.getD i.toNat zeroB) at_.toNat [(d.bl.getD i.toNat zeroB).1.getD at_.toNat 0 ^^^ c]) }
theorem syncBl_len (wt : List Wt) : ∀ bl, (syncBl wt bl).length = bl.length := by
  induction wt with
  | nil => intro bl; rfl
  | cons x t ih => intro bl; show (syncBl t _).length = _; rw [ih]; simp
theorem backStep_len (keep torn k : Nat) (x : Wt) (bl : List Blk) : (backStep keep torn k x bl).length = bl.length := by unfold backStep; split <;> (try split) <;> simp
theorem backBl_len (keep torn : Nat) (wt : List Wt) : ∀ k bl, (backBl keep torn k wt bl).length = bl.length := by
  induction wt with
  | nil => intro k bl; rfl
  | cons x t ih => intro k bl; rw [backBl, ih, backStep_len]
theorem syncBl_snoc (wt : List Wt) (x : Wt) (bl : List Blk) : syncBl (wt ++ [x]) bl = (syncBl wt bl).set x.1 x.2 := by simp [syncBl]
theorem backBl_snoc (keep torn : Nat) (wt : List Wt) (x : Wt) : ∀ k bl, backBl keep torn k (wt ++ [x]) bl = backStep keep torn (k + wt.length) x (backBl keep torn k wt bl) := by
  induction wt with
  | nil => intro k bl; rfl
  | cons y t ih => intro k bl; rw [List.cons_append, backBl, ih, backBl]; congr 1; simp; omega
theorem deedD_bl (d : DState) : (deedD d).bl = d.bl := by unfold deedD; split <;> (try split) <;> rfl
theorem deedD_wt (d : DState) : (deedD d).wt = d.wt := by unfold deedD; split <;> (try split) <;> rfl
end Go.Proofs.Ytpoicbhbkabllaa

namespace Go.Proofs.Ytpoicbhbkabllaa
set_option linter.unusedSimpArgs false
set_option linter.unusedVariables false
open Go.RowKit

/-- a fact on a value that every later world keeps -/
structure Ph where
  p : Value → World → Prop
  st : ∀ v w w', p v w → Below w.heap.size w w' → p v w'
/-- the value is this one -/
def Ph.is (c : Value) : Ph := ⟨fun v _ => v = c, fun _ _ _ h _ => h⟩
def Ph.any : Ph := ⟨fun _ _ => True, fun _ _ _ h _ => h⟩
instance : Inhabited Ph := ⟨Ph.any⟩
/-- a readable row of bytes -/
def Ph.by_ (l : List UInt8) : Ph := ⟨fun v w => By w w.heap.size v l, fun _ _ _ h hb => h.step hb⟩

/-- what lies in the slot behind the operation -/
def dstVal (d : Option Nat) (v : Value) : Value := match d with | some _ => v | none => undef
@[simp] theorem dstVal_some (d : Nat) (v : Value) : dstVal (some d) v = v := rfl
@[simp] theorem dstVal_none (v : Value) : dstVal none v = undef := rfl
def mildUpon (P : Program) (w : World) (d : Option Nat) (ph : Value → World → Prop) : Result Next → Prop
  | .ok (.value u) w' => Below w.heap.size w w' ∧ ph (dstVal d u) w'
  | .ok .skip w' => Below w.heap.size w w' ∧ ph undef w'
  | .ok (.enter f args) w' => Calls P f args w' (fun e w'' => ∃ v, e = .returned v ∧ Below w.heap.size w w'' ∧ ph (dstVal d v) w'')
  | _ => False

/-- the frame with the slots ds written anew -/
def fills (ds : List Nat) (f : Nat → Value) (a : Act) : Act := ds.foldl (fun a d => a.put (some d) (f d)) a

theorem fills_defers (ds : List Nat) (f : Nat → Value) (a : Act) : (fills ds f a).defers = a.defers := by
  unfold fills
  induction ds generalizing a with
  | nil => rfl
  | cons d ds ih => rw [List.foldl_cons, ih]; rfl
theorem fills_size (ds : List Nat) (f : Nat → Value) (a : Act) : (fills ds f a).tmps.size = a.tmps.size := by
  unfold fills
  induction ds generalizing a with
  | nil => rfl
  | cons d ds ih => rw [List.foldl_cons, ih]; simp [Act.put]
theorem fills_get (ds : List Nat) (f : Nat → Value) (a : Act) (t : Nat) : (fills ds f a).tmps[t]? = if t ∈ ds ∧ t < a.tmps.size then some (f t) else a.tmps[t]? := by
  unfold fills
  induction ds generalizing a with
  | nil => simp
  | cons d ds ih =>
    rw [List.foldl_cons, ih]
    simp only [Act.put, Array.size_setIfInBounds, List.mem_cons]
    by_cases h1 : t ∈ ds ∧ t < a.tmps.size
    · rw [if_pos h1, if_pos ⟨.inr h1.1, h1.2⟩]
    · rw [if_neg h1]
      by_cases h2 : t = d
      · subst h2
        by_cases h3 : t < a.tmps.size
        · rw [if_pos ⟨.inl rfl, h3⟩]; simp [h3]
        · rw [if_neg (fun h => h3 h.2)]; simp [Array.setIfInBounds, h3]
      · rw [if_neg (fun h => by rcases h with ⟨h | h, h'⟩; exact h2 h; exact h1 ⟨h, h'⟩), Array.getElem?_setIfInBounds_ne (Ne.symm h2)]
theorem act_ext {a b : Act} (h1 : ∀ t : Nat, a.tmps[t]? = b.tmps[t]?) (h2 : a.defers = b.defers) : a = b := by
  cases a; cases b
  have : _ = _ := Array.ext_getElem? h1
  simp_all
theorem fills_put (ds : List Nat) (f : Nat → Value) (a : Act) (d : Nat) (v : Value) (hd : d ∈ ds) : (fills ds f a).put (some d) v = fills ds (fun t => if t = d then v else f t) a := by
  refine act_ext (fun t => ?_) ?_
  · rw [fills_get]
    simp only [Act.put]
    by_cases h : t = d
    · subst h
      by_cases h3 : t < a.tmps.size
      · rw [if_pos ⟨hd, h3⟩, Array.getElem?_setIfInBounds_self_of_lt (by rw [fills_size]; exact h3)]; simp
      · rw [if_neg (fun h => h3 h.2)]
        have h4 : ¬ t < (fills ds f a).tmps.size := by rw [fills_size]; exact h3
        simp only [Array.setIfInBounds, h4, dite_false]
        rw [fills_get, if_neg (fun h => h3 h.2)]
    · rw [Array.getElem?_setIfInBounds_ne (Ne.symm h), fills_get, if_neg h]
  · rw [fills_defers]; exact fills_defers ds f a
theorem fills_self (ds : List Nat) (a : Act) : fills ds (fun t => a.tmps.getD t undef) a = a := by
  refine act_ext (fun t => ?_) (fills_defers _ _ _)
  rw [fills_get]
  split
  · rename_i h
    rw [Array.getD_eq_getD_getElem?, Array.getElem?_eq_getElem h.2]; rfl
  · rfl
theorem fills_getD (ds : List Nat) (f : Nat → Value) (a : Act) (d : Nat) (hd : d ∈ ds) (h : d < a.tmps.size) : (fills ds f a).tmps.getD d undef = f d := by
  rw [Array.getD_eq_getD_getElem?, fills_get, if_pos ⟨hd, h⟩]; rfl

/-- the value of operation number j; dl: the slots that the operations write -/
def valOf (dl : List (Option Nat)) (f : Nat → Value) (j : Nat) : Value := match dl[j]? with | some (some d) => f d | _ => undef
def factOf (dl : List (Option Nat)) (Φ : List Ph) (f : Nat → Value) (w : World) (j : Nat) : Prop := (Φ.getD j default).p (valOf dl f j) w
/-- the facts of all that an operation waits for -/
def PreOf (dl : List (Option Nat)) (Φ : List Ph) (f : Nat → Value) (w : World) : List Edge → Prop
  | [] => True
  | e :: es => (if Region.binds .any e then factOf dl Φ f w e.on else True) ∧ PreOf dl Φ f w es
/-- its guard says yes -/
def Gd (dl : List (Option Nat)) (f : Nat → Value) : Option (Nat × Bool) → Prop
  | none => True
  | some (j, want) => valOf dl f j = .bool want
/-- the frame as the operations see it -/
def evalF (ds : List Nat) (f : Nat → Value) (a : Act) : Operand → Value
  | .tmp t => if ds.contains t then f t else a.tmps.getD t undef
  | x => a.eval x
/-- what is to be shown of one operation -/
def Ob1 (P : Program) (dl : List (Option Nat)) (Φ : List Ph) (ds : List Nat) (a : Act) (w : World) (ph : Ph) (o : Oper) : Prop :=
  ∀ f w', Below w.heap.size w w' → PreOf dl Φ f w' o.after.toList →
    (Gd dl f o.guard → mildUpon P w' o.dst ph.p ((execOp (evalF ds f a) o).run P w')) ∧ (¬ Gd dl f o.guard → ph.p undef w')
def ObAll (P : Program) (dl : List (Option Nat)) (Φ : List Ph) (ds : List Nat) (a : Act) (w : World) : List Oper → List Ph → Prop
  | [], _ => True
  | _ :: _, [] => False
  | o :: os, ph :: phs => Ob1 P dl Φ ds a w ph o ∧ ObAll P dl Φ ds a w os phs
def PostOf (f : Nat → Value) (w : World) : List (Option Nat) → List Ph → Prop
  | [], _ => True
  | _ :: _, [] => True
  | d :: os, ph :: phs => ph.p (match d with | some d => f d | none => undef) w ∧ PostOf f w os phs

theorem evalF_fills {ds : List Nat} {a : Act} (f : Nat → Value) (h : ∀ d ∈ ds, d < a.tmps.size) : (fills ds f a).eval = evalF ds f a := by
  funext x
  cases x with
  | tmp t =>
    simp only [Act.eval, evalF]
    rw [Array.getD_eq_getD_getElem?, fills_get]
    by_cases ht : t ∈ ds
    · rw [if_pos ⟨ht, h t ht⟩, if_pos (by simpa using ht)]; rfl
    · rw [if_neg (fun h => ht h.1), if_neg (by simpa using ht), Array.getD_eq_getD_getElem?]
  | const v => rfl
  | global g => rfl
  | func g => rfl
theorem yielded_iff (ops : Array Oper) (dl : List (Option Nat)) (hdl : ops.toList.map (·.dst) = dl) (ds : List Nat) (f : Nat → Value) (a : Act) (h : ∀ d ∈ ds, d < a.tmps.size) (hds : ∀ d, some d ∈ dl → d ∈ ds) (g : Option (Nat × Bool)) (o : Oper) (hg : o.guard = g) :
    Region.wanted o (yielded ops (fills ds f a).tmps) = true ↔ Gd dl f g := by
  subst hg
  unfold Region.wanted Gd
  cases hgd : o.guard with
  | none => simp
  | some x =>
    obtain ⟨j, want⟩ := x
    simp only [beq_iff_eq]
    unfold yielded valOf
    have hj : dl[j]? = (ops[j]?).map (fun (o : Oper) => o.dst) := by rw [← hdl]; simp
    rw [hj]
    cases ho : ops[j]? with
    | none => simp [undef]
    | some oj =>
      simp only [Option.map_some, Option.bind_some]
      cases hd : oj.dst with
      | none => simp [undef]
      | some d =>
        have hdd : d ∈ ds := hds d (by
          rw [← hdl]
          exact List.mem_map.2 ⟨oj, by simpa using Array.mem_of_getElem? ho, hd⟩)
        have hv : (fills ds f a).tmps.getD d undef = f d := fills_getD ds f a d hdd (h d hdd)
        have hv2 : (fills ds f a).tmps[d]? = some (f d) := by rw [fills_get, if_pos ⟨hdd, h d hdd⟩]
        simp only [Option.bind_some, hv2]
        cases f d <;> simp

theorem preOf_mk {dl : List (Option Nat)} {Φ : List Ph} {f : Nat → Value} {w : World} : ∀ (es : List Edge), (∀ e ∈ es, Region.binds .any e = true → factOf dl Φ f w e.on) → PreOf dl Φ f w es
  | [], _ => trivial
  | e :: es, h => by
    refine ⟨?_, preOf_mk es fun x hx => h x (List.mem_cons_of_mem _ hx)⟩
    split
    · exact h e (List.mem_cons_self ..) ‹_›
    · trivial
theorem obAll_get {P : Program} {dl : List (Option Nat)} {Φ : List Ph} {ds : List Nat} {a : Act} {w : World} : ∀ (os : List Oper) (phs : List Ph), ObAll P dl Φ ds a w os phs →
    ∀ (i : Nat) (o : Oper), os[i]? = some o → Ob1 P dl Φ ds a w (phs.getD i default) o
  | [], _, _, i, o, h => by simp at h
  | _ :: _, [], h, _, _, _ => h.elim
  | o' :: os, ph :: phs, h, 0, o, ho => by
    simp at ho; subst ho; exact h.1
  | o' :: os, ph :: phs, h, i + 1, o, ho => by
    simp at ho; simpa using obAll_get os phs h.2 i o ho
theorem postOf_mk {f : Nat → Value} {w : World} : ∀ (os : List (Option Nat)) (phs : List Ph),
    (∀ (i : Nat) (d : Option Nat), os[i]? = some d → (phs.getD i default).p (match d with | some d => f d | none => undef) w) → PostOf f w os phs
  | [], _, _ => by simp [PostOf]
  | _ :: _, [], _ => by simp [PostOf]
  | d :: os, ph :: phs, h => ⟨h 0 d rfl, postOf_mk os phs fun i d hd => by simpa using h (i + 1) d (by simpa using hd)⟩

/-- the closed facts on the region: the slots that are written are different ones, in the frame; edges go backward -/
def dstsOf_ (l : List Oper) : List Nat := l.filterMap (·.dst)
def typedB (l : List Oper) (n : Nat) : Bool :=
  decide ((dstsOf_ l).Nodup) && (dstsOf_ l).all (fun d => decide (d < n)) &&
  (l.zipIdx).all (fun x => x.1.after.all fun e => !Region.binds .any e || decide (e.on < x.2)) && Region.noSelect l.toArray

section
variable {P : Program} {l : List Oper} {dl : List (Option Nat)} {ds : List Nat} {Φ : List Ph} {a : Act} {w : World} {Q : Exit → Act → World → Prop}

theorem typed_aux (hdl : l.map (·.dst) = dl) (hn : typedB l a.tmps.size = true) (hob : ObAll P dl Φ (dstsOf_ l) a w l Φ)
    (hQ : ∀ f w', Below w.heap.size w w' → PostOf f w' dl Φ → Q .normal (fills (dstsOf_ l) f a) w') :
    ∀ (fuel : Nat) (listed : Array Bool) (rem : List Nat), rem.length = fuel → listed.size = l.length → rem.Nodup → (∀ i, i ∈ rem ↔ i < l.length ∧ listed.getD i true = false) →
      ∀ f w', Below w.heap.size w w' → (∀ i, i < l.length → listed.getD i false = true → factOf dl Φ f w' i) →
      wpAny P .any l.toArray Q fuel listed (fills (dstsOf_ l) f a) w' := by
  simp only [typedB, Bool.and_eq_true] at hn
  obtain ⟨⟨⟨hnd, hlt⟩, hed⟩, _⟩ := hn
  have hdlg : ∀ i : Nat, dl[i]? = (l[i]?).map (fun (o : Oper) => o.dst) := fun i => by rw [← hdl]; simp
  have hnd := of_decide_eq_true hnd
  have hlt : ∀ d ∈ dstsOf_ l, d < a.tmps.size := fun d hd => of_decide_eq_true (List.all_eq_true.1 hlt d hd)
  have hed : ∀ (i : Nat) (o : Oper), l[i]? = some o → ∀ e ∈ o.after, Region.binds .any e = true → e.on < i := by
    intro i o ho e he hb
    have h1 := List.all_eq_true.1 hed (o, i) (by
      rw [List.mem_zipIdx_iff_getElem?]; exact ho)
    have h2 := (Array.all_eq_true_iff_forall_mem.1 h1) e he
    simpa [hb] using h2
  have hall : ∀ (listed : Array Bool), listed.size = l.length → Region.ready .any l.toArray listed = [] → ∀ i, i < l.length → listed.getD i false = true := by
    intro listed hs hr i
    induction i using Nat.strongRecOn with
    | _ i ih =>
      intro hi
      rcases hc : listed.getD i false with _ | _
      · exfalso
        have hm : i ∈ Region.ready .any l.toArray listed := by
          rw [mem_ready]
          refine ⟨?_, l[i], by simp [hi], fun e he hb => ?_⟩
          · rw [Array.getD_eq_getD_getElem?] at hc ⊢
            rw [Array.getElem?_eq_getElem (by omega)] at hc ⊢
            exact hc
          · have := hed i l[i] (by simp [hi]) e he hb
            exact ih e.on this (by omega)
        rw [hr] at hm
        cases hm
      · rfl
  have hend : ∀ (listed : Array Bool), listed.size = l.length → (∀ i, i < l.length → listed.getD i false = true) → ∀ f w', Below w.heap.size w w' → (∀ i, i < l.length → listed.getD i false = true → factOf dl Φ f w' i) →
      Q .normal (fills (dstsOf_ l) f a) w' := by
    intro listed hs hal f w' hb hf
    refine hQ f w' hb (postOf_mk dl Φ fun i d hd => ?_)
    have hi : i < l.length := by
      have := (List.getElem?_eq_some_iff.1 hd).1
      rw [← hdl] at this
      simpa using this
    have := hf i hi (hal i hi)
    unfold factOf valOf at this
    rw [hd] at this
    cases d <;> exact this
  intro fuel
  induction fuel with
  | zero =>
    intro listed rem hrem hs hnr hmem f w' hb hf
    have hr0 : rem = [] := List.eq_nil_of_length_eq_zero hrem
    have hal : ∀ i, i < l.length → listed.getD i false = true := by
      intro i hi
      rcases hc : listed.getD i false with _ | _
      · exfalso
        have : i ∈ rem := (hmem i).2 ⟨hi, by
          rw [Array.getD_eq_getD_getElem?] at hc ⊢
          rw [Array.getElem?_eq_getElem (by omega)] at hc ⊢
          exact hc⟩
        rw [hr0] at this
        cases this
      · rfl
    refine ⟨?_, hend listed hs hal f w' hb hf⟩
    rw [List.eq_nil_iff_forall_not_mem]
    intro i hi
    have h1 := (mem_ready.1 hi).1
    obtain ⟨_, o, ho, _⟩ := mem_ready.1 hi
    have hil : i < l.length := by
      have := (Array.getElem?_eq_some_iff.1 ho).1
      simpa using this
    have h2 := hal i hil
    rw [Array.getD_eq_getD_getElem?, Array.getElem?_eq_getElem (by omega)] at h1 h2
    simp at h1 h2
    rw [h1] at h2
    cases h2
  | succ fuel ih =>
    intro listed rem hrem hs hnr hmem f w' hb hf
    refine ⟨fun h => hend listed hs (hall listed hs h) f w' hb hf, fun i hi => ?_⟩
    obtain ⟨hun, o, ho, hpre⟩ := mem_ready.1 hi
    have hol : l[i]? = some o := by simpa using ho
    have hil : i < l.length := (List.getElem?_eq_some_iff.1 hol).1
    have hp : PreOf dl Φ f w' o.after.toList := preOf_mk _ fun e he hbd => by
      have he' : e ∈ o.after := by simpa using he
      have hlist := hpre e he' hbd
      exact hf e.on (Nat.lt_trans (hed i o hol e he' hbd) hil) hlist
    have hone := obAll_get l Φ hob i o hol f w' hb hp
    have hgd := yielded_iff l.toArray dl (by simpa using hdl) (dstsOf_ l) f a hlt (fun d hd => by
      rw [← hdl] at hd
      obtain ⟨oo, h1, h2⟩ := List.mem_map.1 hd
      exact List.mem_filterMap.2 ⟨oo, h1, h2⟩) o.guard o rfl
    -- what follows once the value is there
    have hnext : ∀ v w'', Below w'.heap.size w' w'' → (Φ.getD i default).p (dstVal o.dst v) w'' →
        wpAny P .any l.toArray Q fuel (listed.setIfInBounds i true) ((fills (dstsOf_ l) f a).put o.dst v) w'' := by
      intro v w'' hb' hv
      have hrem' : (rem.erase i).length = fuel := by
        have : i ∈ rem := (hmem i).2 ⟨hil, hun⟩
        rw [List.length_erase_of_mem this]; omega
      have hmem' : ∀ k, k ∈ rem.erase i ↔ k < l.length ∧ (listed.setIfInBounds i true).getD k true = false := by
        intro k
        rw [hnr.mem_erase_iff, hmem]
        by_cases hk : k = i
        · subst hk
          simp only [ne_eq, not_true, false_and, false_iff, not_and]
          intro hk
          rw [Array.getD_eq_getD_getElem?, Array.getElem?_setIfInBounds_self_of_lt (by omega)]
          simp
        · rw [getD_set_ne true (Ne.symm hk)]
          simp [hk]
      have hst : ∀ k, k < l.length → k ≠ i → (listed.setIfInBounds i true).getD k false = true → listed.getD k false = true := by
        intro k _ hk h
        rw [getD_set_ne false (Ne.symm hk)] at h
        exact h
      cases hd : o.dst with
      | none =>
        show wpAny P .any l.toArray Q fuel _ (fills (dstsOf_ l) f a) w''
        refine ih _ (rem.erase i) hrem' (by simpa using hs) (hnr.erase i) hmem' f w'' (hb.trans (hb'.mono hb.size)) fun k hk hl => ?_
        by_cases hki : k = i
        · subst hki
          unfold factOf valOf
          rw [hdlg, hol]
          simp only [Option.map_some, hd]
          simpa [hd] using hv
        · exact (Φ.getD k default).st _ _ _ (hf k hk (hst k hk hki hl)) hb'
      | some d =>
        have hdm : d ∈ dstsOf_ l := List.mem_filterMap.2 ⟨o, List.mem_of_getElem? hol, hd⟩
        rw [fills_put _ _ _ _ _ hdm]
        refine ih _ (rem.erase i) hrem' (by simpa using hs) (hnr.erase i) hmem' _ w'' (hb.trans (hb'.mono hb.size)) fun k hk hl => ?_
        by_cases hki : k = i
        · subst hki
          unfold factOf valOf
          rw [hdlg, hol]
          simp only [Option.map_some, hd]
          simpa [hd] using hv
        · have h0 := (Φ.getD k default).st _ _ _ (hf k hk (hst k hk hki hl)) hb'
          unfold factOf
          have hval : valOf dl (fun t => if t = d then v else f t) k = valOf dl f k := by
            unfold valOf
            rw [hdlg]
            cases hok : l[k]? with
            | none => rfl
            | some ok =>
              cases hdk : ok.dst with
              | none => simp [hdk]
              | some dk =>
                simp only [Option.map_some, hdk]
                rw [if_neg]
                intro e
                subst e
                -- two operations with one slot
                have h3 : (dstsOf_ l).Nodup := hnd
                have : ∀ (m : List Oper) (x y : Nat) (ox oy : Oper), (m.filterMap (·.dst)).Nodup → m[x]? = some ox → m[y]? = some oy → ox.dst = some dk → oy.dst = some dk → x = y := by
                  intro m
                  induction m with
                  | nil => intro x y ox oy _ hx; simp at hx
                  | cons q m ihm =>
                    intro x y ox oy hnd hx hy hdx hdy
                    cases x with
                    | zero =>
                      cases y with
                      | zero => rfl
                      | succ y =>
                        exfalso
                        simp at hx hy
                        subst hx
                        simp only [List.filterMap_cons, hdx] at hnd
                        exact (List.nodup_cons.1 hnd).1 (List.mem_filterMap.2 ⟨oy, List.mem_of_getElem? hy, hdy⟩)
                    | succ x =>
                      cases y with
                      | zero =>
                        exfalso
                        simp at hx hy
                        subst hy
                        simp only [List.filterMap_cons, hdy] at hnd
                        exact (List.nodup_cons.1 hnd).1 (List.mem_filterMap.2 ⟨ox, List.mem_of_getElem? hx, hdx⟩)
                      | succ y =>
                        simp at hx hy
                        have : (m.filterMap (·.dst)).Nodup := by
                          simp only [List.filterMap_cons] at hnd
                          cases hq : q.dst with
                          | none => simpa [hq] using hnd
                          | some _ => simp only [hq] at hnd; exact (List.nodup_cons.1 hnd).2
                        rw [ihm x y ox oy this hx hy hdx hdy]
                exact hki (this l k i ok o h3 hok hol hdk hd)
          rw [hval]
          exact h0
    unfold wpOp
    simp only [ho]
    by_cases hw : Region.wanted o (yielded l.toArray (fills (dstsOf_ l) f a).tmps) = true
    · replace hone := hone.1 (hgd.1 hw)
      simp only [hw, if_true]
      left
      unfold Oper.wp
      rw [evalF_fills f hlt]
      generalize (execOp (evalF (dstsOf_ l) f a) o).run P w' = r at *
      cases r with
      | ok n w'' =>
        cases n <;> simp only [mildUpon] at hone <;> simp only [Oper.upon]
        case value u =>
          exact hnext u w'' hone.1 hone.2
        case skip =>
          refine hnext undef w'' hone.1 ?_
          cases o.dst <;> exact hone.2
        case enter f' args =>
          refine hone.mono ?_
          rintro e w3 ⟨v, rfl, hb3, hv⟩
          exact hnext v w3 hb3 hv
      | halt x w'' => simp only [mildUpon] at hone
    · replace hone := hone.2 (fun h => hw (hgd.2 h))
      simp only [hw]
      refine hnext undef w' (Below.refl _ _) ?_
      cases o.dst <;> exact hone

/-- THE LAW: a region that draws its order, by facts on its values. -/
theorem wp_region_typed {id : Nat} (dl : List (Option Nat)) (ds : List Nat) (Φ : List Ph) (hdl : l.map (·.dst) = dl) (hds : dstsOf_ l = ds) (hm : P.follows .mixedOrders = true) (hn : typedB l a.tmps.size = true) (hob : ObAll P dl Φ ds a w l Φ)
    (hQ : ∀ f w', Below w.heap.size w w' → PostOf f w' dl Φ → Q .normal (fills ds f a) w') : (Code.region id l.toArray true).wp P Q a w := by
  subst hds
  refine wp_region_any hm ?_
  have := typed_aux hdl hn hob hQ l.length (Array.replicate l.length false) (List.range l.length) (by simp) (by simp) List.nodup_range (by
    intro i
    simp only [List.mem_range, Array.getD_eq_getD_getElem?]
    constructor
    · intro h; exact ⟨h, by simp [h]⟩
    · exact fun h => h.1) (fun t => a.tmps.getD t undef) { w with drawn := w.drawn + 1 } ((Below.refl _ w).drew) (by
    intro i hi h
    simp [Array.getD_eq_getD_getElem?, hi] at h)
  rw [fills_self] at this
  simpa using this
end

/-! ### one operation -/
section
variable {P : Program} {dl : List (Option Nat)} {ds : List Nat} {Φ : List Ph} {a : Act} {w : World} {ph : Ph} {o : Oper}
/-- its guard, if there is one, says yes by the facts -/
theorem ob_yes (h : ∀ f w', Below w.heap.size w w' → PreOf dl Φ f w' o.after.toList → Gd dl f o.guard ∧ mildUpon P w' o.dst ph.p ((execOp (evalF ds f a) o).run P w')) : Ob1 P dl Φ ds a w ph o :=
  fun f w' hb hp => ⟨fun _ => (h f w' hb hp).2, fun hn => (hn (h f w' hb hp).1).elim⟩
/-- its guard says no by the facts -/
theorem ob_no (h : ∀ f w', Below w.heap.size w w' → PreOf dl Φ f w' o.after.toList → ¬ Gd dl f o.guard ∧ ph.p undef w') : Ob1 P dl Φ ds a w ph o :=
  fun f w' hb hp => ⟨fun hg => ((h f w' hb hp).1 hg).elim, fun _ => (h f w' hb hp).2⟩
/-- a value, the world as it was -/
theorem mild_val {d : Option Nat} {q : Value → World → Prop} {r : Result Next} {w' : World} (u : Value) (hr : r = .ok (.value u) w') (hq : q (dstVal d u) w') : mildUpon P w' d q r := by
  subst hr; exact ⟨Below.refl _ _, hq⟩
theorem mild_call {d : Option Nat} {q : Value → World → Prop} {w' : World} {ρ : Operand → Value} (f : Nat) (args : Array Operand) (ts : Array TypeId) (fn : Func) (hf : P.funcs[f]? = some fn) (hn : (fn.name == "runtime.NumGoroutine") = false) (hb : fn.body.isNone = false)
    {t : TypeId} {pos : String} {af : Array Edge} {g : Option (Nat × Bool)} (hρ : ρ (.func f) = .func (.func f) #[] #[])
    (h : Calls P f (args.map ρ) w' (fun e w'' => ∃ v, e = .returned v ∧ Below w'.heap.size w' w'' ∧ q (dstVal d v) w'')) :
    mildUpon P w' d q ((execOp ρ { dst := d, op := .call { callee := .value (.func f), args := args, argTypes := ts }, type := t, pos := pos, after := af, guard := g }).run P w') := by
  have hr : (execOp ρ { dst := d, op := .call { callee := .value (.func f), args := args, argTypes := ts }, type := t, pos := pos, after := af, guard := g }).run P w' = .ok (.enter f (args.map ρ)) w' := by
    simp [execOp, resolve, hρ, Deferred.ofValue, invoke, callFunc, hf]
    rw [if_neg (by simpa using hn), if_neg (by intro h; simp [h] at hb)]
  rw [hr]
  exact h
end

/-- a value in a new block -/
theorem mild_alloc {P : Program} {d : Option Nat} {q : Value → World → Prop} {r : Result Next} {w' : World} (u : Value) (ob : Obj) (hr : r = .ok (.value u) (w'.alloc ob)) (hq : q (dstVal d u) (w'.alloc ob)) : mildUpon P w' d q r := by
  subst hr; exact ⟨balloc _ _, hq⟩
/-- a row of cells in a block that is known whole -/
def Ph.blk (t : TypeId) (vs : List Value) : Ph :=
  ⟨fun v w => ∃ g, v = .slice (some ⟨g, 0, none⟩) vs.length vs.length ∧ w.heap[g]? = some (.cells vs.toArray t (0, 0)), fun _ w _ ⟨g, h1, h2⟩ hb => ⟨g, h1, (hb.block g (by
    rcases Nat.lt_or_ge g w.heap.size with h | h
    · exact h
    · rw [Array.getElem?_eq_none h] at h2; cases h2)).trans h2⟩⟩
theorem rd_blk {w : World} {g : Nat} {t : TypeId} {vs : List Value} {fr : Nat × Nat} (h : w.heap[g]? = some (.cells vs.toArray t fr)) : Rd w w.heap.size 1 (some ⟨g, 0, none⟩) vs.length vs := by
  refine ⟨by simp, fun _ => ⟨_, rfl, ?_, fun j u hu => World.news_of_block h j u (by simpa using hu)⟩⟩
  rcases Nat.lt_or_ge g w.heap.size with h' | h'
  · exact h'
  · rw [Array.getElem?_eq_none h'] at h; cases h

/-! ### cuts of a slice, at the operation -/
section
variable {P : Program} {w : World} {ρ : Operand → Value} {t e : TypeId} {sz : Nat} {A : Option Addr} {n c : Nat} {d : Option Nat} {ty : TypeId} {pos : String} {af : Array Edge} {g : Option (Nat × Bool)}
theorem run_cut_both (x lo hi : Operand) (kl kh : IntKind) (l h : Nat) (hu : P.underlying t = some (.slice e)) (hs : (P.info? e).map (·.size) = some sz) (hx : ρ x = .slice A n c) (hl : ρ lo = .int kl l) (hh : ρ hi = .int kh h) (h1 : l ≤ h) (h2 : h ≤ c) :
    (execOp ρ { dst := d, op := .slice t x (some lo) (some hi) none, type := ty, pos := pos, after := af, guard := g }).run P w = .ok (.value (.slice (if c = l then A else A.map (·.add (l * sz))) (h - l) (c - l))) w := by
  cases hq : P.info? e with
  | none => simp [hq] at hs
  | some i =>
    have hi : i.size = sz := by simpa [hq] using hs
    have h1' : (l : Int) ≤ (h : Int) := by omega
    have h2' : (h : Int) ≤ (c : Int) := by omega
    simp [execOp, hx, hl, hh, Instr.sliceAt, Instr.slice, run_underlying hu, Instr.sliceBounds, Instr.sliceBound, asIntOf, h1, h2, sizeOf, typeInfo, hq, hi]
theorem run_cut_hi (x hi : Operand) (kh : IntKind) (h : Nat) (hu : P.underlying t = some (.slice e)) (hs : (P.info? e).map (·.size) = some sz) (hx : ρ x = .slice A n c) (hh : ρ hi = .int kh h) (h2 : h ≤ c) :
    (execOp ρ { dst := d, op := .slice t x none (some hi) none, type := ty, pos := pos, after := af, guard := g }).run P w = .ok (.value (.slice A h c)) w := by
  cases hq : P.info? e with
  | none => simp [hq] at hs
  | some i =>
    have h2' : (h : Int) ≤ (c : Int) := by omega
    simp [execOp, hx, hh, Instr.sliceAt, Instr.slice, run_underlying hu, Instr.sliceBounds, Instr.sliceBound, asIntOf, h2, sizeOf, typeInfo, hq, Addr.add]
theorem run_cut_lo (x lo : Operand) (kl : IntKind) (l : Nat) (hu : P.underlying t = some (.slice e)) (hs : (P.info? e).map (·.size) = some sz) (hx : ρ x = .slice A n c) (hl : ρ lo = .int kl l) (h1 : l ≤ n) :
    (execOp ρ { dst := d, op := .slice t x (some lo) none none, type := ty, pos := pos, after := af, guard := g }).run P w = .ok (.value (.slice (if c = l then A else A.map (·.add (l * sz))) (n - l) (c - l))) w := by
  cases hq : P.info? e with
  | none => simp [hq] at hs
  | some i =>
    have hi : i.size = sz := by simpa [hq] using hs
    simp [execOp, hx, hl, Instr.sliceAt, Instr.slice, run_underlying hu, Instr.sliceBounds, Instr.sliceBound, asIntOf, h1, sizeOf, typeInfo, hq, hi]
end
end Go.Proofs.Ytpoicbhbkabllaa

namespace Go.Proofs.Ytpoicbhbkabllaa
set_option linter.unusedSimpArgs false
set_option linter.unusedVariables false
open Go.RowKit

def predsOf (o : Oper) : List Nat := o.after.toList.filterMap fun e => if Region.binds .any e then some e.on else none
theorem mem_predsOf {o : Oper} {k : Nat} : k ∈ predsOf o ↔ ∃ e ∈ o.after, Region.binds .any e = true ∧ e.on = k := by
  unfold predsOf
  rw [List.mem_filterMap]
  constructor
  · rintro ⟨e, he, h⟩
    split at h
    · exact ⟨e, by simpa using he, ‹_›, by simpa using h⟩
    · cases h
  · rintro ⟨e, he, hb, rfl⟩
    exact ⟨e, by simpa using he, by rw [if_pos hb]⟩
/-- all that an operation waits for, directly and through others -/
def ancs : List Oper → List (List Nat) → List (List Nat)
  | [], acc => acc
  | o :: os, acc => ancs os (acc ++ [(predsOf o ++ (predsOf o).flatMap fun j => acc.getD j []).eraseDups])
def backB (L : List Oper) : Bool := (L.zipIdx).all (fun x => x.1.after.all fun e => !Region.binds .any e || decide (e.on < x.2))
theorem back_spec {L : List Oper} (h : backB L = true) (i : Nat) (o : Oper) (ho : L[i]? = some o) (e : Edge) (he : e ∈ o.after) (hb : Region.binds .any e = true) : e.on < i := by
  have h1 := List.all_eq_true.1 h (o, i) (by
    rw [List.mem_zipIdx_iff_getElem?]; exact ho)
  have h2 := (Array.all_eq_true_iff_forall_mem.1 h1) e he
  simpa [hb] using h2
def guardB (l : List Oper) : Bool := l.all fun o => match o.guard with | none => true | some (j, _) => decide (j < l.length)
theorem guard_spec {l : List Oper} (h : guardB l = true) {i : Nat} {o : Oper} (ho : l[i]? = some o) (j : Nat) (b : Bool) (hg : o.guard = some (j, b)) : j < l.length := by
  have h1 := List.all_eq_true.1 h o (List.mem_of_getElem? ho)
  rw [hg] at h1
  exact of_decide_eq_true h1
def tailB (l l2 : List Oper) : Bool :=
  backB (l ++ l2) && guardB l && (List.range l2.length).all fun k => (List.range (l.length + k)).all fun j => ((ancs (l ++ l2) []).getD (l.length + k) []).contains j
def Closed (L : List Oper) (listed : Array Bool) : Prop :=
  ∀ (i : Nat) (o : Oper), L[i]? = some o → listed.getD i false = true → ∀ e ∈ o.after, Region.binds .any e = true → listed.getD e.on false = true

theorem ancs_spec {L : List Oper} {S : Nat → Prop} (hcl : ∀ (i : Nat) (o : Oper), L[i]? = some o → S i → ∀ k ∈ predsOf o, S k) : ∀ (os : List Oper) (acc : List (List Nat)) (m : Nat), acc.length = m → (∀ j : Nat, os[j]? = L[m + j]?) →
    (∀ (i : Nat) (o : Oper), L[i]? = some o → (∀ k ∈ predsOf o, S k) → ∀ k ∈ acc.getD i [], S k) →
    ∀ (i : Nat) (o : Oper), L[i]? = some o → (∀ k ∈ predsOf o, S k) → ∀ k ∈ (ancs os acc).getD i [], S k
  | [], acc, m, _, _, hacc => hacc
  | o :: os, acc, m, hm, hos, hacc => by
    unfold ancs
    refine ancs_spec hcl os _ (m + 1) (by simp [hm]) (fun j => by have := hos (j + 1); simpa [Nat.add_assoc, Nat.add_comm 1 j] using this) ?_
    intro i oi hoi hp k hk
    rw [List.getD_eq_getElem?_getD, List.getElem?_append] at hk
    split at hk
    · exact hacc i oi hoi hp k (by rw [List.getD_eq_getElem?_getD]; exact hk)
    · rename_i hge
      by_cases hi : i = acc.length
      · subst hi
        simp only [Nat.sub_self, List.getElem?_cons_zero, Option.getD_some, List.mem_eraseDups, List.mem_append, List.mem_flatMap] at hk
        have ho : oi = o := by
          have := hos 0
          rw [Nat.add_zero, ← hm, hoi] at this
          simpa using this.symm
        subst ho
        rcases hk with hk | ⟨j, hj, hk⟩
        · exact hp k hk
        · have hSj := hp j hj
          rcases Nat.lt_or_ge j acc.length with hjl | hjl
          · cases hoj : L[j]? with
            | none =>
              exfalso
              have h1 := List.getElem?_eq_none_iff.1 hoj
              have h2 := (List.getElem?_eq_some_iff.1 hoi).1
              omega
            | some oj => exact hacc j oj hoj (hcl j oj hoj hSj) k hk
          · rw [List.getD_eq_getElem?_getD, List.getElem?_eq_none hjl] at hk
            simp at hk
      · have : 1 ≤ i - acc.length := by omega
        rw [List.getElem?_eq_none (by simpa using this)] at hk
        simp at hk
theorem tail_anc {l l2 : List Oper} (ht : tailB l l2 = true) (listed : Array Bool) (hcl : Closed (l ++ l2) listed) (i : Nat) (o : Oper) (ho : (l ++ l2)[i]? = some o) (hi : l.length ≤ i)
    (hp : ∀ e ∈ o.after, Region.binds .any e = true → listed.getD e.on false = true) : ∀ k, k < i → listed.getD k false = true := by
  intro k hk
  have hil : i < l.length + l2.length := by
    have := (List.getElem?_eq_some_iff.1 ho).1
    simpa using this
  simp only [tailB, Bool.and_eq_true] at ht
  have h1 := List.all_eq_true.1 ht.2 (i - l.length) (by rw [List.mem_range]; omega)
  have h2 := List.all_eq_true.1 h1 k (by rw [List.mem_range]; omega)
  rw [show l.length + (i - l.length) = i by omega] at h2
  refine ancs_spec (L := l ++ l2) (S := fun k => listed.getD k false = true) (fun i o ho hS k hk => ?_) (l ++ l2) [] 0 rfl (by simp) (by simp) i o ho (fun k hk => ?_) k (by simpa using h2)
  · obtain ⟨e, he, hb, rfl⟩ := mem_predsOf.1 hk
    exact hcl i o ho hS e he hb
  · obtain ⟨e, he, hb, rfl⟩ := mem_predsOf.1 hk
    exact hp e he hb
theorem yielded_iff2 (l l2 : List Oper) (dl : List (Option Nat)) (hdl : l.map (·.dst) = dl) (ds : List Nat) (f : Nat → Value) (a : Act) (h : ∀ d ∈ ds, d < a.tmps.size) (hds : ∀ d, some d ∈ dl → d ∈ ds) (g : Option (Nat × Bool)) (o : Oper) (hg : o.guard = g)
    (hgl : ∀ j b, g = some (j, b) → j < l.length) :
    Region.wanted o (yielded (l ++ l2).toArray (fills ds f a).tmps) = true ↔ Gd dl f g := by
  rw [← yielded_iff l.toArray dl (by simpa using hdl) ds f a h hds g o hg]
  unfold Region.wanted
  subst hg
  cases hgd : o.guard with
  | none => simp
  | some x =>
    obtain ⟨j, want⟩ := x
    have := hgl j want hgd
    simp only [yielded]
    rw [show (l ++ l2).toArray[j]? = l.toArray[j]? from by simp [List.getElem?_append_left this]]
section
variable {P : Program} {l : List Oper} {dl : List (Option Nat)} {Φ : List Ph} {a : Act} {w : World} {Q : Exit → Act → World → Prop}
theorem lex_tail {l2 : List Oper} (hback : backB (l ++ l2) = true) (hanc : ∀ (listed : Array Bool), Closed (l ++ l2) listed → ∀ (i : Nat) (o : Oper), (l ++ l2)[i]? = some o → l.length ≤ i → (∀ e ∈ o.after, Region.binds .any e = true → listed.getD e.on false = true) → ∀ k, k < i → listed.getD k false = true) :
    ∀ (rest : List Oper) (m : Nat) (listed : Array Bool), l.length ≤ m → (∀ j : Nat, rest[j]? = (l ++ l2)[m + j]?) → m + rest.length = (l ++ l2).length → listed.size = (l ++ l2).length → (∀ i, i < m → listed.getD i false = true) →
      (∀ i, m ≤ i → i < (l ++ l2).length → listed.getD i false = false) →
      ∀ {a : Act} {w : World}, wpList P (l ++ l2).toArray Q rest a w → wpAny P .any (l ++ l2).toArray Q rest.length listed a w
  | [], m, listed, hlm, hos, hml, hs, hlow, hhigh, a, w, h => by
    refine ⟨?_, h⟩
    rw [List.eq_nil_iff_forall_not_mem]
    intro i hi
    obtain ⟨h1, o, ho, _⟩ := mem_ready.1 hi
    have hil : i < (l ++ l2).length := by
      have := (Array.getElem?_eq_some_iff.1 ho).1
      simpa using this
    have h2 := hlow i (by simpa [← hml] using hil)
    rw [Array.getD_eq_getD_getElem?, Array.getElem?_eq_getElem (by omega)] at h1 h2
    simp at h1 h2
    rw [h1] at h2
    cases h2
  | o :: rest, m, listed, hlm, hos, hml, hs, hlow, hhigh, a, w, h => by
    have hm0 : (l ++ l2)[m]? = some o := by have := hos 0; simpa using this.symm
    have hmlt : m < (l ++ l2).length := (List.getElem?_eq_some_iff.1 hm0).1
    have hclo : Closed (l ++ l2) listed := by
      intro i oi hoi hl e he hb
      have hil : i < (l ++ l2).length := (List.getElem?_eq_some_iff.1 hoi).1
      have him : i < m := by
        rcases Nat.lt_or_ge i m with h | h
        · exact h
        · rw [hhigh i h hil] at hl; cases hl
      exact hlow e.on (Nat.lt_trans (back_spec hback i oi hoi e he hb) him)
    have hready : m ∈ Region.ready .any (l ++ l2).toArray listed := by
      rw [mem_ready]
      refine ⟨?_, o, by simpa using hm0, fun e he hb => hlow e.on (back_spec hback m o hm0 e he hb)⟩
      have := hhigh m (Nat.le_refl _) hmlt
      rw [Array.getD_eq_getD_getElem?] at this ⊢
      rw [Array.getElem?_eq_getElem (by omega)] at this ⊢
      exact this
    rw [List.length_cons]
    refine ⟨fun h0 => ?_, fun i hi => ?_⟩
    · rw [h0] at hready; cases hready
    · obtain ⟨hun, oi, hoi, hpre⟩ := mem_ready.1 hi
      have hoi' : (l ++ l2)[i]? = some oi := by simpa using hoi
      have hil : i < (l ++ l2).length := (List.getElem?_eq_some_iff.1 hoi').1
      have him : ¬ i < m := by
        intro h1
        have h2 := hlow i h1
        rw [Array.getD_eq_getD_getElem?, Array.getElem?_eq_getElem (by omega)] at h2 hun
        simp at h2 hun
        rw [hun] at h2
        cases h2
      have hi_eq : i = m := by
        rcases Nat.lt_or_ge m i with h1 | h1
        · have h2 := hanc listed hclo i oi hoi' (by omega) hpre m h1
          rw [hhigh m (Nat.le_refl _) hmlt] at h2
          cases h2
        · omega
      subst hi_eq
      rw [hm0] at hoi'
      injection hoi' with hoi'
      subst hoi'
      have hnext : ∀ a' w', wpList P (l ++ l2).toArray Q rest a' w' → wpAny P .any (l ++ l2).toArray Q rest.length (listed.setIfInBounds i true) a' w' := by
        intro a' w' h'
        refine lex_tail hback hanc rest (i + 1) _ (by omega) (fun j => by have := hos (j + 1); simpa [Nat.add_assoc, Nat.add_comm 1 j] using this) (by simp at hml ⊢; omega) (by simpa using hs) ?_ ?_ h'
        · intro k hk
          by_cases hki : k = i
          · rw [hki, Array.getD_eq_getD_getElem?, Array.getElem?_setIfInBounds_self_of_lt (by omega)]; rfl
          · rw [getD_set_ne false (Ne.symm hki)]; exact hlow k (by omega)
        · intro k h1 h2
          rw [getD_set_ne false (by omega)]; exact hhigh k (by omega) h2
      unfold wpOp
      simp only [hoi]
      unfold wpList at h
      split at h
      · rename_i hw
        rw [if_pos hw]
        rcases h with h | h
        · exact .inl (Oper.wp_mono hnext h)
        · exact .inr h
      · rename_i hw
        rw [if_neg hw]
        exact hnext _ _ h
theorem typed_aux2 {l2 : List Oper} (hdl : l.map (·.dst) = dl) (hn : typedB l a.tmps.size = true) (ht : tailB l l2 = true) (hob : ObAll P dl Φ (dstsOf_ l) a w l Φ)
    (hQ : ∀ f w', Below w.heap.size w w' → PostOf f w' dl Φ → wpList P (l ++ l2).toArray Q l2 (fills (dstsOf_ l) f a) w') :
    ∀ (fuel : Nat) (listed : Array Bool) (rem : List Nat), rem.length = fuel → listed.size = (l ++ l2).length → rem.Nodup → (∀ i, i ∈ rem ↔ i < l.length ∧ listed.getD i true = false) →
      (∀ i, l.length ≤ i → i < (l ++ l2).length → listed.getD i false = false) → Closed (l ++ l2) listed →
      ∀ f w', Below w.heap.size w w' → (∀ i, i < l.length → listed.getD i false = true → factOf dl Φ f w' i) →
      wpAny P .any (l ++ l2).toArray Q (fuel + l2.length) listed (fills (dstsOf_ l) f a) w' := by
  simp only [typedB, Bool.and_eq_true] at hn
  obtain ⟨⟨⟨hnd, hlt⟩, hed⟩, _⟩ := hn
  have hdlg : ∀ i : Nat, dl[i]? = (l[i]?).map (fun (o : Oper) => o.dst) := fun i => by rw [← hdl]; simp
  have hnd := of_decide_eq_true hnd
  have hlt : ∀ d ∈ dstsOf_ l, d < a.tmps.size := fun d hd => of_decide_eq_true (List.all_eq_true.1 hlt d hd)
  have hed : ∀ (i : Nat) (o : Oper), l[i]? = some o → ∀ e ∈ o.after, Region.binds .any e = true → e.on < i := by
    intro i o ho e he hb
    have h1 := List.all_eq_true.1 hed (o, i) (by
      rw [List.mem_zipIdx_iff_getElem?]; exact ho)
    have h2 := (Array.all_eq_true_iff_forall_mem.1 h1) e he
    simpa [hb] using h2
  have hanc := tail_anc ht
  have hback : backB (l ++ l2) = true := by simp only [tailB, Bool.and_eq_true] at ht; exact ht.1.1
  have hguard : guardB l = true := by simp only [tailB, Bool.and_eq_true] at ht; exact ht.1.2
  intro fuel
  induction fuel with
  | zero =>
    intro listed rem hrem hs hnr hmem hhi hcl f w' hb hf
    have hr0 : rem = [] := List.eq_nil_of_length_eq_zero hrem
    have hal : ∀ i, i < l.length → listed.getD i false = true := by
      intro i hi
      rcases hc : listed.getD i false with _ | _
      · exfalso
        have : i ∈ rem := (hmem i).2 ⟨hi, by
          rw [Array.getD_eq_getD_getElem?] at hc ⊢
          rw [Array.getElem?_eq_getElem (by rw [hs, List.length_append]; omega)] at hc ⊢
          exact hc⟩
        rw [hr0] at this
        cases this
      · rfl
    rw [Nat.zero_add]
    refine lex_tail (l := l) hback hanc l2 l.length listed (Nat.le_refl _) (fun j => by rw [List.getElem?_append_right (by omega)]; congr 1; omega) (by simp) hs hal hhi ?_
    refine hQ f w' hb (postOf_mk dl Φ fun i d hd => ?_)
    have hi : i < l.length := by
      have := (List.getElem?_eq_some_iff.1 hd).1
      rw [← hdl] at this
      simpa using this
    have := hf i hi (hal i hi)
    unfold factOf valOf at this
    rw [hd] at this
    cases d <;> exact this
  | succ fuel ih =>
    intro listed rem hrem hs hnr hmem hhi hcl f w' hb hf
    rw [show fuel + 1 + l2.length = (fuel + l2.length) + 1 by omega]
    refine ⟨fun h => ?_, fun i hi => ?_⟩
    · exfalso
      -- the least one that has not come up may come up
      have hno : ∀ i, i < l.length → listed.getD i false = true := by
        intro i
        induction i using Nat.strongRecOn with
        | _ i ih =>
          intro hi
          rcases hc : listed.getD i false with _ | _
          · exfalso
            have hm : i ∈ Region.ready .any (l ++ l2).toArray listed := by
              rw [mem_ready]
              refine ⟨?_, l[i], by simp [List.getElem?_append_left hi, hi], fun e he hb => ?_⟩
              · rw [Array.getD_eq_getD_getElem?] at hc ⊢
                rw [Array.getElem?_eq_getElem (by rw [hs, List.length_append]; omega)] at hc ⊢
                exact hc
              · have := hed i l[i] (by simp [hi]) e he hb
                exact ih e.on this (by omega)
            rw [h] at hm
            cases hm
          · rfl
      obtain ⟨k, hk⟩ : ∃ k, k ∈ rem := by
        cases rem with
        | nil => simp at hrem
        | cons x _ => exact ⟨x, List.mem_cons_self ..⟩
      obtain ⟨hk1, hk2⟩ := (hmem k).1 hk
      have h1 := hno k hk1
      rw [Array.getD_eq_getD_getElem?, Array.getElem?_eq_getElem (by rw [hs, List.length_append]; omega)] at h1 hk2
      simp at h1 hk2
      rw [h1] at hk2
      cases hk2
    obtain ⟨hun, o, ho, hpre⟩ := mem_ready.1 hi
    have hil : i < l.length := by
      rcases Nat.lt_or_ge i l.length with h | h
      · exact h
      · exfalso
        have hall := hanc listed hcl i o (by simpa using ho) h hpre
        obtain ⟨k, hk⟩ : ∃ k, k ∈ rem := by
          cases rem with
          | nil => simp at hrem
          | cons x _ => exact ⟨x, List.mem_cons_self ..⟩
        obtain ⟨hk1, hk2⟩ := (hmem k).1 hk
        have h1 := hall k (by omega)
        rw [Array.getD_eq_getD_getElem?, Array.getElem?_eq_getElem (by rw [hs, List.length_append]; omega)] at h1 hk2
        simp at h1 hk2
        rw [h1] at hk2
        cases hk2
    have hol : l[i]? = some o := by
      have h1 : (l ++ l2)[i]? = some o := by simpa using ho
      rwa [List.getElem?_append_left hil] at h1
    have hcl2 : Closed (l ++ l2) (listed.setIfInBounds i true) := by
      intro k ok hok hlk e he hbd
      by_cases hki : k = i
      · subst hki
        have h1 : (l ++ l2)[k]? = some o := by simpa using ho
        rw [h1] at hok
        injection hok with hok
        subst hok
        have h2 := hpre e he hbd
        by_cases hei : e.on = k
        · rw [hei] at h2 ⊢; rw [Array.getD_eq_getD_getElem?, Array.getElem?_setIfInBounds_self_of_lt (by rw [hs, List.length_append]; omega)]; rfl
        · rw [getD_set_ne false (Ne.symm hei)]; exact h2
      · rw [getD_set_ne false (Ne.symm hki)] at hlk
        have h2 := hcl k ok hok hlk e he hbd
        by_cases hei : e.on = i
        · rw [hei, Array.getD_eq_getD_getElem?, Array.getElem?_setIfInBounds_self_of_lt (by rw [hs, List.length_append]; omega)]; rfl
        · rw [getD_set_ne false (Ne.symm hei)]; exact h2
    have hhi2 : ∀ k, l.length ≤ k → k < (l ++ l2).length → (listed.setIfInBounds i true).getD k false = false := by
      intro k h1 h2
      rw [getD_set_ne false (by omega)]
      exact hhi k h1 h2
    have hp : PreOf dl Φ f w' o.after.toList := preOf_mk _ fun e he hbd => by
      have he' : e ∈ o.after := by simpa using he
      have hlist := hpre e he' hbd
      exact hf e.on (Nat.lt_trans (hed i o hol e he' hbd) hil) hlist
    have hone := obAll_get l Φ hob i o hol f w' hb hp
    have hgd := yielded_iff2 l l2 dl hdl (dstsOf_ l) f a hlt (fun d hd => by
      rw [← hdl] at hd
      obtain ⟨oo, h1, h2⟩ := List.mem_map.1 hd
      exact List.mem_filterMap.2 ⟨oo, h1, h2⟩) o.guard o rfl (fun j b hg => guard_spec hguard hol j b hg)
    -- what follows once the value is there
    have hnext : ∀ v w'', Below w'.heap.size w' w'' → (Φ.getD i default).p (dstVal o.dst v) w'' →
        wpAny P .any (l ++ l2).toArray Q (fuel + l2.length) (listed.setIfInBounds i true) ((fills (dstsOf_ l) f a).put o.dst v) w'' := by
      intro v w'' hb' hv
      have hrem' : (rem.erase i).length = fuel := by
        have : i ∈ rem := (hmem i).2 ⟨hil, hun⟩
        rw [List.length_erase_of_mem this]; omega
      have hmem' : ∀ k, k ∈ rem.erase i ↔ k < l.length ∧ (listed.setIfInBounds i true).getD k true = false := by
        intro k
        rw [hnr.mem_erase_iff, hmem]
        by_cases hk : k = i
        · subst hk
          simp only [ne_eq, not_true, false_and, false_iff, not_and]
          intro hk
          rw [Array.getD_eq_getD_getElem?, Array.getElem?_setIfInBounds_self_of_lt (by rw [hs, List.length_append]; omega)]
          simp
        · rw [getD_set_ne true (Ne.symm hk)]
          simp [hk]
      have hst : ∀ k, k < l.length → k ≠ i → (listed.setIfInBounds i true).getD k false = true → listed.getD k false = true := by
        intro k _ hk h
        rw [getD_set_ne false (Ne.symm hk)] at h
        exact h
      cases hd : o.dst with
      | none =>
        show wpAny P .any (l ++ l2).toArray Q (fuel + l2.length) _ (fills (dstsOf_ l) f a) w''
        refine ih _ (rem.erase i) hrem' (by simpa using hs) (hnr.erase i) hmem' hhi2 hcl2 f w'' (hb.trans (hb'.mono hb.size)) fun k hk hl => ?_
        by_cases hki : k = i
        · subst hki
          unfold factOf valOf
          rw [hdlg, hol]
          simp only [Option.map_some, hd]
          simpa [hd] using hv
        · exact (Φ.getD k default).st _ _ _ (hf k hk (hst k hk hki hl)) hb'
      | some d =>
        have hdm : d ∈ dstsOf_ l := List.mem_filterMap.2 ⟨o, List.mem_of_getElem? hol, hd⟩
        rw [fills_put _ _ _ _ _ hdm]
        refine ih _ (rem.erase i) hrem' (by simpa using hs) (hnr.erase i) hmem' hhi2 hcl2 _ w'' (hb.trans (hb'.mono hb.size)) fun k hk hl => ?_
        by_cases hki : k = i
        · subst hki
          unfold factOf valOf
          rw [hdlg, hol]
          simp only [Option.map_some, hd]
          simpa [hd] using hv
        · have h0 := (Φ.getD k default).st _ _ _ (hf k hk (hst k hk hki hl)) hb'
          unfold factOf
          have hval : valOf dl (fun t => if t = d then v else f t) k = valOf dl f k := by
            unfold valOf
            rw [hdlg]
            cases hok : l[k]? with
            | none => rfl
            | some ok =>
              cases hdk : ok.dst with
              | none => simp [hdk]
              | some dk =>
                simp only [Option.map_some, hdk]
                rw [if_neg]
                intro e
                subst e
                -- two operations with one slot
                have h3 : (dstsOf_ l).Nodup := hnd
                have : ∀ (m : List Oper) (x y : Nat) (ox oy : Oper), (m.filterMap (·.dst)).Nodup → m[x]? = some ox → m[y]? = some oy → ox.dst = some dk → oy.dst = some dk → x = y := by
                  intro m
                  induction m with
                  | nil => intro x y ox oy _ hx; simp at hx
                  | cons q m ihm =>
                    intro x y ox oy hnd hx hy hdx hdy
                    cases x with
                    | zero =>
                      cases y with
                      | zero => rfl
                      | succ y =>
                        exfalso
                        simp at hx hy
                        subst hx
                        simp only [List.filterMap_cons, hdx] at hnd
                        exact (List.nodup_cons.1 hnd).1 (List.mem_filterMap.2 ⟨oy, List.mem_of_getElem? hy, hdy⟩)
                    | succ x =>
                      cases y with
                      | zero =>
                        exfalso
                        simp at hx hy
                        subst hy
                        simp only [List.filterMap_cons, hdy] at hnd
                        exact (List.nodup_cons.1 hnd).1 (List.mem_filterMap.2 ⟨ox, List.mem_of_getElem? hx, hdx⟩)
                      | succ y =>
                        simp at hx hy
                        have : (m.filterMap (·.dst)).Nodup := by
                          simp only [List.filterMap_cons] at hnd
                          cases hq : q.dst with
                          | none => simpa [hq] using hnd
                          | some _ => simp only [hq] at hnd; exact (List.nodup_cons.1 hnd).2
                        rw [ihm x y ox oy this hx hy hdx hdy]
                exact hki (this l k i ok o h3 hok hol hdk hd)
          rw [hval]
          exact h0
    unfold wpOp
    simp only [ho]
    by_cases hw : Region.wanted o (yielded (l ++ l2).toArray (fills (dstsOf_ l) f a).tmps) = true
    · replace hone := hone.1 (hgd.1 hw)
      simp only [hw, if_true]
      left
      unfold Oper.wp
      rw [evalF_fills f hlt]
      generalize (execOp (evalF (dstsOf_ l) f a) o).run P w' = r at *
      cases r with
      | ok n w'' =>
        cases n <;> simp only [mildUpon] at hone <;> simp only [Oper.upon]
        case value u =>
          exact hnext u w'' hone.1 hone.2
        case skip =>
          refine hnext undef w'' hone.1 ?_
          cases o.dst <;> exact hone.2
        case enter f' args =>
          refine hone.mono ?_
          rintro e w3 ⟨v, rfl, hb3, hv⟩
          exact hnext v w3 hb3 hv
      | halt x w'' => simp only [mildUpon] at hone
    · replace hone := hone.2 (fun h => hw (hgd.2 h))
      simp only [hw]
      refine hnext undef w' (Below.refl _ _) ?_
      cases o.dst <;> exact hone

/-- THE LAW: a region that draws its order; n: how many operations come ahead of the end that waits for all. -/
theorem wp_region_tail {id : Nat} {L : List Oper} {ds : List Nat} (n : Nat) (dl : List (Option Nat)) (Φ : List Ph) (hdl : (L.take n).map (·.dst) = dl) (hds : dstsOf_ (L.take n) = ds) (hm : P.follows .mixedOrders = true)
    (hn : typedB (L.take n) a.tmps.size = true) (ht : tailB (L.take n) (L.drop n) = true) (hob : ObAll P dl Φ ds a w (L.take n) Φ)
    (hQ : ∀ f w', Below w.heap.size w w' → PostOf f w' dl Φ → wpList P L.toArray Q (L.drop n) (fills ds f a) w') : (Code.region id L.toArray true).wp P Q a w := by
  subst hds
  refine wp_region_any hm ?_
  have hL : L.take n ++ L.drop n = L := List.take_append_drop n L
  have := typed_aux2 (l2 := L.drop n) hdl hn ht hob (by rw [hL]; exact hQ) (L.take n).length (Array.replicate L.length false) (List.range (L.take n).length) (by simp) (by rw [hL]; simp) List.nodup_range (by
    intro i
    simp only [List.mem_range, Array.getD_eq_getD_getElem?]
    constructor
    · intro h; exact ⟨h, by
        have : i < L.length := by rw [List.length_take] at h; omega
        simp [this]⟩
    · exact fun h => h.1) (by
    intro i _ hi
    rw [hL] at hi
    simp [Array.getD_eq_getD_getElem?, hi]) (by
    intro i o _ hl
    exfalso
    simp [Array.getD_eq_getD_getElem?, Array.getElem?_replicate] at hl
    split at hl <;> simp at hl) (fun t => a.tmps.getD t undef) { w with drawn := w.drawn + 1 } ((Below.refl _ w).drew) (by
    intro i hi h
    exfalso
    simp [Array.getD_eq_getD_getElem?, Array.getElem?_replicate] at h
    split at h <;> simp at h)
  rw [fills_self, hL] at this
  have hlen : (L.take n).length + (L.drop n).length = L.toArray.size := by rw [← List.length_append, hL]; simp
  rw [hlen] at this
  exact this
end
end Go.Proofs.Ytpoicbhbkabllaa

namespace Go.Proofs.Ytpoicbhbkabllaa
set_option linter.unusedSimpArgs false
set_option linter.unusedVariables false
open Go.RowKit

def factO (dl : List (Option Nat)) (Φ : List (Value → Prop)) (f : Nat → Value) (j : Nat) : Prop := (Φ.getD j fun _ => True) (valOf dl f j)
def PreO (dl : List (Option Nat)) (Φ : List (Value → Prop)) (f : Nat → Value) : List Edge → Prop
  | [] => True
  | e :: es => (if Region.binds .any e then factO dl Φ f e.on else True) ∧ PreO dl Φ f es
def PostO (f : Nat → Value) : List (Option Nat) → List (Value → Prop) → Prop
  | [], _ => True
  | _ :: _, [] => True
  | d :: os, ph :: phs => ph (match d with | some d => f d | none => undef) ∧ PostO f os phs
theorem preO_mk {dl : List (Option Nat)} {Φ : List (Value → Prop)} {f : Nat → Value} : ∀ (es : List Edge), (∀ e ∈ es, Region.binds .any e = true → factO dl Φ f e.on) → PreO dl Φ f es
  | [], _ => trivial
  | e :: es, h => by
    refine ⟨?_, preO_mk es fun x hx => h x (List.mem_cons_of_mem _ hx)⟩
    split
    · exact h e (List.mem_cons_self ..) ‹_›
    · trivial
theorem postO_mk {f : Nat → Value} : ∀ (os : List (Option Nat)) (phs : List (Value → Prop)),
    (∀ (i : Nat) (d : Option Nat), os[i]? = some d → (phs.getD i fun _ => True) (match d with | some d => f d | none => undef)) → PostO f os phs
  | [], _, _ => by simp [PostO]
  | _ :: _, [], _ => by simp [PostO]
  | d :: os, ph :: phs, h => ⟨h 0 d rfl, postO_mk os phs fun i d hd => by simpa using h (i + 1) d (by simpa using hd)⟩
/-- how one operation may run: all but number s read alone; number s is a call -/
def mildO (P : Program) (w' : World) (d : Option Nat) (ph : Value → Prop) (i s : Nat) (J : Bool → Value → World → Prop) : Result Next → Prop
  | .ok (.value u) w'' => i ≠ s ∧ w'' = w' ∧ ph (dstVal d u)
  | .ok (.enter f args) w'' => i = s ∧ Calls P f args w'' (fun e w3 => ∃ v, e = .returned v ∧ J true (dstVal d v) w3 ∧ ph (dstVal d v))
  | _ => False
def ObO (P : Program) (dl : List (Option Nat)) (Φ : List (Value → Prop)) (ds : List Nat) (a : Act) (s : Nat) (J : Bool → Value → World → Prop) (i : Nat) (ph : Value → Prop) (o : Oper) : Prop :=
  ∀ f b w', J b (valOf dl f s) w' → (i = s → b = false) → PreO dl Φ f o.after.toList →
    (Gd dl f o.guard → mildO P w' o.dst ph i s J ((execOp (evalF ds f a) o).run P w')) ∧ (¬ Gd dl f o.guard → ph undef ∧ i ≠ s)

section
variable {P : Program} {l : List Oper} {dl : List (Option Nat)} {Φ : List (Value → Prop)} {a : Act} {w : World} {Q : Exit → Act → World → Prop} {s : Nat} {J : Bool → Value → World → Prop}
theorem one_aux {l2 : List Oper} (hs0 : s < l.length) (hdl : l.map (·.dst) = dl) (hn : typedB l a.tmps.size = true) (ht : tailB l l2 = true) (hob : ∀ (i : Nat) (o : Oper), l[i]? = some o → ObO P dl Φ (dstsOf_ l) a s J i (Φ.getD i fun _ => True) o)
    (hQ : ∀ f w', J true (valOf dl f s) w' → PostO f dl Φ → wpList P (l ++ l2).toArray Q l2 (fills (dstsOf_ l) f a) w') :
    ∀ (fuel : Nat) (listed : Array Bool) (rem : List Nat), rem.length = fuel → listed.size = (l ++ l2).length → rem.Nodup → (∀ i, i ∈ rem ↔ i < l.length ∧ listed.getD i true = false) →
      (∀ i, l.length ≤ i → i < (l ++ l2).length → listed.getD i false = false) → Closed (l ++ l2) listed →
      ∀ f w', J (listed.getD s false) (valOf dl f s) w' → (∀ i, i < l.length → listed.getD i false = true → factO dl Φ f i) →
      wpAny P .any (l ++ l2).toArray Q (fuel + l2.length) listed (fills (dstsOf_ l) f a) w' := by
  simp only [typedB, Bool.and_eq_true] at hn
  obtain ⟨⟨⟨hnd, hlt⟩, hed⟩, _⟩ := hn
  have hdlg : ∀ i : Nat, dl[i]? = (l[i]?).map (fun (o : Oper) => o.dst) := fun i => by rw [← hdl]; simp
  have hnd := of_decide_eq_true hnd
  have hlt : ∀ d ∈ dstsOf_ l, d < a.tmps.size := fun d hd => of_decide_eq_true (List.all_eq_true.1 hlt d hd)
  have hed : ∀ (i : Nat) (o : Oper), l[i]? = some o → ∀ e ∈ o.after, Region.binds .any e = true → e.on < i := by
    intro i o ho e he hb
    have h1 := List.all_eq_true.1 hed (o, i) (by
      rw [List.mem_zipIdx_iff_getElem?]; exact ho)
    have h2 := (Array.all_eq_true_iff_forall_mem.1 h1) e he
    simpa [hb] using h2
  have hanc := tail_anc ht
  have hback : backB (l ++ l2) = true := by simp only [tailB, Bool.and_eq_true] at ht; exact ht.1.1
  have hguard : guardB l = true := by simp only [tailB, Bool.and_eq_true] at ht; exact ht.1.2
  intro fuel
  induction fuel with
  | zero =>
    intro listed rem hrem hs hnr hmem hhi hcl f w' hb hf
    have hr0 : rem = [] := List.eq_nil_of_length_eq_zero hrem
    have hal : ∀ i, i < l.length → listed.getD i false = true := by
      intro i hi
      rcases hc : listed.getD i false with _ | _
      · exfalso
        have : i ∈ rem := (hmem i).2 ⟨hi, by
          rw [Array.getD_eq_getD_getElem?] at hc ⊢
          rw [Array.getElem?_eq_getElem (by rw [hs, List.length_append]; omega)] at hc ⊢
          exact hc⟩
        rw [hr0] at this
        cases this
      · rfl
    rw [Nat.zero_add]
    refine lex_tail (l := l) hback hanc l2 l.length listed (Nat.le_refl _) (fun j => by rw [List.getElem?_append_right (by omega)]; congr 1; omega) (by simp) hs hal hhi ?_
    rw [hal s hs0] at hb
    refine hQ f w' hb (postO_mk dl Φ fun i d hd => ?_)
    have hi : i < l.length := by
      have := (List.getElem?_eq_some_iff.1 hd).1
      rw [← hdl] at this
      simpa using this
    have := hf i hi (hal i hi)
    unfold factO valOf at this
    rw [hd] at this
    cases d <;> exact this
  | succ fuel ih =>
    intro listed rem hrem hs hnr hmem hhi hcl f w' hb hf
    rw [show fuel + 1 + l2.length = (fuel + l2.length) + 1 by omega]
    refine ⟨fun h => ?_, fun i hi => ?_⟩
    · exfalso
      -- the least one that has not come up may come up
      have hno : ∀ i, i < l.length → listed.getD i false = true := by
        intro i
        induction i using Nat.strongRecOn with
        | _ i ih =>
          intro hi
          rcases hc : listed.getD i false with _ | _
          · exfalso
            have hm : i ∈ Region.ready .any (l ++ l2).toArray listed := by
              rw [mem_ready]
              refine ⟨?_, l[i], by simp [List.getElem?_append_left hi, hi], fun e he hb => ?_⟩
              · rw [Array.getD_eq_getD_getElem?] at hc ⊢
                rw [Array.getElem?_eq_getElem (by rw [hs, List.length_append]; omega)] at hc ⊢
                exact hc
              · have := hed i l[i] (by simp [hi]) e he hb
                exact ih e.on this (by omega)
            rw [h] at hm
            cases hm
          · rfl
      obtain ⟨k, hk⟩ : ∃ k, k ∈ rem := by
        cases rem with
        | nil => simp at hrem
        | cons x _ => exact ⟨x, List.mem_cons_self ..⟩
      obtain ⟨hk1, hk2⟩ := (hmem k).1 hk
      have h1 := hno k hk1
      rw [Array.getD_eq_getD_getElem?, Array.getElem?_eq_getElem (by rw [hs, List.length_append]; omega)] at h1 hk2
      simp at h1 hk2
      rw [h1] at hk2
      cases hk2
    obtain ⟨hun, o, ho, hpre⟩ := mem_ready.1 hi
    have hil : i < l.length := by
      rcases Nat.lt_or_ge i l.length with h | h
      · exact h
      · exfalso
        have hall := hanc listed hcl i o (by simpa using ho) h hpre
        obtain ⟨k, hk⟩ : ∃ k, k ∈ rem := by
          cases rem with
          | nil => simp at hrem
          | cons x _ => exact ⟨x, List.mem_cons_self ..⟩
        obtain ⟨hk1, hk2⟩ := (hmem k).1 hk
        have h1 := hall k (by omega)
        rw [Array.getD_eq_getD_getElem?, Array.getElem?_eq_getElem (by rw [hs, List.length_append]; omega)] at h1 hk2
        simp at h1 hk2
        rw [h1] at hk2
        cases hk2
    have hol : l[i]? = some o := by
      have h1 : (l ++ l2)[i]? = some o := by simpa using ho
      rwa [List.getElem?_append_left hil] at h1
    have hcl2 : Closed (l ++ l2) (listed.setIfInBounds i true) := by
      intro k ok hok hlk e he hbd
      by_cases hki : k = i
      · subst hki
        have h1 : (l ++ l2)[k]? = some o := by simpa using ho
        rw [h1] at hok
        injection hok with hok
        subst hok
        have h2 := hpre e he hbd
        by_cases hei : e.on = k
        · rw [hei] at h2 ⊢; rw [Array.getD_eq_getD_getElem?, Array.getElem?_setIfInBounds_self_of_lt (by rw [hs, List.length_append]; omega)]; rfl
        · rw [getD_set_ne false (Ne.symm hei)]; exact h2
      · rw [getD_set_ne false (Ne.symm hki)] at hlk
        have h2 := hcl k ok hok hlk e he hbd
        by_cases hei : e.on = i
        · rw [hei, Array.getD_eq_getD_getElem?, Array.getElem?_setIfInBounds_self_of_lt (by rw [hs, List.length_append]; omega)]; rfl
        · rw [getD_set_ne false (Ne.symm hei)]; exact h2
    have hhi2 : ∀ k, l.length ≤ k → k < (l ++ l2).length → (listed.setIfInBounds i true).getD k false = false := by
      intro k h1 h2
      rw [getD_set_ne false (by omega)]
      exact hhi k h1 h2
    have hp : PreO dl Φ f o.after.toList := preO_mk _ fun e he hbd => by
      have he' : e ∈ o.after := by simpa using he
      have hlist := hpre e he' hbd
      exact hf e.on (Nat.lt_trans (hed i o hol e he' hbd) hil) hlist
    have huf : listed.getD i false = false := by
      rw [Array.getD_eq_getD_getElem?] at hun ⊢
      rw [Array.getElem?_eq_getElem (by rw [hs, List.length_append]; omega)] at hun ⊢
      exact hun
    have hone := hob i o hol f (listed.getD s false) w' hb (fun e => by subst e; exact huf) hp
    have hgd := yielded_iff2 l l2 dl hdl (dstsOf_ l) f a hlt (fun d hd => by
      rw [← hdl] at hd
      obtain ⟨oo, h1, h2⟩ := List.mem_map.1 hd
      exact List.mem_filterMap.2 ⟨oo, h1, h2⟩) o.guard o rfl (fun j b hg => guard_spec hguard hol j b hg)
    have hval : ∀ (d : Nat), o.dst = some d → ∀ v k, k ≠ i → valOf dl (fun t => if t = d then v else f t) k = valOf dl f k := by
      intro d hd v k hki
      unfold valOf
      rw [hdlg]
      cases hok : l[k]? with
      | none => rfl
      | some ok =>
        cases hdk : ok.dst with
        | none => simp [hdk]
        | some dk =>
          simp only [Option.map_some, hdk]
          rw [if_neg]
          intro e
          subst e
          have h3 : (dstsOf_ l).Nodup := hnd
          have : ∀ (m : List Oper) (x y : Nat) (ox oy : Oper), (m.filterMap (·.dst)).Nodup → m[x]? = some ox → m[y]? = some oy → ox.dst = some dk → oy.dst = some dk → x = y := by
            intro m
            induction m with
            | nil => intro x y ox oy _ hx; simp at hx
            | cons q m ihm =>
              intro x y ox oy hnd hx hy hdx hdy
              cases x with
              | zero =>
                cases y with
                | zero => rfl
                | succ y =>
                  exfalso
                  simp at hx hy
                  subst hx
                  simp only [List.filterMap_cons, hdx] at hnd
                  exact (List.nodup_cons.1 hnd).1 (List.mem_filterMap.2 ⟨oy, List.mem_of_getElem? hy, hdy⟩)
              | succ x =>
                cases y with
                | zero =>
                  exfalso
                  simp at hx hy
                  subst hy
                  simp only [List.filterMap_cons, hdy] at hnd
                  exact (List.nodup_cons.1 hnd).1 (List.mem_filterMap.2 ⟨ox, List.mem_of_getElem? hx, hdx⟩)
                | succ y =>
                  simp at hx hy
                  have : (m.filterMap (·.dst)).Nodup := by
                    simp only [List.filterMap_cons] at hnd
                    cases hq : q.dst with
                    | none => simpa [hq] using hnd
                    | some _ => simp only [hq] at hnd; exact (List.nodup_cons.1 hnd).2
                  rw [ihm x y ox oy this hx hy hdx hdy]
          exact hki (this l k i ok o h3 hok hol hdk hd)
    -- what follows once the value is there
    have hnext : ∀ v w'', J ((listed.setIfInBounds i true).getD s false) (if s = i then dstVal o.dst v else valOf dl f s) w'' → (Φ.getD i fun _ => True) (dstVal o.dst v) →
        wpAny P .any (l ++ l2).toArray Q (fuel + l2.length) (listed.setIfInBounds i true) ((fills (dstsOf_ l) f a).put o.dst v) w'' := by
      intro v w'' hb' hv
      have hrem' : (rem.erase i).length = fuel := by
        have : i ∈ rem := (hmem i).2 ⟨hil, hun⟩
        rw [List.length_erase_of_mem this]; omega
      have hmem' : ∀ k, k ∈ rem.erase i ↔ k < l.length ∧ (listed.setIfInBounds i true).getD k true = false := by
        intro k
        rw [hnr.mem_erase_iff, hmem]
        by_cases hk : k = i
        · subst hk
          simp only [ne_eq, not_true, false_and, false_iff, not_and]
          intro hk
          rw [Array.getD_eq_getD_getElem?, Array.getElem?_setIfInBounds_self_of_lt (by rw [hs, List.length_append]; omega)]
          simp
        · rw [getD_set_ne true (Ne.symm hk)]
          simp [hk]
      have hst : ∀ k, k < l.length → k ≠ i → (listed.setIfInBounds i true).getD k false = true → listed.getD k false = true := by
        intro k _ hk h
        rw [getD_set_ne false (Ne.symm hk)] at h
        exact h
      cases hd : o.dst with
      | none =>
        show wpAny P .any (l ++ l2).toArray Q (fuel + l2.length) _ (fills (dstsOf_ l) f a) w''
        refine ih _ (rem.erase i) hrem' (by simpa using hs) (hnr.erase i) hmem' hhi2 hcl2 f w'' ?_ fun k hk hl => ?_
        · by_cases hsi : s = i
          · rw [if_pos hsi] at hb'
            have : valOf dl f s = dstVal o.dst v := by
              unfold valOf
              rw [hdlg, hsi, hol]
              simp only [Option.map_some, hd]
              rfl
            rw [this]; exact hb'
          · rw [if_neg hsi] at hb'; exact hb'
        · by_cases hki : k = i
          · subst hki
            unfold factO valOf
            rw [hdlg, hol]
            simp only [Option.map_some, hd]
            simpa [hd] using hv
          · exact hf k hk (hst k hk hki hl)
      | some d =>
        have hdm : d ∈ dstsOf_ l := List.mem_filterMap.2 ⟨o, List.mem_of_getElem? hol, hd⟩
        rw [fills_put _ _ _ _ _ hdm]
        refine ih _ (rem.erase i) hrem' (by simpa using hs) (hnr.erase i) hmem' hhi2 hcl2 _ w'' ?_ fun k hk hl => ?_
        · by_cases hsi : s = i
          · rw [if_pos hsi] at hb'
            have : valOf dl (fun t => if t = d then v else f t) s = dstVal o.dst v := by
              unfold valOf
              rw [hdlg, hsi, hol]
              simp only [Option.map_some, hd]
              simp
            rw [this]; exact hb'
          · rw [if_neg hsi] at hb'
            rw [hval d hd v s hsi]; exact hb'
        · by_cases hki : k = i
          · subst hki
            unfold factO valOf
            rw [hdlg, hol]
            simp only [Option.map_some, hd]
            simpa [hd] using hv
          · have h0 := hf k hk (hst k hk hki hl)
            unfold factO at h0 ⊢
            rw [hval d hd v k hki]
            exact h0
    unfold wpOp
    simp only [ho]
    by_cases hw : Region.wanted o (yielded (l ++ l2).toArray (fills (dstsOf_ l) f a).tmps) = true
    · replace hone := hone.1 (hgd.1 hw)
      simp only [hw, if_true]
      left
      unfold Oper.wp
      rw [evalF_fills f hlt]
      generalize (execOp (evalF (dstsOf_ l) f a) o).run P w' = r at *
      cases r with
      | ok n w'' =>
        cases n <;> simp only [mildO] at hone <;> simp only [Oper.upon]
        case value u =>
          obtain ⟨hne, rfl, hv⟩ := hone
          refine hnext u _ ?_ hv
          rw [if_neg (fun e => hne e.symm), getD_set_ne false hne]
          exact hb
        case enter f' args =>
          obtain ⟨rfl, hone⟩ := hone
          refine hone.mono ?_
          rintro e w3 ⟨v, rfl, hj, hv⟩
          refine hnext v w3 ?_ hv
          rw [if_pos rfl, Array.getD_eq_getD_getElem?, Array.getElem?_setIfInBounds_self_of_lt (by rw [hs, List.length_append]; omega)]
          exact hj
      | halt x w'' => simp only [mildO] at hone
    · replace hone := hone.2 (fun h => hw (hgd.2 h))
      simp only [hw]
      refine hnext undef w' ?_ ?_
      · rw [if_neg (fun e => hone.2 e.symm), getD_set_ne false hone.2]; exact hb
      · cases o.dst <;> exact hone.1

/-- THE LAW: n operations, of which number s changes the world, then the end. -/
theorem wp_region_one {id : Nat} {L : List Oper} {ds : List Nat} (n s : Nat) (J : Bool → Value → World → Prop) (dl : List (Option Nat)) (Φ : List (Value → Prop)) (hsn : s < (L.take n).length) (hdl : (L.take n).map (·.dst) = dl) (hds : dstsOf_ (L.take n) = ds) (hm : P.follows .mixedOrders = true)
    (hn : typedB (L.take n) a.tmps.size = true) (ht : tailB (L.take n) (L.drop n) = true) (hob : ∀ (i : Nat) (o : Oper), (L.take n)[i]? = some o → ObO P dl Φ ds a s J i (Φ.getD i fun _ => True) o) (h0 : ∀ v, J false v w.drew)
    (hQ : ∀ f w', J true (valOf dl f s) w' → PostO f dl Φ → wpList P L.toArray Q (L.drop n) (fills ds f a) w') : (Code.region id L.toArray true).wp P Q a w := by
  subst hds
  refine wp_region_any hm ?_
  have hL : L.take n ++ L.drop n = L := List.take_append_drop n L
  have hf0 : (Array.replicate L.length false).getD s false = false := by
    rw [Array.getD_eq_getD_getElem?, Array.getElem?_replicate]; split <;> rfl
  have := one_aux (l2 := L.drop n) hsn hdl hn ht hob (by rw [hL]; exact hQ) (L.take n).length (Array.replicate L.length false) (List.range (L.take n).length) (by simp) (by rw [hL]; simp) List.nodup_range (by
    intro i
    simp only [List.mem_range, Array.getD_eq_getD_getElem?]
    constructor
    · intro h; exact ⟨h, by
        have : i < L.length := by rw [List.length_take] at h; omega
        simp [this]⟩
    · exact fun h => h.1) (by
    intro i _ hi
    rw [hL] at hi
    simp [Array.getD_eq_getD_getElem?, hi]) (by
    intro i o _ hl
    exfalso
    simp [Array.getD_eq_getD_getElem?, Array.getElem?_replicate] at hl
    split at hl <;> simp at hl) (fun t => a.tmps.getD t undef) { w with drawn := w.drawn + 1 } (by rw [hf0]; exact h0 _) (by
    intro i hi h
    exfalso
    simp [Array.getD_eq_getD_getElem?, Array.getElem?_replicate] at h
    split at h <;> simp at h)
  rw [fills_self, hL] at this
  have hlen : (L.take n).length + (L.drop n).length = L.toArray.size := by rw [← List.length_append, hL]; simp
  rw [hlen] at this
  exact this
end
end Go.Proofs.Ytpoicbhbkabllaa

namespace Go.Proofs.Ytpoicbhbkabllaa
set_option linter.unusedSimpArgs false
set_option linter.unusedVariables false
open Go.RowKit

/-- how one operation may run -/
def mildM (P : Program) (d : Option Nat) (ph : Value → Prop) (i : Nat) (J : (Nat → Bool) → (Nat → Value) → World → Prop) (b : Nat → Bool) (vs : Nat → Value) : Result Next → Prop
  | .ok (.value u) w'' => ph (dstVal d u) ∧ J (fun s => if s = i then true else b s) (fun s => if s = i then dstVal d u else vs s) w''
  | .ok (.enter f args) w'' => Calls P f args w'' (fun e w3 => ∃ v, e = .returned v ∧ ph (dstVal d v) ∧ J (fun s => if s = i then true else b s) (fun s => if s = i then dstVal d v else vs s) w3)
  | _ => False
def ObM (P : Program) (dl : List (Option Nat)) (Φ : List (Value → Prop)) (ds : List Nat) (a : Act) (J : (Nat → Bool) → (Nat → Value) → World → Prop) (i : Nat) (ph : Value → Prop) (o : Oper) : Prop :=
  ∀ f b w', J b (valOf dl f) w' → b i = false → (∀ e ∈ o.after.toList, Region.binds .any e = true → b e.on = true) → PreO dl Φ f o.after.toList →
    (Gd dl f o.guard → mildM P o.dst ph i J b (valOf dl f) ((execOp (evalF ds f a) o).run P w')) ∧
    (¬ Gd dl f o.guard → ph undef ∧ J (fun s => if s = i then true else b s) (fun s => if s = i then undef else valOf dl f s) w')

section
variable {P : Program} {l : List Oper} {dl : List (Option Nat)} {Φ : List (Value → Prop)} {a : Act} {w : World} {Q : Exit → Act → World → Prop} {J : (Nat → Bool) → (Nat → Value) → World → Prop}
theorem mix_aux {l2 : List Oper} (hdl : l.map (·.dst) = dl) (hn : typedB l a.tmps.size = true) (ht : tailB l l2 = true) (hob : ∀ (i : Nat) (o : Oper), l[i]? = some o → ObM P dl Φ (dstsOf_ l) a J i (Φ.getD i fun _ => True) o)
    (hQ : ∀ f b w', (∀ i, i < l.length → b i = true) → J b (valOf dl f) w' → PostO f dl Φ → wpList P (l ++ l2).toArray Q l2 (fills (dstsOf_ l) f a) w') :
    ∀ (fuel : Nat) (listed : Array Bool) (rem : List Nat), rem.length = fuel → listed.size = (l ++ l2).length → rem.Nodup → (∀ i, i ∈ rem ↔ i < l.length ∧ listed.getD i true = false) →
      (∀ i, l.length ≤ i → i < (l ++ l2).length → listed.getD i false = false) → Closed (l ++ l2) listed →
      ∀ f w', J (fun s => listed.getD s false) (valOf dl f) w' → (∀ i, i < l.length → listed.getD i false = true → factO dl Φ f i) →
      wpAny P .any (l ++ l2).toArray Q (fuel + l2.length) listed (fills (dstsOf_ l) f a) w' := by
  simp only [typedB, Bool.and_eq_true] at hn
  obtain ⟨⟨⟨hnd, hlt⟩, hed⟩, _⟩ := hn
  have hdlg : ∀ i : Nat, dl[i]? = (l[i]?).map (fun (o : Oper) => o.dst) := fun i => by rw [← hdl]; simp
  have hnd := of_decide_eq_true hnd
  have hlt : ∀ d ∈ dstsOf_ l, d < a.tmps.size := fun d hd => of_decide_eq_true (List.all_eq_true.1 hlt d hd)
  have hed : ∀ (i : Nat) (o : Oper), l[i]? = some o → ∀ e ∈ o.after, Region.binds .any e = true → e.on < i := by
    intro i o ho e he hb
    have h1 := List.all_eq_true.1 hed (o, i) (by
      rw [List.mem_zipIdx_iff_getElem?]; exact ho)
    have h2 := (Array.all_eq_true_iff_forall_mem.1 h1) e he
    simpa [hb] using h2
  have hanc := tail_anc ht
  have hback : backB (l ++ l2) = true := by simp only [tailB, Bool.and_eq_true] at ht; exact ht.1.1
  have hguard : guardB l = true := by simp only [tailB, Bool.and_eq_true] at ht; exact ht.1.2
  intro fuel
  induction fuel with
  | zero =>
    intro listed rem hrem hs hnr hmem hhi hcl f w' hb hf
    have hr0 : rem = [] := List.eq_nil_of_length_eq_zero hrem
    have hal : ∀ i, i < l.length → listed.getD i false = true := by
      intro i hi
      rcases hc : listed.getD i false with _ | _
      · exfalso
        have : i ∈ rem := (hmem i).2 ⟨hi, by
          rw [Array.getD_eq_getD_getElem?] at hc ⊢
          rw [Array.getElem?_eq_getElem (by rw [hs, List.length_append]; omega)] at hc ⊢
          exact hc⟩
        rw [hr0] at this
        cases this
      · rfl
    rw [Nat.zero_add]
    refine lex_tail (l := l) hback hanc l2 l.length listed (Nat.le_refl _) (fun j => by rw [List.getElem?_append_right (by omega)]; congr 1; omega) (by simp) hs hal hhi ?_
    refine hQ f _ w' hal hb (postO_mk dl Φ fun i d hd => ?_)
    have hi : i < l.length := by
      have := (List.getElem?_eq_some_iff.1 hd).1
      rw [← hdl] at this
      simpa using this
    have := hf i hi (hal i hi)
    unfold factO valOf at this
    rw [hd] at this
    cases d <;> exact this
  | succ fuel ih =>
    intro listed rem hrem hs hnr hmem hhi hcl f w' hb hf
    rw [show fuel + 1 + l2.length = (fuel + l2.length) + 1 by omega]
    refine ⟨fun h => ?_, fun i hi => ?_⟩
    · exfalso
      -- the least one that has not come up may come up
      have hno : ∀ i, i < l.length → listed.getD i false = true := by
        intro i
        induction i using Nat.strongRecOn with
        | _ i ih =>
          intro hi
          rcases hc : listed.getD i false with _ | _
          · exfalso
            have hm : i ∈ Region.ready .any (l ++ l2).toArray listed := by
              rw [mem_ready]
              refine ⟨?_, l[i], by simp [List.getElem?_append_left hi, hi], fun e he hb => ?_⟩
              · rw [Array.getD_eq_getD_getElem?] at hc ⊢
                rw [Array.getElem?_eq_getElem (by rw [hs, List.length_append]; omega)] at hc ⊢
                exact hc
              · have := hed i l[i] (by simp [hi]) e he hb
                exact ih e.on this (by omega)
            rw [h] at hm
            cases hm
          · rfl
      obtain ⟨k, hk⟩ : ∃ k, k ∈ rem := by
        cases rem with
        | nil => simp at hrem
        | cons x _ => exact ⟨x, List.mem_cons_self ..⟩
      obtain ⟨hk1, hk2⟩ := (hmem k).1 hk
      have h1 := hno k hk1
      rw [Array.getD_eq_getD_getElem?, Array.getElem?_eq_getElem (by rw [hs, List.length_append]; omega)] at h1 hk2
      simp at h1 hk2
      rw [h1] at hk2
      cases hk2
    obtain ⟨hun, o, ho, hpre⟩ := mem_ready.1 hi
    have hil : i < l.length := by
      rcases Nat.lt_or_ge i l.length with h | h
      · exact h
      · exfalso
        have hall := hanc listed hcl i o (by simpa using ho) h hpre
        obtain ⟨k, hk⟩ : ∃ k, k ∈ rem := by
          cases rem with
          | nil => simp at hrem
          | cons x _ => exact ⟨x, List.mem_cons_self ..⟩
        obtain ⟨hk1, hk2⟩ := (hmem k).1 hk
        have h1 := hall k (by omega)
        rw [Array.getD_eq_getD_getElem?, Array.getElem?_eq_getElem (by rw [hs, List.length_append]; omega)] at h1 hk2
        simp at h1 hk2
        rw [h1] at hk2
        cases hk2
    have hol : l[i]? = some o := by
      have h1 : (l ++ l2)[i]? = some o := by simpa using ho
      rwa [List.getElem?_append_left hil] at h1
    have hcl2 : Closed (l ++ l2) (listed.setIfInBounds i true) := by
      intro k ok hok hlk e he hbd
      by_cases hki : k = i
      · subst hki
        have h1 : (l ++ l2)[k]? = some o := by simpa using ho
        rw [h1] at hok
        injection hok with hok
        subst hok
        have h2 := hpre e he hbd
        by_cases hei : e.on = k
        · rw [hei] at h2 ⊢; rw [Array.getD_eq_getD_getElem?, Array.getElem?_setIfInBounds_self_of_lt (by rw [hs, List.length_append]; omega)]; rfl
        · rw [getD_set_ne false (Ne.symm hei)]; exact h2
      · rw [getD_set_ne false (Ne.symm hki)] at hlk
        have h2 := hcl k ok hok hlk e he hbd
        by_cases hei : e.on = i
        · rw [hei, Array.getD_eq_getD_getElem?, Array.getElem?_setIfInBounds_self_of_lt (by rw [hs, List.length_append]; omega)]; rfl
        · rw [getD_set_ne false (Ne.symm hei)]; exact h2
    have hhi2 : ∀ k, l.length ≤ k → k < (l ++ l2).length → (listed.setIfInBounds i true).getD k false = false := by
      intro k h1 h2
      rw [getD_set_ne false (by omega)]
      exact hhi k h1 h2
    have hp : PreO dl Φ f o.after.toList := preO_mk _ fun e he hbd => by
      have he' : e ∈ o.after := by simpa using he
      have hlist := hpre e he' hbd
      exact hf e.on (Nat.lt_trans (hed i o hol e he' hbd) hil) hlist
    have huf : listed.getD i false = false := by
      rw [Array.getD_eq_getD_getElem?] at hun ⊢
      rw [Array.getElem?_eq_getElem (by rw [hs, List.length_append]; omega)] at hun ⊢
      exact hun
    have hone := hob i o hol f (fun s => listed.getD s false) w' hb huf (fun e he hbd => hpre e (by simpa using he) hbd) hp
    have hbs : (fun s => (listed.setIfInBounds i true).getD s false) = fun s => if s = i then true else listed.getD s false := by
      funext s
      by_cases hsi : s = i
      · subst hsi; rw [if_pos rfl, Array.getD_eq_getD_getElem?, Array.getElem?_setIfInBounds_self_of_lt (by rw [hs, List.length_append]; omega)]; rfl
      · rw [if_neg hsi, getD_set_ne false (fun e => hsi e.symm)]
    have hgd := yielded_iff2 l l2 dl hdl (dstsOf_ l) f a hlt (fun d hd => by
      rw [← hdl] at hd
      obtain ⟨oo, h1, h2⟩ := List.mem_map.1 hd
      exact List.mem_filterMap.2 ⟨oo, h1, h2⟩) o.guard o rfl (fun j b hg => guard_spec hguard hol j b hg)
    have hval : ∀ (d : Nat), o.dst = some d → ∀ v k, k ≠ i → valOf dl (fun t => if t = d then v else f t) k = valOf dl f k := by
      intro d hd v k hki
      unfold valOf
      rw [hdlg]
      cases hok : l[k]? with
      | none => rfl
      | some ok =>
        cases hdk : ok.dst with
        | none => simp [hdk]
        | some dk =>
          simp only [Option.map_some, hdk]
          rw [if_neg]
          intro e
          subst e
          have h3 : (dstsOf_ l).Nodup := hnd
          have : ∀ (m : List Oper) (x y : Nat) (ox oy : Oper), (m.filterMap (·.dst)).Nodup → m[x]? = some ox → m[y]? = some oy → ox.dst = some dk → oy.dst = some dk → x = y := by
            intro m
            induction m with
            | nil => intro x y ox oy _ hx; simp at hx
            | cons q m ihm =>
              intro x y ox oy hnd hx hy hdx hdy
              cases x with
              | zero =>
                cases y with
                | zero => rfl
                | succ y =>
                  exfalso
                  simp at hx hy
                  subst hx
                  simp only [List.filterMap_cons, hdx] at hnd
                  exact (List.nodup_cons.1 hnd).1 (List.mem_filterMap.2 ⟨oy, List.mem_of_getElem? hy, hdy⟩)
              | succ x =>
                cases y with
                | zero =>
                  exfalso
                  simp at hx hy
                  subst hy
                  simp only [List.filterMap_cons, hdy] at hnd
                  exact (List.nodup_cons.1 hnd).1 (List.mem_filterMap.2 ⟨ox, List.mem_of_getElem? hx, hdx⟩)
                | succ y =>
                  simp at hx hy
                  have : (m.filterMap (·.dst)).Nodup := by
                    simp only [List.filterMap_cons] at hnd
                    cases hq : q.dst with
                    | none => simpa [hq] using hnd
                    | some _ => simp only [hq] at hnd; exact (List.nodup_cons.1 hnd).2
                  rw [ihm x y ox oy this hx hy hdx hdy]
          exact hki (this l k i ok o h3 hok hol hdk hd)
    -- what follows once the value is there
    have hnext : ∀ v w'', J (fun s => if s = i then true else listed.getD s false) (fun s => if s = i then dstVal o.dst v else valOf dl f s) w'' → (Φ.getD i fun _ => True) (dstVal o.dst v) →
        wpAny P .any (l ++ l2).toArray Q (fuel + l2.length) (listed.setIfInBounds i true) ((fills (dstsOf_ l) f a).put o.dst v) w'' := by
      intro v w'' hb' hv
      have hrem' : (rem.erase i).length = fuel := by
        have : i ∈ rem := (hmem i).2 ⟨hil, hun⟩
        rw [List.length_erase_of_mem this]; omega
      have hmem' : ∀ k, k ∈ rem.erase i ↔ k < l.length ∧ (listed.setIfInBounds i true).getD k true = false := by
        intro k
        rw [hnr.mem_erase_iff, hmem]
        by_cases hk : k = i
        · subst hk
          simp only [ne_eq, not_true, false_and, false_iff, not_and]
          intro hk
          rw [Array.getD_eq_getD_getElem?, Array.getElem?_setIfInBounds_self_of_lt (by rw [hs, List.length_append]; omega)]
          simp
        · rw [getD_set_ne true (Ne.symm hk)]
          simp [hk]
      have hst : ∀ k, k < l.length → k ≠ i → (listed.setIfInBounds i true).getD k false = true → listed.getD k false = true := by
        intro k _ hk h
        rw [getD_set_ne false (Ne.symm hk)] at h
        exact h
      cases hd : o.dst with
      | none =>
        show wpAny P .any (l ++ l2).toArray Q (fuel + l2.length) _ (fills (dstsOf_ l) f a) w''
        refine ih _ (rem.erase i) hrem' (by simpa using hs) (hnr.erase i) hmem' hhi2 hcl2 f w'' ?_ fun k hk hl => ?_
        · have e : (fun s => if s = i then dstVal o.dst v else valOf dl f s) = valOf dl f := by
            funext s
            by_cases hsi : s = i
            · rw [if_pos hsi]
              subst hsi
              unfold valOf
              rw [hdlg, hol]
              simp only [Option.map_some, hd]
              rfl
            · rw [if_neg hsi]
          rw [e] at hb'
          rw [hbs]; exact hb'
        · by_cases hki : k = i
          · subst hki
            unfold factO valOf
            rw [hdlg, hol]
            simp only [Option.map_some, hd]
            simpa [hd] using hv
          · exact hf k hk (hst k hk hki hl)
      | some d =>
        have hdm : d ∈ dstsOf_ l := List.mem_filterMap.2 ⟨o, List.mem_of_getElem? hol, hd⟩
        rw [fills_put _ _ _ _ _ hdm]
        refine ih _ (rem.erase i) hrem' (by simpa using hs) (hnr.erase i) hmem' hhi2 hcl2 _ w'' ?_ fun k hk hl => ?_
        · have e : (fun s => if s = i then dstVal o.dst v else valOf dl f s) = valOf dl (fun t => if t = d then v else f t) := by
            funext s
            by_cases hsi : s = i
            · rw [if_pos hsi]
              subst hsi
              unfold valOf
              rw [hdlg, hol]
              simp only [Option.map_some, hd]
              simp
            · rw [if_neg hsi, hval d hd v s hsi]
          rw [e] at hb'
          rw [hbs]; exact hb'
        · by_cases hki : k = i
          · subst hki
            unfold factO valOf
            rw [hdlg, hol]
            simp only [Option.map_some, hd]
            simpa [hd] using hv
          · have h0 := hf k hk (hst k hk hki hl)
            unfold factO at h0 ⊢
            rw [hval d hd v k hki]
            exact h0
    unfold wpOp
    simp only [ho]
    by_cases hw : Region.wanted o (yielded (l ++ l2).toArray (fills (dstsOf_ l) f a).tmps) = true
    · replace hone := hone.1 (hgd.1 hw)
      simp only [hw, if_true]
      left
      unfold Oper.wp
      rw [evalF_fills f hlt]
      generalize (execOp (evalF (dstsOf_ l) f a) o).run P w' = r at *
      cases r with
      | ok n w'' =>
        cases n <;> simp only [mildM] at hone <;> simp only [Oper.upon]
        case value u => exact hnext u _ hone.2 hone.1
        case enter f' args =>
          refine hone.mono ?_
          rintro e w3 ⟨v, rfl, hv, hj⟩
          exact hnext v w3 hj hv
      | halt x w'' => simp only [mildM] at hone
    · replace hone := hone.2 (fun h => hw (hgd.2 h))
      simp only [hw]
      refine hnext undef w' ?_ ?_
      · have := hone.2
        cases hd : o.dst <;> exact this
      · cases o.dst <;> exact hone.1

/-- THE LAW: n operations, of which some change the world, then the end. -/
theorem wp_region_mixI {id : Nat} {L : List Oper} {ds : List Nat} (n : Nat) (J : (Nat → Bool) → (Nat → Value) → World → Prop) (dl : List (Option Nat)) (Φ : List (Value → Prop)) (hdl : (L.take n).map (·.dst) = dl) (hds : dstsOf_ (L.take n) = ds) (hm : P.follows .mixedOrders = true)
    (hn : typedB (L.take n) a.tmps.size = true) (ht : tailB (L.take n) (L.drop n) = true) (hob : ∀ (i : Nat) (o : Oper), (L.take n)[i]? = some o → ObM P dl Φ ds a J i (Φ.getD i fun _ => True) o) (h0 : J (fun _ => false) (valOf dl fun t => a.tmps.getD t undef) w.drew)
    (hQ : ∀ f b w', (∀ i, i < (L.take n).length → b i = true) → J b (valOf dl f) w' → PostO f dl Φ → wpList P L.toArray Q (L.drop n) (fills ds f a) w') : (Code.region id L.toArray true).wp P Q a w := by
  subst hds
  refine wp_region_any hm ?_
  have hL : L.take n ++ L.drop n = L := List.take_append_drop n L
  have hf0 : (fun s => (Array.replicate L.length false).getD s false) = fun _ => false := by
    funext s
    rw [Array.getD_eq_getD_getElem?, Array.getElem?_replicate]; split <;> rfl
  have := mix_aux (l2 := L.drop n) hdl hn ht hob (by rw [hL]; exact hQ) (L.take n).length (Array.replicate L.length false) (List.range (L.take n).length) (by simp) (by rw [hL]; simp) List.nodup_range (by
    intro i
    simp only [List.mem_range, Array.getD_eq_getD_getElem?]
    constructor
    · intro h; exact ⟨h, by
        have : i < L.length := by rw [List.length_take] at h; omega
        simp [this]⟩
    · exact fun h => h.1) (by
    intro i _ hi
    rw [hL] at hi
    simp [Array.getD_eq_getD_getElem?, hi]) (by
    intro i o _ hl
    exfalso
    simp [Array.getD_eq_getD_getElem?, Array.getElem?_replicate] at hl
    split at hl <;> simp at hl) (fun t => a.tmps.getD t undef) { w with drawn := w.drawn + 1 } (by rw [hf0]; exact h0) (by
    intro i hi h
    exfalso
    simp [Array.getD_eq_getD_getElem?, Array.getElem?_replicate] at h
    split at h <;> simp at h)
  rw [fills_self, hL] at this
  have hlen : (L.take n).length + (L.drop n).length = L.toArray.size := by rw [← List.length_append, hL]; simp
  rw [hlen] at this
  exact this
theorem wp_region_mix {id : Nat} {L : List Oper} {ds : List Nat} (n : Nat) (J : (Nat → Bool) → (Nat → Value) → World → Prop) (dl : List (Option Nat)) (Φ : List (Value → Prop)) (hdl : (L.take n).map (·.dst) = dl) (hds : dstsOf_ (L.take n) = ds) (hm : P.follows .mixedOrders = true)
    (hn : typedB (L.take n) a.tmps.size = true) (ht : tailB (L.take n) (L.drop n) = true) (hob : ∀ (i : Nat) (o : Oper), (L.take n)[i]? = some o → ObM P dl Φ ds a J i (Φ.getD i fun _ => True) o) (h0 : ∀ v, J (fun _ => false) v w.drew)
    (hQ : ∀ f b w', (∀ i, i < (L.take n).length → b i = true) → J b (valOf dl f) w' → PostO f dl Φ → wpList P L.toArray Q (L.drop n) (fills ds f a) w') : (Code.region id L.toArray true).wp P Q a w := 
  wp_region_mixI n J dl Φ hdl hds hm hn ht hob (h0 _) hQ
end

/-! ### one by one -/
def ObMAll (P : Program) (dl : List (Option Nat)) (Φ : List (Value → Prop)) (ds : List Nat) (a : Act) (J : (Nat → Bool) → (Nat → Value) → World → Prop) : Nat → List Oper → List (Value → Prop) → Prop
  | _, [], _ => True
  | _, _ :: _, [] => False
  | i, o :: os, ph :: phs => ObM P dl Φ ds a J i ph o ∧ ObMAll P dl Φ ds a J (i + 1) os phs
theorem obMAll_get {P : Program} {dl : List (Option Nat)} {Φ : List (Value → Prop)} {ds : List Nat} {a : Act} {J : (Nat → Bool) → (Nat → Value) → World → Prop} : ∀ (os : List Oper) (phs : List (Value → Prop)) (k : Nat), ObMAll P dl Φ ds a J k os phs →
    ∀ (i : Nat) (o : Oper), os[i]? = some o → ObM P dl Φ ds a J (k + i) (phs.getD i fun _ => True) o
  | [], _, _, _ => fun i o h => by simp at h
  | _ :: _, [], _, h => h.elim
  | x :: os, ph :: phs, k, h => fun i o ho => by
    cases i with
    | zero => obtain rfl : x = o := by simpa using ho
              exact h.1
    | succ i =>
      have := obMAll_get os phs (k + 1) h.2 i o (by simpa using ho)
      rw [show k + (i + 1) = k + 1 + i by omega]
      simpa using this
section
variable {P : Program} {dl : List (Option Nat)} {Φ : List (Value → Prop)} {ds : List Nat} {a : Act} {w : World} {i : Nat} {J : (Nat → Bool) → (Nat → Value) → World → Prop} {ph : Value → Prop} {o : Oper}
theorem obM_yes (h : ∀ f b w', J b (valOf dl f) w' → b i = false → (∀ e ∈ o.after.toList, Region.binds .any e = true → b e.on = true) → PreO dl Φ f o.after.toList → Gd dl f o.guard ∧ mildM P o.dst ph i J b (valOf dl f) ((execOp (evalF ds f a) o).run P w')) : ObM P dl Φ ds a J i ph o := by
  intro f b w' h1 h2 h3 h4
  have := h f b w' h1 h2 h3 h4
  exact ⟨fun _ => this.2, fun hn => absurd this.1 hn⟩
theorem mildM_val {d : Option Nat} {q : Value → Prop} {r : Result Next} {w' : World} {b : Nat → Bool} {vs : Nat → Value} (u : Value) (hr : r = .ok (.value u) w') (hq : q (dstVal d u)) (hj : J (fun s => if s = i then true else b s) (fun s => if s = i then dstVal d u else vs s) w') : mildM P d q i J b vs r := by
  subst hr
  exact ⟨hq, hj⟩
theorem mildM_ex {d : Option Nat} {q : Value → Prop} {r : Result Next} {b : Nat → Bool} {vs : Nat → Value} {A B : Value → World → Prop} (hr : ∃ v' w3, r = .ok (.value v') w3 ∧ A v' w3 ∧ B v' w3)
    (h : ∀ v' w3, A v' w3 → B v' w3 → q (dstVal d v') ∧ J (fun s => if s = i then true else b s) (fun s => if s = i then dstVal d v' else vs s) w3) : mildM P d q i J b vs r := by
  obtain ⟨v', w3, rfl, h1, h2⟩ := hr
  exact h v' w3 h1 h2
end
theorem wp_region_mixL {P : Program} {a : Act} {w : World} {Q : Exit → Act → World → Prop} {id : Nat} {L : List Oper} {ds : List Nat} (n : Nat) (J : (Nat → Bool) → (Nat → Value) → World → Prop) (dl : List (Option Nat)) (Φ : List (Value → Prop)) (hdl : (L.take n).map (·.dst) = dl) (hds : dstsOf_ (L.take n) = ds) (hm : P.follows .mixedOrders = true)
    (hn : typedB (L.take n) a.tmps.size = true) (ht : tailB (L.take n) (L.drop n) = true) (hob : ObMAll P dl Φ ds a J 0 (L.take n) Φ) (h0 : ∀ v, J (fun _ => false) v w.drew)
    (hQ : ∀ f b w', (∀ i, i < (L.take n).length → b i = true) → J b (valOf dl f) w' → PostO f dl Φ → wpList P L.toArray Q (L.drop n) (fills ds f a) w') : (Code.region id L.toArray true).wp P Q a w :=
  wp_region_mix n J dl Φ hdl hds hm hn ht (fun i o ho => by simpa using obMAll_get _ _ 0 hob i o ho) h0 hQ
theorem wp_region_mixLI {P : Program} {a : Act} {w : World} {Q : Exit → Act → World → Prop} {id : Nat} {L : List Oper} {ds : List Nat} (n : Nat) (J : (Nat → Bool) → (Nat → Value) → World → Prop) (dl : List (Option Nat)) (Φ : List (Value → Prop)) (hdl : (L.take n).map (·.dst) = dl) (hds : dstsOf_ (L.take n) = ds) (hm : P.follows .mixedOrders = true)
    (hn : typedB (L.take n) a.tmps.size = true) (ht : tailB (L.take n) (L.drop n) = true) (hob : ObMAll P dl Φ ds a J 0 (L.take n) Φ) (h0 : J (fun _ => false) (valOf dl fun t => a.tmps.getD t undef) w.drew)
    (hQ : ∀ f b w', (∀ i, i < (L.take n).length → b i = true) → J b (valOf dl f) w' → PostO f dl Φ → wpList P L.toArray Q (L.drop n) (fills ds f a) w') : (Code.region id L.toArray true).wp P Q a w :=
  wp_region_mixI n J dl Φ hdl hds hm hn ht (fun i o ho => by simpa using obMAll_get _ _ 0 hob i o ho) h0 hQ
end Go.Proofs.Ytpoicbhbkabllaa

namespace Go.Proofs.Ytpoicbhbkabllaa
set_option linter.unusedSimpArgs false
set_option linter.unusedVariables false
open Go.RowKit

abbrev dptr (g : Nat) : Value := .pointer (some ⟨g, 0, none⟩)
set_option maxRecDepth 100000 in
set_option maxHeartbeats 1600000 in
theorem don_any (w : World) (S : Nat → Prop) (g : Nat) (d : DState) (h : DiskAt w S g d) :
    Calls Try.prog 18 #[.pointer (some ⟨g, 0, none⟩)] w fun e w' => e = .returned (.bool (!d.off)) ∧ w = w' := by
  obtain ⟨hb, vw, h1, h2, h3, h4, h5, h6⟩ := h.ex
  have hc := h1.cell 2 _ rfl
  clear h h1 h2 h3
  generalize d.off = b at *
  go_enter Try.func18, Try.ntmps18
  go_wp2_with fail
  go_ret
  exact ⟨rfl, rfl⟩
set_option maxRecDepth 100000 in
set_option maxHeartbeats 1600000 in
theorem dcount_any (w : World) (S : Nat → Prop) (g : Nat) (d : DState) (h : DiskAt w S g d) :
    Calls Try.prog 24 #[.pointer (some ⟨g, 0, none⟩)] w fun e w' => e = .returned (.int .i64 (d.bl.length : Int)) ∧ w = w' := by
  obtain ⟨hb, vw, h1, h2, h3, h4, h5, h6⟩ := h.ex
  have hc := h1.cell 0 _ rfl
  go_enter Try.func24, Try.ntmps24
  go_wp2_with fail
  go_ret
  exact ⟨rfl, rfl⟩
set_option maxRecDepth 100000 in
set_option maxHeartbeats 1600000 in
theorem dwaiting_any (w : World) (S : Nat → Prop) (g : Nat) (d : DState) (h : DiskAt w S g d) :
    Calls Try.prog 21 #[.pointer (some ⟨g, 0, none⟩)] w fun e w' => e = .returned (.int .i64 (d.wt.length : Int)) ∧ w = w' := by
  obtain ⟨hb, vw, h1, h2, h3, h4, h5, h6⟩ := h.ex
  obtain ⟨A, c, rfl, _, _, _⟩ := h3.form'
  have hc := h1.cell 1 _ rfl
  go_enter Try.func21, Try.ntmps21
  go_wp2_with fail
  go_ret
  exact ⟨rfl, rfl⟩
set_option maxRecDepth 100000 in
set_option maxHeartbeats 1600000 in
theorem dthere_any (w : World) (S : Nat → Prop) (g : Nat) (d : DState) (i : Int) (h : DiskAt w S g d) :
    Calls Try.prog 50 #[.pointer (some ⟨g, 0, none⟩), .int .i64 i] w fun e w' => e = .returned (.bool (decide (0 ≤ i) && decide (i < (d.bl.length : Int)))) ∧ w = w' := by
  have hc := dcount_any w S g d h
  have Hc := Lib.hid hc
  clear hc h
  by_cases hi : 0 ≤ i
  · have hd : decide (0 ≤ i) = true := decide_eq_true hi
    have Hd := Lib.hid hd
    clear hi
    go_enter Try.func50, Try.ntmps50
    go_wp2_with fail
    refine Hc.out.mono ?_
    rintro _ _ ⟨rfl, rfl⟩
    go_wp2_with fail
    go_ret
    rw [Hd.out]
    exact ⟨rfl, rfl⟩
  · have hd : decide (0 ≤ i) = false := decide_eq_false hi
    have Hd := Lib.hid hd
    clear hi
    go_enter Try.func50, Try.ntmps50
    go_wp2_with fail
    go_ret
    rw [Hd.out]
    exact ⟨rfl, rfl⟩
set_option maxRecDepth 100000 in
set_option maxHeartbeats 1600000 in
theorem dmay_any (w : World) (S : Nat → Prop) (g : Nat) (d : DState) (i : Int) (h : DiskAt w S g d) :
    Calls Try.prog 42 #[.pointer (some ⟨g, 0, none⟩), .int .i64 i] w fun e w' => e = .returned (.int .i64 (mayE d i)) ∧ w = w' := by
  have Ho := Lib.hid (don_any w S g d h)
  have ht := dthere_any w S g d i h
  clear h
  unfold mayE
  cases hof : d.off with
  | true =>
    rw [hof] at Ho
    clear ht
    go_enter Try.func42, Try.ntmps42
    go_wp2_with fail
    refine Ho.out.mono ?_
    rintro _ _ ⟨rfl, rfl⟩
    go_wp2_with fail
    go_ret
    exact ⟨rfl, rfl⟩
  | false =>
    rw [hof] at Ho
    by_cases hi : 0 ≤ i ∧ i < (d.bl.length : Int)
    · rw [decide_eq_true hi.1, decide_eq_true hi.2] at ht
      have Ht := Lib.hid ht
      rw [if_neg (by simp), if_pos hi]
      clear hi ht
      go_enter Try.func42, Try.ntmps42
      go_wp2_with fail
      refine Ho.out.mono ?_
      rintro _ _ ⟨rfl, rfl⟩
      go_wp2_with fail
      refine Ht.out.mono ?_
      rintro _ _ ⟨rfl, rfl⟩
      go_wp2_with fail
      go_ret
      exact ⟨rfl, rfl⟩
    · have e : (decide (0 ≤ i) && decide (i < (d.bl.length : Int))) = false := by simp only [Bool.and_eq_false_iff, decide_eq_false_iff_not]; omega
      rw [e] at ht
      have Ht := Lib.hid ht
      rw [if_neg (by simp), if_neg hi]
      clear hi ht e
      go_enter Try.func42, Try.ntmps42
      go_wp2_with fail
      refine Ho.out.mono ?_
      rintro _ _ ⟨rfl, rfl⟩
      go_wp2_with fail
      refine Ht.out.mono ?_
      rintro _ _ ⟨rfl, rfl⟩
      go_wp2_with fail
      go_ret
      exact ⟨rfl, rfl⟩
/-- a field of the disk's own is set -/
theorem DiskAt.setOff {w : World} {S : Nat → Prop} {g : Nat} {d : DState} (h : DiskAt w S g d) (b : Bool) : DiskAt (w.setCell ⟨g, 2, none⟩ (.bool b)) S g { d with off := b } := by
  obtain ⟨hb, vw, h1, h2, h3, h4, h5, h6⟩ := h.ex
  exact ⟨⟨hb, vw, h1.put 2 _, h2.other _ _ (fun e => h4 e.symm), h3.keep (gset w ⟨g, 2, none⟩ _) (by cases hv : vw.ownBlock with
    | none => exact .inl rfl
    | some q => exact .inr (fun e => (h6 q hv).1 (by injection e))) (fun k hk => hk.elim), h4, h5, h6⟩, h.here, fun k hk => by simpa [World.setCell] using h.lt k hk, h.wts, h.pos, h.few, h.fuseR⟩
theorem DiskAt.setFuse {w : World} {S : Nat → Prop} {g : Nat} {d : DState} (h : DiskAt w S g d) (n : Int) (hn : -9223372036854775808 ≤ n ∧ n ≤ 9223372036854775807) : DiskAt (w.setCell ⟨g, 3, none⟩ (.int .i64 n)) S g { d with fuse := n } := by
  obtain ⟨hb, vw, h1, h2, h3, h4, h5, h6⟩ := h.ex
  exact ⟨⟨hb, vw, h1.put 3 _, h2.other _ _ (fun e => h4 e.symm), h3.keep (gset w ⟨g, 3, none⟩ _) (by cases hv : vw.ownBlock with
    | none => exact .inl rfl
    | some q => exact .inr (fun e => (h6 q hv).1 (by injection e))) (fun k hk => hk.elim), h4, h5, h6⟩, h.here, fun k hk => by simpa [World.setCell] using h.lt k hk, h.wts, h.pos, h.few, hn⟩
/-- what a deed of the disk's leaves -/
def DPost (w : World) (S : Nat → Prop) (g : Nat) (d' : DState) (w' : World) : Prop := ∃ S', DiskAt w' S' g d' ∧ (∀ k, S' k → S k ∨ w.heap.size ≤ k) ∧ Chg S w w'
theorem DPost.id_ {w : World} {S : Nat → Prop} {g : Nat} {d : DState} (h : DiskAt w S g d) : DPost w S g d w := ⟨S, h, fun k hk => .inl hk, Chg.refl _ _⟩
theorem DPost.trans {a b c : World} {S : Nat → Prop} {g : Nat} {d1 d2 : DState} (h : DPost a S g d1 b) (k : ∀ S', DiskAt b S' g d1 → DPost b S' g d2 c) : DPost a S g d2 c := by
  obtain ⟨S', h1, h2, h3⟩ := h
  obtain ⟨S2, k1, k2, k3⟩ := k S' h1
  refine ⟨S2, k1, fun i hi => ?_, h3.past k3 fun i hi => (h2 i hi).symm⟩
  rcases k2 i hi with h | h
  · exact h2 i h
  · exact .inr (Nat.le_trans h3.size h)
set_option maxRecDepth 100000 in
set_option maxHeartbeats 1600000 in
theorem ddeed_any (w : World) (S : Nat → Prop) (g : Nat) (d : DState) (h : DiskAt w S g d) :
    Calls Try.prog 41 #[.pointer (some ⟨g, 0, none⟩)] w fun e w' => e = .returned (.int .i64 (deedE d)) ∧ DiskAt w' S g (deedD d) ∧ Chg S w w' := by
  obtain ⟨hb, vw, h1, h2, h3, h4, h5, h6⟩ := id h.ex
  have hc := h1.cell 3 _ rfl
  have hf2 := h1.frozen 2
  have hf3 := h1.frozen 3
  have hc2 := h1.cell 2 _ rfl
  have hfr := h.fuseR
  unfold deedE deedD
  by_cases h0 : d.fuse = 0
  · have hd : (d.fuse == 0) = true := by simp [h0]
    have Hh := Lib.hid h
    rw [if_pos h0, if_pos h0]
    clear h0 h hfr h2 h3
    generalize hn : d.fuse = n at *
    have Hn := Lib.hid hn
    clear hn
    go_enter Try.func41, Try.ntmps41
    go_wp2_with fail
    go_ret
    exact ⟨rfl, by rw [← Hn.out]; exact Hh.out.setOff true, Chg.set w _ _ Hh.out.here⟩
  · have hd : (d.fuse == 0) = false := by simpa using h0
    rw [if_neg h0, if_neg h0]
    have Hh := Lib.hid h
    by_cases hp : 0 < d.fuse
    · have hd2 : decide (0 < d.fuse) = true := decide_eq_true hp
      rw [if_pos hp]
      have hw : IntKind.i64.wrap (d.fuse - 1) = d.fuse - 1 := by rw [wrap_i64]; omega
      have hfr2 : -9223372036854775808 ≤ d.fuse - 1 ∧ d.fuse - 1 ≤ 9223372036854775807 := by omega
      have Hfr := Lib.hid hfr2
      clear h0 h h2 h3 hp hfr hfr2
      generalize hn : d.fuse = n at *
      have Hn := Lib.hid hn
      clear hn
      go_enter Try.func41, Try.ntmps41
      go_wp2_with fail
      go_ret
      exact ⟨rfl, Hh.out.setFuse _ Hfr.out, Chg.set w _ _ Hh.out.here⟩
    · have hd2 : decide (0 < d.fuse) = false := decide_eq_false hp
      rw [if_neg hp]
      clear h0 h h2 h3 hp hfr
      generalize hn : d.fuse = n at *
      clear hn
      go_enter Try.func41, Try.ntmps41
      go_wp2_with fail
      go_ret
      exact ⟨rfl, Hh.out, Chg.refl _ _⟩
set_option maxRecDepth 100000 in
set_option maxHeartbeats 1600000 in
theorem dfuse_any (w : World) (S : Nat → Prop) (g : Nat) (d : DState) (n : Int) (hn : -9223372036854775808 ≤ n ∧ n ≤ 9223372036854775807) (h : DiskAt w S g d) :
    Calls Try.prog 14 #[.pointer (some ⟨g, 0, none⟩), .int .i64 n] w fun e w' => e = .returned (.tuple #[]) ∧ DiskAt w' S g { d with fuse := n } ∧ Chg S w w' := by
  obtain ⟨hb, vw, h1, h2, h3, h4, h5, h6⟩ := id h.ex
  have hc := h1.cell 3 _ rfl
  have hf3 := h1.frozen 3
  have Hh := Lib.hid h
  have Hn := Lib.hid hn
  clear h h2 h3 hn
  go_enter Try.func14, Try.ntmps14
  go_wp2_with fail
  go_end0
  exact ⟨rfl, Hh.out.setFuse _ Hn.out, Chg.set w _ _ Hh.out.here⟩
set_option maxRecDepth 100000 in
set_option maxHeartbeats 1600000 in
theorem doff_any (w : World) (S : Nat → Prop) (g : Nat) (d : DState) (h : DiskAt w S g d) :
    Calls Try.prog 26 #[.pointer (some ⟨g, 0, none⟩)] w fun e w' => e = .returned (.tuple #[]) ∧ DiskAt w' S g { d with off := true } ∧ Chg S w w' := by
  obtain ⟨hb, vw, h1, h2, h3, h4, h5, h6⟩ := id h.ex
  have hc := h1.cell 2 _ rfl
  have hf3 := h1.frozen 2
  have Hh := Lib.hid h
  clear h h2 h3
  go_enter Try.func26, Try.ntmps26
  go_wp2_with fail
  go_end0
  exact ⟨rfl, Hh.out.setOff true, Chg.set w _ _ Hh.out.here⟩
end Go.Proofs.Ytpoicbhbkabllaa

namespace Go.Proofs.Ytpoicbhbkabllaa
set_option linter.unusedSimpArgs false
set_option linter.unusedVariables false
open Go.RowKit

theorem fill_whole (n : Nat) (cells : Array Value) (cs : List Value) (hc : cells.size = n) (hn : cs.length = n) : Instr.fill (fun i => some (i * n, n)) cells [(0, .agg cs.toArray)] = some cs.toArray := by
  obtain ⟨g1, g2⟩ := Go.Great.foldl_set (0 * n) cs 0 cells
  unfold Instr.fill
  simp only [Value.cells, List.size_toArray, hn]
  rw [if_neg (by simp; omega)]
  unfold Instr.fill
  congr 1
  apply Array.ext_getElem?
  intro k
  have := g2 k
  have e : (cs.toArray.zipIdx.foldl (fun cs (x : Value × Nat) => cs.setIfInBounds (0 * n + x.2) x.1) cells) = (List.foldl (fun cs (x : Value × Nat) => cs.setIfInBounds (0 * n + x.2) x.1) cells (cs.zipIdx 0)) := by simp
  show (cs.toArray.zipIdx.foldl (fun cs (x : Value × Nat) => cs.setIfInBounds (0 * n + x.2) x.1) cells)[k]? = _
  rw [e, this]
  simp only [Nat.zero_mul, Nat.zero_add, Nat.sub_zero, Nat.zero_le, true_and, List.getElem?_toArray]
  split
  · rfl
  · rw [List.getElem?_eq_none (by omega), Array.getElem?_eq_none (by omega)]
theorem fill_two (n : Nat) (place : Nat → Option (Nat × Nat)) (h0 : place 0 = some (0, 1)) (h1 : place 1 = some (1, n)) (cells : Array Value) (a : Value) (ha : a.cells = #[a]) (cs : List Value) (hc : cells.size = n + 1) (hn : cs.length = n) :
    Instr.fill place cells [(0, a), (1, .agg cs.toArray)] = some (a :: cs).toArray := by
  obtain ⟨g1, g2⟩ := Go.Great.foldl_set 1 cs 0 (cells.setIfInBounds 0 a)
  have hz : (cells.setIfInBounds 0 a).size = n + 1 := by rw [Array.size_setIfInBounds, hc]
  unfold Instr.fill
  simp only [h0, ha, List.size_toArray, List.length_cons, List.length_nil]
  rw [if_neg (by rw [hc]; simp)]
  unfold Instr.fill
  simp only [h1, Value.cells, List.size_toArray, hn]
  rw [if_neg (by simp; omega)]
  unfold Instr.fill
  congr 1
  apply Array.ext_getElem?
  intro k
  have := g2 k
  have e : (cs.toArray.zipIdx.foldl (fun cs (x : Value × Nat) => cs.setIfInBounds (1 + x.2) x.1) (Array.foldl (fun cs (x : Value × Nat) => cs.setIfInBounds (0 + x.2) x.1) cells #[a].zipIdx)) = (List.foldl (fun cs (x : Value × Nat) => cs.setIfInBounds (1 + x.2) x.1) (cells.setIfInBounds 0 a) (cs.zipIdx 0)) := by simp
  show (cs.toArray.zipIdx.foldl (fun cs (x : Value × Nat) => cs.setIfInBounds (1 + x.2) x.1) (Array.foldl (fun cs (x : Value × Nat) => cs.setIfInBounds (0 + x.2) x.1) cells #[a].zipIdx))[k]? = _
  rw [e, this]
  simp only [Nat.add_zero, List.getElem?_toArray, Array.size_setIfInBounds]
  cases k with
  | zero => rw [if_neg (by omega), Array.getElem?_setIfInBounds_self_of_lt (by omega)]; rfl
  | succ k =>
    rw [List.getElem?_cons_succ]
    by_cases hk : k < n
    · rw [if_pos (by omega), Nat.add_sub_cancel]
    · rw [if_neg (by omega), List.getElem?_eq_none (by omega), Array.getElem?_eq_none (by omega)]
theorem fields_write : Try.prog.underlying 88 = some (.struct (Try.prog.fieldsOf 88)) := by kernel_rfl
theorem places_write : (Try.prog.fieldsOf 88).toList.mapM (fun f => (Try.prog.info? f.type).map fun i => (f.offset, i.size)) = some [(0, 1), (1, 128)] := by kernel_rfl
def zeroW : Value := .agg ((.int .i64 0 :: List.replicate 128 (.int .u8 0)).toArray)
theorem info_write : (Try.prog.info? 88).map (fun i => (i.zero, i.size, i.bytes)) = some (some zeroW, 129, 136) := by kernel_rfl
theorem built_write (i : Int) (b : Blk) : Try.prog.built 88 [(0, .int .i64 i), (1, .agg (b8s b.1).toArray)] = some (.int .i64 i :: b8s b.1).toArray := by
  obtain ⟨it, hit, hz0, hz1, hby⟩ := info_parts info_write
  unfold Program.built
  simp only [hit, fields_write, hz0, places_write]
  exact fill_two 128 _ rfl rfl _ _ rfl _ (by simp [zeroW, Value.cells]) (blk_len b)
theorem run_build_write (w : World) (i : Int) (b : Blk) : (Instr.build 88 #[(0, .int .i64 i), (1, .agg (b8s b.1).toArray)]).run Try.prog w = .ok (.agg (.int .i64 i :: b8s b.1).toArray) w :=
  run_build w _ _ _ (built_write i b)
theorem run_slice_write (w : World) (i : Int) (b : Blk) : (Instr.buildSlice 82 1 #[(0, .agg (.int .i64 i :: b8s b.1).toArray)]).run Try.prog w =
    .ok (.slice (some ⟨w.heap.size, 0, none⟩) 1 1) (w.alloc (.cells (.int .i64 i :: b8s b.1).toArray 88)) := by
  obtain ⟨it, hit, hz0, hz1, hby⟩ := info_parts info_write
  have hl := blk_len b
  refine run_buildSlice w _ _ 1 _ _ it zeroW Try.underlying82 hit hz0 (by rw [hz1]; decide) (by rw [hz1]; decide) ?_
  rw [hz1]
  exact fill_whole 129 _ _ (by simp) (by simp [hl])
end Go.Proofs.Ytpoicbhbkabllaa

namespace Go.Proofs.Ytpoicbhbkabllaa
set_option linter.unusedSimpArgs false
set_option linter.unusedVariables false
open Go.RowKit

/-- append(s, x...), s the call's own, x any readable row -/
theorem exec_appR {α : Type} {E : TypeId} {C : Cdc α} {w : World} {base : Nat} {O S : Nat → Prop} {v : Value} {xs : List α} {o : Oper} {ρ : Operand → Value} (s x : Operand) (t : TypeId)
    (ho : o.op = .call { callee := .builtin .append, args := #[s, x], argTypes := #[t, t] })
    (ht : Try.prog.underlying t = some (.slice E)) {z : Value} {bytes : Nat} (hinfo : (Try.prog.info? E).map (fun i => (i.zero, i.size, i.bytes)) = some (some z, C.n, bytes)) (hz2 : z.cells.size = C.n) (hn0 : 0 < C.n) (hb0 : bytes ≤ 256)
    {v2 : Value} {ys : List α} (hown : OwnR E C w base S v xs) (hrd : RowOn C w O S v2 ys) (hs : ρ s = v) (hx : ρ x = v2)
    (hsz : xs.length + ys.length ≤ 549755813888) (hbase : base ≤ w.heap.size) : ∃ v' w', (execOp ρ o).run Try.prog w = .ok (.value v') w' ∧ OwnR E C w' base S v' (xs ++ ys) ∧ Ext w w' v v' := by
  obtain ⟨i, hi, hz0, hz1, hby⟩ := info_parts hinfo
  obtain ⟨css, hl, h2, h3, h4⟩ := hown
  have hcl := OwnR.clen hl h3
  obtain ⟨A, c, rfl, hc1, hc2, hcell⟩ := hrd
  -- the cells of the source
  obtain ⟨dss, hdl, hd3, hdr⟩ : ∃ dss : List (List Value), dss.length = ys.length ∧ (∀ (i : Nat) (cs : List Value) (y : α), dss[i]? = some cs → ys[i]? = some y → C.at_ w S cs y) ∧
      ∃ B, Rd w B C.n A ys.length dss.flatten := by
    rcases Nat.eq_zero_or_pos ys.length with h0 | h0
    · have : ys = [] := List.eq_nil_of_length_eq_zero h0
      subst this
      exact ⟨[], rfl, fun i cs y h => by simp at h, 0, by simp [Rd]⟩
    · obtain ⟨ad, rfl, _, hc⟩ := hcell h0
      have hex : ∀ i : Fin ys.length, ∃ cs, C.at_ w S cs (ys[i.1]'i.2) ∧ ∀ (j : Nat) (u : Value), cs[j]? = some u → w.cell? (ad.add (i.1 * C.n + j)) = some u := fun i => hc i.1 _ (List.getElem?_eq_getElem i.2)
      refine ⟨List.ofFn fun i => (hex i).choose, by simp, ?_, ad.block + 1, ?_⟩
      · intro i cs y hcs hy
        obtain ⟨hi', rfl⟩ := List.getElem?_eq_some_iff.1 hy
        rw [List.getElem?_ofFn, dif_pos hi'] at hcs
        injection hcs with hcs
        rw [← hcs]
        exact (hex ⟨i, hi'⟩).choose_spec.1
      · have hcl2 : ∀ cs ∈ (List.ofFn fun i => (hex i).choose), cs.length = C.n := by
          intro cs hcs
          obtain ⟨i, rfl⟩ := List.mem_ofFn.1 hcs
          exact C.len (hex i).choose_spec.1
        refine ⟨by rw [flat_len C.n _ hcl2]; simp, fun _ => ⟨ad, rfl, Nat.lt_succ_self _, fun j u hu => ?_⟩⟩
        have hj : j < ys.length * C.n := by
          have := (List.getElem?_eq_some_iff.1 hu).1
          rw [flat_len C.n _ hcl2] at this
          simpa using this
        have hi' : j / C.n < ys.length := Nat.div_lt_of_lt_mul (by rw [Nat.mul_comm]; exact hj)
        have hj2 : j % C.n < C.n := Nat.mod_lt _ hn0
        have hdm : j / C.n * C.n + j % C.n = j := by rw [Nat.mul_comm]; exact Nat.div_add_mod j C.n
        have := flat_get C.n _ hcl2 (j / C.n) (hex ⟨j / C.n, hi'⟩).choose (j % C.n) (by rw [List.getElem?_ofFn, dif_pos hi']) hj2
        rw [hdm, hu] at this
        have := (hex ⟨j / C.n, hi'⟩).choose_spec.2 (j % C.n) u this.symm
        rwa [hdm] at this
  obtain ⟨B, hrd⟩ := hdr
  have hcl2 := OwnR.clen hdl hd3
  obtain ⟨v', w', hr, g2, g3, g5⟩ := run_append_rd (P := Try.prog) w base t o.type E i z C.n bytes ht hi hz0 hz1 hby hz2 hn0 v xs.length css.flatten h2 B A ys.length c dss.flatten hrd (by
      intro u hu
      obtain ⟨cs, hcs, hu⟩ := List.mem_flatten.1 hu
      obtain ⟨i, hi', rfl⟩ := List.mem_iff_getElem.1 hcs
      exact C.one (hd3 i _ (ys[i]'(by omega)) (List.getElem?_eq_getElem hi') (List.getElem?_eq_getElem (by omega))) u hu)
    (by unfold maxLen; omega) (by
      calc (xs.length + ys.length) * bytes ≤ 549755813888 * 256 := Nat.mul_le_mul hsz hb0
        _ ≤ _ := by decide) hbase
  have hSame : ∀ p : Addr, S p.block → w'.cell? p = w.cell? p := fun p hp => World.cell?_of_block (g3.block p.block (h4 _ hp).1 (fun e => (h4 _ hp).2 e.symm))
  refine ⟨v', w', ?_, ⟨css ++ dss, by simp [hl, hdl], by rw [List.length_append, List.flatten_append]; exact g2, ?_, ?_⟩, ⟨g3, ?_⟩⟩
  · unfold execOp
    simp only [ho, resolve, invoke, builtin, Sem.run_bind, Sem.run_pure, Result.andThen_ok, List.map_toArray, List.map_cons, List.map_nil, hs, hx, hr]
  · intro j cs x hc hx'
    refine C.keep ?_ hSame
    rcases Nat.lt_or_ge j xs.length with hj | hj
    · rw [List.getElem?_append_left (by omega)] at hc
      rw [List.getElem?_append_left hj] at hx'
      exact h3 j cs x hc hx'
    · rw [List.getElem?_append_right (by omega)] at hc
      rw [List.getElem?_append_right hj, ← hl] at hx'
      exact hd3 _ cs x hc hx'
  · intro k hk
    refine ⟨Nat.lt_of_lt_of_le (h4 k hk).1 g3.size, ?_⟩
    rcases g5 with g5 | g5
    · rw [g5]; exact (h4 k hk).2
    · rw [g5]; intro e; injection e with e; have := (h4 k hk).1; omega
  · rcases g5 with g5 | g5
    · exact .inl g5
    · exact .inr fun k hk => by rw [g5] at hk; injection hk with hk; omega

/-- append(s, y), one thing -/
theorem exec_app1R {α : Type} {E : TypeId} {C : Cdc α} {S : Nat → Prop} {o : Oper} {ρ : Operand → Value} {w : World} (s x : Operand) (t : TypeId)
    (ho : o.op = .call { callee := .builtin .append, args := #[s, x], argTypes := #[t, t] })
    (ht : Try.prog.underlying t = some (.slice E)) {z : Value} {bytes : Nat} (hinfo : (Try.prog.info? E).map (fun i => (i.zero, i.size, i.bytes)) = some (some z, C.n, bytes)) (hz2 : z.cells.size = C.n) (hn0 : 0 < C.n) (hb0 : bytes ≤ 256)
    {base : Nat} {v : Value} {xs : List α} {y : α} (cs : List Value) (hown : OwnR E C w base S v xs) (hy : C.at_ w S cs y) (hs : ρ s = v) (hx : ρ x = .slice (some ⟨w.heap.size, 0, none⟩) 1 1)
    (hsz : xs.length ≤ 549755813887) (hbase : base ≤ w.heap.size) : ∃ v' w', (execOp ρ o).run Try.prog (w.alloc (.cells cs.toArray E)) = .ok (.value v') w' ∧ OwnR E C w' base S v' (xs ++ [y]) ∧ Ext w w' v v' := by
  have hS : ∀ k, S k → k < w.heap.size := by obtain ⟨_, _, _, _, h4⟩ := hown; exact fun k hk => (h4 k hk).1
  have hrow : RowOn C (w.alloc (.cells cs.toArray E)) (fun k => k < w.heap.size + 1) S (.slice (some ⟨w.heap.size, 0, none⟩) 1 1) [y] := by
    refine ⟨_, 1, rfl, Nat.le_refl _, by simp [maxLen], fun _ => ⟨_, rfl, Nat.lt_succ_self _, fun i y' hi => ?_⟩⟩
    match i, hi with
    | 0, hi =>
      injection hi with hi
      subst hi
      refine ⟨cs, C.keep hy fun p hp => World.cell?_alloc_lt w _ p (hS _ hp), fun j u hu => ?_⟩
      rw [Nat.zero_mul, Nat.zero_add]
      exact World.news_of_block (heap_alloc_new w _) j u (by simpa using hu)
    | i + 1, hi => simp at hi
  obtain ⟨v', w', hr, h1, h2⟩ := exec_appR s x t ho ht hinfo hz2 hn0 hb0 (hown.alloc _) hrow hs hx (by simp; omega) (by simp; omega)
  exact ⟨v', w', hr, h1, h2.after (balloc w _) v rfl⟩
/-- a row of bytes, as an array's cells -/
theorem rowOn_load {w : World} {O S : Nat → Prop} {ad : Addr} {n c : Nat} {l : List UInt8} (h : RowOn c8 w O S (.slice (some ad) n c) l) : ∀ (j : Nat) (v : Value), (b8s l)[j]? = some v → w.cell? (ad.add j) = some v := by
  intro j v hv
  have hv' : (l[j]?).map b8 = some v := by rw [← hv]; simp [b8s]
  obtain ⟨x, hx, rfl⟩ := Option.map_eq_some_iff.1 hv'
  obtain ⟨ad', cs, e, _, ⟨rfl, _⟩, hc⟩ := h.at_ j x hx
  injection e with e
  subst e
  have := hc 0 _ rfl
  simpa [c8, Cdc.flat] using this
end Go.Proofs.Ytpoicbhbkabllaa

namespace Go.Proofs.Ytpoicbhbkabllaa
set_option linter.unusedSimpArgs false
set_option linter.unusedVariables false
open Go.RowKit

/-- bytes that lie outside S -/
abbrev BX (w : World) (S : Nat → Prop) (v : Value) (l : List UInt8) : Prop := RowOn c8 w (fun k => k < w.heap.size ∧ ¬ S k) (fun _ => True) v l
theorem BX.chg {w w' : World} {S : Nat → Prop} {v : Value} {l : List UInt8} (h : BX w S v l) (hc : Chg S w w') : BX w' S v l := by
  obtain ⟨A, c, h1, h2, h3, h4⟩ := h
  refine ⟨A, c, h1, h2, h3, fun hn => ?_⟩
  obtain ⟨ad, e, hb, hcc⟩ := h4 hn
  refine ⟨ad, e, ⟨Nat.lt_of_lt_of_le hb.1 hc.size, hb.2⟩, fun i x hx => ?_⟩
  obtain ⟨cs, ha, hcs⟩ := hcc i x hx
  exact ⟨cs, ha, fun j u hu => (World.cell?_of_block (hc.block _ (by rw [add_block]; exact hb.1) (by rw [add_block]; exact hb.2))).trans (hcs j u hu)⟩
theorem BX.grown {w w' : World} {S : Nat → Prop} {v : Value} {l : List UInt8} {row : Option Nat} (h : BX w S v l) (hg : w.grownBy w' row) (hr : ∀ k, row = some k → w.heap.size ≤ k ∨ S k) : BX w' S v l :=
  h.chg ⟨hg.os, hg.tape, hg.output, hg.size, fun k hk hn => hg.block k hk fun e => by rcases hr k e.symm with h | h; omega; exact hn h⟩
theorem BX.form {w : World} {S : Nat → Prop} {v : Value} {l : List UInt8} (h : BX w S v l) : ∃ A c, v = .slice A l.length c ∧ l.length ≤ c ∧ c ≤ maxLen := RowOn.form h

theorem DPost.pre {w w2 w' : World} {S : Nat → Prop} {g : Nat} {d : DState} (hc : Chg S w w2) (h : DPost w2 S g d w') : DPost w S g d w' := by
  obtain ⟨S', h1, h2, h3⟩ := h
  exact ⟨S', h1, fun k hk => (h2 k hk).imp id fun h => Nat.le_trans hc.size h, hc.trans h3⟩
theorem DiskAt.pushed {w2 w3 : World} {S : Nat → Prop} {g hb : Nat} {d1 : DState} {vw v34 : Value} (H : DiskAt w2 S g d1) (h1 : BoxAt 84 w2 g [.slice (some ⟨hb, 0, none⟩) d1.bl.length d1.bl.length, vw, .bool d1.off, .int .i64 d1.fuse])
    (h2 : BoxAt 86 w2 hb (flatB d1.bl)) (h3 : OwnF 88 cWt w2 0 vw d1.wt) (h4 : hb ≠ g) (h5 : S hb) (h6 : ∀ q, vw.ownBlock = some q → q ≠ g ∧ q ≠ hb ∧ S q) (k : Nat) (hk : k < d1.bl.length) (bk : Blk)
    (j7 : OwnF 88 cWt w3 0 v34 (d1.wt ++ [(k, bk)])) (j8 : Ext w2 w3 vw v34) (j1 : BoxAt 84 w3 g [.slice (some ⟨hb, 0, none⟩) d1.bl.length d1.bl.length, vw, .bool d1.off, .int .i64 d1.fuse]) :
    DPost w2 S g { d1 with wt := d1.wt ++ [(k, bk)] } (w3.setCell ⟨g, 1, none⟩ v34) := by
  have hg := h1.lt
  have hhb := h2.lt
  have hne : ∀ q, v34.ownBlock = some q → q ≠ g ∧ q ≠ hb ∧ (S q ∨ w2.heap.size ≤ q) := fun q hq => by
    rcases j8.at_ with e | e
    · rw [e] at hq
      exact ⟨(h6 q hq).1, (h6 q hq).2.1, .inl (h6 q hq).2.2⟩
    · have := e q hq
      exact ⟨by omega, by omega, .inr this⟩
  have h2' := h2.grown j8.gr (fun e => (h6 _ e).2.1 rfl)
  refine ⟨fun q => S q ∨ v34.ownBlock = some q, ⟨⟨hb, v34, j1.put 1 _, h2'.other _ _ (fun e => h4 e.symm), j7.keep (gset w3 ⟨g, 1, none⟩ _) (by
      cases hv : v34.ownBlock with
      | none => exact .inl rfl
      | some q => exact .inr (fun e => (hne q hv).1 (by injection e))) (fun k hk => hk.elim), h4, .inl h5, fun q hq => ⟨(hne q hq).1, (hne q hq).2.1, .inr hq⟩⟩, .inl H.here, fun q hq => ?_, fun x hx => ?_, H.pos, H.few, H.fuseR⟩, fun q hq => ?_, ?_⟩
  · have hs : (w3.setCell ⟨g, 1, none⟩ v34).heap.size = w3.heap.size := by simp [World.setCell]
    rw [hs]
    rcases hq with hq | hq
    · exact Nat.lt_of_lt_of_le (H.lt q hq) j8.gr.size
    · exact (j7.blk q hq).2
  · rw [List.mem_append, List.mem_singleton] at hx
    rcases hx with hx | rfl
    · exact H.wts x hx
    · exact hk
  · rcases hq with hq | hq
    · exact .inl hq
    · exact (hne q hq).2.2
  · exact (Chg.ofGrown j8.gr fun q hq => (h6 q hq).2.2).trans (Chg.set w3 _ _ H.here)

set_option maxRecDepth 100000 in
set_option maxHeartbeats 3200000 in
theorem dwrite_any (w : World) (S : Nat → Prop) (g : Nat) (d : DState) (i : Int) (v : Value) (b : List UInt8) (hw : d.wt.length ≤ 1000000) (h : DiskAt w S g d) (hv : BX w S v b) :
    Calls Try.prog 16 #[.pointer (some ⟨g, 0, none⟩), .int .i64 i, v] w fun e w' => e = .returned (.int .i64 (writeE d i b)) ∧ DPost w S g (writeD d i b) w' := by
  obtain ⟨A, c, rfl, hc1, hc2⟩ := hv.form
  unfold maxLen at hc2
  have hmay := dmay_any w S g d i h
  have hdeed := ddeed_any w S g d h
  have H := Lib.hid h
  have Hv := Lib.hid hv
  have Hdeed := Lib.hid hdeed
  clear h hv hdeed
  unfold writeE writeD
  by_cases hm : mayE d i ≠ 0
  · rw [if_pos hm, if_pos hm]
    have hd : (mayE d i == 0) = false := by simpa using hm
    clear hm
    generalize mayE d i = me at *
    go_enter Try.func16, Try.ntmps16
    go_wp2_with fail
    refine hmay.mono ?_
    rintro _ _ ⟨rfl, rfl⟩
    go_wp2_with fail
    go_ret
    exact ⟨rfl, DPost.id_ H.out⟩
  · rw [if_neg hm, if_neg hm]
    have hm0 : mayE d i = 0 := by simpa using hm
    rw [hm0] at hmay
    by_cases hb : b.length = 128
    · rw [if_neg (by simpa using hb), dif_pos hb]
      have hd : ((b.length : Int) == 128) = true := by simp [hb]
      by_cases hde : deedE d ≠ 0
      · rw [if_pos hde]
        have hd2 : (deedE d == 0) = false := by simpa using hde
        clear hde hm hm0
        generalize deedE d = de at *
        rw [hb] at *
        go_enter Try.func16, Try.ntmps16
        go_wp2_with fail
        refine hmay.mono ?_
        rintro _ _ ⟨rfl, rfl⟩
        go_wp2_with fail
        refine Hdeed.out.mono ?_
        rintro _ w2 ⟨rfl, hd3, hch⟩
        go_wp2_with fail
        go_ret
        exact ⟨rfl, S, hd3, fun k hk => .inl hk, hch⟩
      · rw [if_neg hde]
        have hde0 : deedE d = 0 := by simpa using hde
        rw [hde0] at Hdeed ⊢
        have hi : 0 ≤ i ∧ i < (d.bl.length : Int) := by
          unfold mayE at hm0
          split at hm0
          · cases hm0
          · split at hm0
            · assumption
            · cases hm0
        obtain ⟨k, rfl⟩ : ∃ k : Nat, i = (k : Int) := ⟨i.toNat, by omega⟩
        have hki : k < d.bl.length := by omega
        clear hde hde0 hm hm0
        rw [hb] at *
        rw [Int.toNat_natCast]
        have HB := Lib.hid hb
        clear hb hi
        go_enter Try.func16, Try.ntmps16
        go_wp2_with fail
        refine hmay.mono ?_
        rintro _ _ ⟨rfl, rfl⟩
        go_wp2_with fail
        refine Hdeed.out.mono ?_
        rintro _ w2 ⟨rfl, hd3, hch⟩
        go_wp2_with fail
        have hv2 := Hv.out.chg hch
        have hwt2 := deedD_wt d
        have hbl2 := deedD_bl d
        obtain ⟨d1, hd1⟩ : ∃ d1, d1 = deedD d := ⟨_, rfl⟩
        have Hd1 := Lib.hid hd1
        have Hwt2 := Lib.hid hwt2
        rw [← hd1] at hd3 hwt2 hbl2
        clear hd1
        have hw1 : d1.wt.length ≤ 1000000 := by rw [hwt2]; exact hw
        have hk1 : k < d1.bl.length := by rw [hbl2]; exact hki
        have hlb : b.length = 128 := by assumption
        obtain ⟨ad, rfl⟩ : ∃ ad, A = some ad := by
          obtain ⟨ad, cs, e, _⟩ := hv2.at_ 0 (b[0]'(by omega)) (List.getElem?_eq_getElem (by omega))
          exact ⟨ad, e⟩
        have Hch := Lib.hid hch
        have H3 := Lib.hid hd3
        obtain ⟨hb, vw, h1, h2, h3, h4, h5, h6⟩ := hd3.ex
        obtain ⟨bk, hbk⟩ : ∃ bk : Blk, bk = ⟨b, hlb⟩ := ⟨_, rfl⟩
        have hbk1 : bk.1 = b := by rw [hbk]
        have Hbk := Lib.hid hbk
        rw [← hbk1] at hv2
        have Hbk2 := Lib.hid hbk
        have hlk := bk.2
        rw [hlk] at hv2
        clear hmay Hdeed H Hv hlk hch hd3 hbk hbk1 hwt2 hbl2
        refine wp_region_mixL (ds := [23, 24, 25, 26, 27, 28, 29, 30, 31, 32, 33, 34, 35, 36]) 14
          (fun bb vs W' => BoxAt 84 W' g [.slice (some ⟨hb, 0, none⟩) d1.bl.length d1.bl.length, vw, .bool d1.off, .int .i64 d1.fuse] ∧ BX W' S (.slice (some ad) 128 c) bk.1 ∧ (bb 11 = true → bb 10 = true) ∧
            (bb 10 = false → W' = w2.drew) ∧ (bb 10 = true → bb 11 = false → W' = w2.drew.alloc (.cells (.int .i64 (k : Int) :: b8s bk.1).toArray 88) ∧ vs 10 = .slice (some ⟨w2.heap.size, 0, none⟩) 1 1) ∧
            (bb 11 = true → OwnF 88 cWt W' 0 (vs 11) (d1.wt ++ [(k, bk)]) ∧ Ext w2 W' vw (vs 11)))
          [some 23, some 24, some 25, some 26, some 27, some 28, some 29, some 30, some 31, some 32, some 33, some 34, some 35, some 36]
          [fun v => v = .pointer (some ⟨g, 0, none⟩), fun v => v = .pointer (some ⟨g, 0, none⟩), fun v => v = .pointer (some ⟨g, 0, none⟩), fun v => v = .pointer (some ⟨g, 1, none⟩), fun v => v = vw, fun v => v = .int .i64 (k : Int), fun v => v = .slice (some ad) 128 c,
            fun v => v = .pointer (some ad), fun v => v = .agg (b8s bk.1).toArray, fun v => v = .agg (.int .i64 (k : Int) :: b8s bk.1).toArray, fun _ => True, fun _ => True, fun v => v = .pointer (some ⟨g, 0, none⟩), fun v => v = .pointer (some ⟨g, 1, none⟩)]
          rfl rfl rfl (by kernel_rfl) (by kernel_rfl) ?_ ?_ ?_
        · refine ⟨?_, ?_, ?_, ?_, ?_, ?_, ?_, ?_, ?_, ?_, ?_, ?_, ?_, ?_, trivial⟩
          · refine obM_yes fun f bb w' hj hs hd hp => ?_
            simp [PreO, factO, valOf, Region.binds] at hp hd
            refine ⟨by simp [Gd, valOf, hp], ?_⟩
            refine mildM_val (.pointer (some ⟨g, 0, none⟩)) ?_ rfl (by simpa using hj)
            simp [execOp, evalF, hp]
          · refine obM_yes fun f bb w' hj hs hd hp => ?_
            simp [PreO, factO, valOf, Region.binds] at hp hd
            refine ⟨by simp [Gd, valOf, hp], ?_⟩
            refine mildM_val (.pointer (some ⟨g, 0, none⟩)) ?_ rfl (by simpa using hj)
            simp [execOp, evalF, hp]
          · refine obM_yes fun f bb w' hj hs hd hp => ?_
            simp [PreO, factO, valOf, Region.binds] at hp hd
            refine ⟨by simp [Gd, valOf, hp], ?_⟩
            refine mildM_val (.pointer (some ⟨g, 0, none⟩)) ?_ rfl (by simpa using hj)
            simp [execOp, evalF, hp, go_sem]
          · refine obM_yes fun f bb w' hj hs hd hp => ?_
            simp [PreO, factO, valOf, Region.binds] at hp hd
            refine ⟨by simp [Gd, valOf, hp], ?_⟩
            refine mildM_val (.pointer (some ⟨g, 1, none⟩)) ?_ rfl (by simpa using hj)
            simp [execOp, evalF, hp, go_sem]
          · refine obM_yes fun f bb w' hj hs hd hp => ?_
            simp [PreO, factO, valOf, Region.binds] at hp hd
            refine ⟨by simp [Gd, valOf, hp], ?_⟩
            have hc := hj.1.cell 1 _ rfl
            refine mildM_val (vw) ?_ rfl (by simpa using hj)
            simp [execOp, evalF, hp, hc, go_sem]
          · refine obM_yes fun f bb w' hj hs hd hp => ?_
            simp [PreO, factO, valOf, Region.binds] at hp hd
            refine ⟨by simp [Gd, valOf, hp], ?_⟩
            refine mildM_val (.int .i64 (k : Int)) ?_ rfl (by simpa using hj)
            simp [execOp, evalF, hp]
          · refine obM_yes fun f bb w' hj hs hd hp => ?_
            simp [PreO, factO, valOf, Region.binds] at hp hd
            refine ⟨by simp [Gd, valOf, hp], ?_⟩
            refine mildM_val (.slice (some ad) 128 c) ?_ rfl (by simpa using hj)
            simp [execOp, evalF, hp]
          · refine obM_yes fun f bb w' hj hs hd hp => ?_
            simp [PreO, factO, valOf, Region.binds] at hp hd
            refine ⟨by simp [Gd, valOf, hp], ?_⟩
            have hat : (Instr.arrayAt 86 (.slice (some ad) 128 c)).run Try.prog w' = .ok (.pointer (some ad)) w' := by
              unfold Instr.arrayAt
              simp [Sem.run_bind, run_underlying Try.underlying86]
            refine mildM_val (.pointer (some ad)) ?_ rfl (by simpa using hj)
            simp [execOp, evalF, hp, go_sem, hat]
          · refine obM_yes fun f bb w' hj hs hd hp => ?_
            simp [PreO, factO, valOf, Region.binds] at hp hd
            refine ⟨by simp [Gd, valOf, hp], ?_⟩
            have hl := run_loadVar_cells w' ad 86 (b8s bk.1) (rowOn_load hj.2.1) Try.underlying86 rfl (by rw [blk_len]; kernel_rfl)
            refine mildM_val (.agg (b8s bk.1).toArray) ?_ rfl (by simpa using hj)
            simp only [execOp, evalF, List.contains_eq_mem, Instr.loadAt, Instr.sureAddr, Sem.run_bind, Sem.run_pure, Result.andThen_ok]
            simp [hp, hl]
          · refine obM_yes fun f bb w' hj hs hd hp => ?_
            simp [PreO, factO, valOf, Region.binds] at hp hd
            refine ⟨by simp [Gd, valOf, hp], ?_⟩
            refine mildM_val (.agg (.int .i64 (k : Int) :: b8s bk.1).toArray) ?_ rfl (by simpa using hj)
            simp only [execOp]
            simp [evalF, hp, run_build_write]
          · refine obM_yes fun f bb w' hj hs hd hp => ?_
            simp [PreO, factO, valOf, Region.binds] at hp hd
            refine ⟨by simp [Gd, valOf, hp], ?_⟩
            obtain ⟨j1, j2, j3, j4, j5, j6⟩ := hj
            have h11 : bb 11 = false := by cases hx : bb 11 with | false => rfl | true => rw [j3 hx] at hs; cases hs
            have hw' := j4 hs
            subst hw'
            refine mildM_val (.slice (some ⟨w2.heap.size, 0, none⟩) 1 1) (w' := w2.drew.alloc (.cells (.int .i64 (k : Int) :: b8s bk.1).toArray 88)) ?_ trivial ?_
            · simp only [execOp]
              simp [evalF, hp, run_slice_write]
            · refine ⟨j1.alloc _, j2.chg (Chg.ofBelow (balloc _ _)), by simp, by simp, fun _ _ => ⟨rfl, rfl⟩, by simp [h11]⟩
          · refine obM_yes fun f bb w' hj hs hd hp => ?_
            simp [PreO, factO, valOf, Region.binds] at hp hd
            refine ⟨by simp [Gd, valOf, hp], ?_⟩
            obtain ⟨j1, j2, j3, j4, j5, j6⟩ := hj
            have h10 : bb 10 = true := by simpa using hd.2
            obtain ⟨hw', hv10⟩ := j5 h10 hs
            subst hw'
            have hsz : w2.drew.heap.size = w2.heap.size := rfl
            have ho : OwnF 88 cWt w2.drew 0 vw d1.wt := h3.below_ (Below.refl _ w2).drew
            refine mildM_ex (exec_app1R (C := cWt) (.tmp 27) (.tmp 33) 82 rfl Try.underlying82 info_write (by kernel_rfl) (by decide) (by decide) (.int .i64 (k : Int) :: b8s bk.1) ho (y := (k, bk)) ⟨rfl, trivial⟩ (by simp [evalF, hp]) (by simpa [evalF, valOf] using hv10) (by omega) (Nat.zero_le _)) ?_
            intro v' w3 g1 g2
            have g3 : Ext w2 w3 vw v' := ((Ext.refl w2 vw).then_ (Below.refl _ w2).drew).trans g2
            refine ⟨trivial, h1.grown g3.gr (fun e => (h6 _ e).1 rfl), hv2.chg (Chg.ofGrown g3.gr fun q hq => (h6 q hq).2.2), by simp [h10], by simp [h10], by simp, fun _ => ⟨g1, g3⟩⟩
          · refine obM_yes fun f bb w' hj hs hd hp => ?_
            simp [PreO, factO, valOf, Region.binds] at hp hd
            refine ⟨by simp [Gd, valOf, hp], ?_⟩
            refine mildM_val (.pointer (some ⟨g, 0, none⟩)) ?_ rfl (by simpa using hj)
            simp [execOp, evalF, hp, go_sem]
          · refine obM_yes fun f bb w' hj hs hd hp => ?_
            simp [PreO, factO, valOf, Region.binds] at hp hd
            refine ⟨by simp [Gd, valOf, hp], ?_⟩
            refine mildM_val (.pointer (some ⟨g, 1, none⟩)) ?_ rfl (by simpa using hj)
            simp [execOp, evalF, hp, go_sem]
        · intro _
          exact ⟨h1, hv2, by simp, by simp, by simp, by simp⟩
        · intro f bb w3 hall hj hp
          have hb11 := hall 11 (by decide)
          clear hall
          simp only [PostO] at hp
          obtain ⟨e0, e1, e2, e3, e4, e5, e6, e7, e8, e9, _, _, e12, e13, _⟩ := hp
          obtain ⟨j1, j2, _, _, _, j6⟩ := hj
          obtain ⟨j7, j8⟩ := j6 hb11
          simp only [valOf, List.getElem?_cons_succ, List.getElem?_cons_zero] at j7 j8
          simp only [fills, List.foldl_cons, List.foldl_nil, Act.put, List.setIfInBounds_toArray, List.set_cons_zero, List.set_cons_succ, e0, e1, e2, e3, e4, e5, e6, e7, e8, e9, e12, e13]
          clear e0 e1 e2 e3 e4 e5 e6 e7 e8 e9 e12 e13
          generalize f 34 = v34 at *
          generalize f 33 = v33 at *
          simp only [List.drop_succ_cons, List.drop_zero]
          have jf := j1.frozen 1
          have jc := j1.cell 1 _ rfl
          obtain ⟨A34, c34, hv34, _, _, _⟩ := j7.form'
          go_wp2_with fail
          go_ret
          rw [← Hwt2.out, ← Hd1.out]
          refine ⟨rfl, DPost.pre Hch.out ?_⟩
          have := DiskAt.pushed H3.out h1 h2 h3 h4 h5 h6 k hk1 bk j7 j8 j1
          rw [hv34, List.length_append, List.length_singleton, Hbk2.out] at this
          exact this
    · rw [if_pos hb, dif_neg hb]
      have hd : ((b.length : Int) == 128) = false := beq_eq_false_iff_ne.2 (by omega)
      have hd1 : (b.length == 128) = false := beq_eq_false_iff_ne.2 hb
      clear hm hm0 hb
      go_enter Try.func16, Try.ntmps16
      go_wp2_with fail
      refine hmay.mono ?_
      rintro _ _ ⟨rfl, rfl⟩
      go_wp2_with fail
      go_ret
      exact ⟨rfl, DPost.id_ H.out⟩
end Go.Proofs.Ytpoicbhbkabllaa

namespace Go.Proofs.Ytpoicbhbkabllaa
set_option linter.unusedSimpArgs false
set_option linter.unusedVariables false
open Go.RowKit

theorem wpList_alloc_z {ops : Array Oper} {rest : List Oper} {o : Oper} {a : Act} {w : World} {Q : Exit → Act → World → Prop} (hgd : o.guard = none) (T : TypeId) (ho : o.op = .alloc T) {z : Value} {n bytes : Nat}
    (hinfo : (Try.prog.info? T).map (fun i => (i.zero, i.size, i.bytes)) = some (some z, n, bytes)) (cs : List Value) (hz : z.cells = cs.toArray)
    (h : wpList Try.prog ops Q rest (a.put o.dst (.pointer (some ⟨w.heap.size, 0, none⟩))) (w.alloc (.cells cs.toArray T))) : wpList Try.prog ops Q (o :: rest) a w :=
  wpList_plain hgd fun K hK => by
    obtain ⟨i, hi, hz0, hz1, hby⟩ := info_parts hinfo
    have hr : (Instr.alloc T true (.tuple #[])).run Try.prog w = .ok (.pointer (some ⟨w.heap.size, 0, none⟩)) (w.alloc (.cells cs.toArray T)) := by
      simp [Instr.alloc, Sem.run_bind, zeroValue, typeInfo, hi, hz0, newVar, newRow, hz]
    unfold Oper.wp execOp
    simp only [ho, Sem.run_bind, hr, Result.andThen_ok]
    exact hK _ _ h
theorem wpList_store_new {ops : Array Oper} {rest : List Oper} {o : Oper} {a : Act} {w : World} {Q : Exit → Act → World → Prop} (hgd : o.guard = none) (T : TypeId) (x y : Operand) (ho : o.op = .store T x y)
    (cs ds : List Value) (hx : a.eval x = .pointer (some ⟨w.heap.size, 0, none⟩)) (hy : a.eval y = .agg ds.toArray) (hi : (Try.prog.info? T).map (·.size) = some ds.length) (hl : cs.length = ds.length) (h1 : ∀ u ∈ ds, u.oneCell' = true)
    (h : wpList Try.prog ops Q rest (a.put o.dst undef) (w.alloc (.cells ds.toArray T))) : wpList Try.prog ops Q (o :: rest) a (w.alloc (.cells cs.toArray T)) :=
  wpList_plain hgd fun K hK => by
    unfold Oper.wp execOp
    simp only [ho, hx, hy, Instr.storeAt, Instr.sureAddr, Sem.run_bind, Sem.run_pure, Result.andThen_ok, run_storeVar_new w T cs.toArray ds.toArray (by simpa using hi) (by simpa using hl) (all_oneCell_toArray h1)]
    exact hK _ _ h
def zeroWc : List Value := .int .i64 0 :: List.replicate 128 (.int .u8 0)
theorem zeroW_cells : zeroW.cells = zeroWc.toArray := rfl
def encW (x : Wt) : List Value := .int .i64 (x.1 : Int) :: b8s x.2.1
theorem encW_len (x : Wt) : (encW x).length = 129 := by simp [encW, blk_len]
theorem encW_one (x : Wt) : ∀ u ∈ encW x, u.oneCell' = true := fun u hu => by
  rcases List.mem_cons.1 hu with rfl | hu
  · rfl
  · obtain ⟨b, _, rfl⟩ := List.mem_map.1 hu; rfl
theorem encW_at {w : World} {g : Nat} {x : Wt} (h : BoxAt 88 w g (encW x)) : ∀ (j : Nat) (v : Value), (b8s x.2.1)[j]? = some v → w.cell? ((⟨g, 1, none⟩ : Addr).add j) = some v := fun j v hv => by
  rw [Addr.add_mid, Nat.add_comm 1 j]
  exact h.cell (j + 1) v (by simpa [encW] using hv)
/-- the cells of the k-th that waits -/
theorem wt_load {w : World} {O S : Nat → Prop} {A : Option Addr} {n c : Nat} {l : List Wt} (h : RowOn cWt w O S (.slice A n c) l) (k : Nat) (hk : k < l.length) : ∃ ad, A = some ad ∧ ∀ (j : Nat) (v : Value), (encW (l[k]))[j]? = some v → w.cell? ((ad.add (k * 129)).add j) = some v := by
  obtain ⟨ad, cs, e, _, ⟨rfl, _⟩, hc⟩ := h.at_ k _ (List.getElem?_eq_getElem hk)
  exact ⟨ad, e, fun j v hv => by rw [add_add]; exact hc j v hv⟩
theorem flatB_there {w : World} {hb : Nat} {bl : List Blk} (h : BoxAt 86 w hb (flatB bl)) (i o n : Nat) (hi : i < bl.length) (ho : o + n ≤ 128) : w.there hb (i * 128 + o) n := fun j hj => by
  have hl : i * 128 + o + j < (flatB bl).length := by rw [flatB_len]; omega
  exact ⟨by rw [h.cell _ _ (List.getElem?_eq_getElem hl)]; rfl, h.frozen _⟩
theorem DiskAt.nilW {w' : World} {S : Nat → Prop} {g hb n : Nat} (d' : DState) (hwt : d'.wt = []) (h1 : BoxAt 84 w' g [.slice (some ⟨hb, 0, none⟩) n n, .slice none 0 0, .bool d'.off, .int .i64 d'.fuse]) (hn : n = d'.bl.length)
    (h2 : BoxAt 86 w' hb (flatB d'.bl)) (h4 : hb ≠ g) (h5 : S hb) (hg : S g) (hlt : ∀ k, S k → k < w'.heap.size) (hp : 0 < d'.bl.length) (hf : d'.bl.length ≤ 65536) (hfu : -9223372036854775808 ≤ d'.fuse ∧ d'.fuse ≤ 9223372036854775807) : DiskAt w' S g d' := by
  subst hn
  exact ⟨⟨hb, .slice none 0 0, h1, h2, by rw [hwt]; exact OwnF.nil_ _ _, h4, h5, fun q hq => by simp [Value.ownBlock] at hq⟩, hg, hlt, fun x hx => by rw [hwt] at hx; simp at hx, hp, hf, hfu⟩

set_option maxRecDepth 100000 in
set_option maxHeartbeats 3200000 in
theorem dsync_any (w : World) (S : Nat → Prop) (g : Nat) (d : DState) (hw : d.wt.length ≤ 1000000) (h : DiskAt w S g d) :
    Calls Try.prog 15 #[.pointer (some ⟨g, 0, none⟩)] w fun e w' => e = .returned (.int .i64 (syncE d)) ∧ DPost w S g (syncD d) w' := by
  have hon := don_any w S g d h
  have Hdeed := Lib.hid (ddeed_any w S g d h)
  have H := Lib.hid h
  clear h
  unfold syncE syncD
  by_cases hof : d.off = true
  · rw [if_pos hof, if_pos hof]
    rw [hof] at hon
    clear hof
    go_enter Try.func15, Try.ntmps15
    go_wp2_with fail
    refine hon.mono ?_
    rintro _ _ ⟨rfl, rfl⟩
    go_wp2_with fail
    go_ret
    exact ⟨rfl, DPost.id_ H.out⟩
  · rw [if_neg hof, if_neg hof]
    have hof2 : d.off = false := by simpa using hof
    rw [hof2] at hon
    clear hof
    by_cases hde : deedE d ≠ 0
    · rw [if_pos hde]
      have hd2 : (deedE d == 0) = false := by simpa using hde
      clear hde
      generalize deedE d = de at *
      go_enter Try.func15, Try.ntmps15
      go_wp2_with fail
      refine hon.mono ?_
      rintro _ _ ⟨rfl, rfl⟩
      go_wp2_with fail
      refine Hdeed.out.mono ?_
      rintro _ w2 ⟨rfl, hd3, hch⟩
      go_wp2_with fail
      go_ret
      exact ⟨rfl, S, hd3, fun k hk => .inl hk, hch⟩
    · rw [if_neg hde]
      have hde0 : deedE d = 0 := by simpa using hde
      rw [hde0] at Hdeed ⊢
      clear hde hde0
      go_enter Try.func15, Try.ntmps15
      go_wp2_with fail
      refine hon.mono ?_
      rintro _ _ ⟨rfl, rfl⟩
      go_wp2_with fail
      refine Hdeed.out.mono ?_
      rintro _ w2 ⟨rfl, hd3, hch⟩
      have hwt2 := deedD_wt d
      have hbl2 := deedD_bl d
      obtain ⟨d1, hd1⟩ : ∃ d1, d1 = deedD d := ⟨_, rfl⟩
      have Hd1 := Lib.hid hd1
      have Hwt2 := Lib.hid hwt2
      have Hbl2 := Lib.hid hbl2
      rw [← hd1] at hd3 hwt2 hbl2
      clear hd1
      have hw1 : d1.wt.length ≤ 1000000 := by rw [hwt2]; exact hw
      have Hch := Lib.hid hch
      have H3 := Lib.hid hd3
      obtain ⟨hb, vw, h1, h2, h3, h4, h5, h6⟩ := hd3.ex
      obtain ⟨A, c, rfl, hc1, hc2, _⟩ := h3.form'
      unfold maxLen at hc2
      have hc0 := h1.cell 1 _ rfl
      have H1 := Lib.hid h1
      have H5 := Lib.hid h5
      have H6 := Lib.hid h6
      have hwts := H3.out.wts
      have hfew := H3.out.few
      have Hwts := Lib.hid hwts
      clear hon Hdeed H hch hd3 hwt2 hbl2 h5 h6 hwts
      go_wp2_with fail
      go_loopw [19] (fun i wr => ∃ k : Nat, k ≤ d1.wt.length ∧ i = .int .i64 k ∧ BoxAt 86 wr hb (flatB (syncBl (d1.wt.take k) d1.bl)) ∧ Chg (fun q => q = hb) w2 wr) (fun i _ => d1.wt.length - (intOf i).toNat)
      case atStart => exact ⟨0, by omega, rfl, h2, Chg.refl _ _⟩
      case round =>
        obtain ⟨k, hk, rfl, hbb, hcg⟩ := hrel
        have h1r := h1.chg hcg (fun e => h4 e.symm)
        by_cases hlt : k < d1.wt.length
        · have h3r : OwnF 88 cWt wr 0 (.slice A d1.wt.length c) d1.wt := h3.kept fun q hq => hcg.block q (h3.blk q hq).2 (H6.out q hq).2.1
          obtain ⟨ad, rfl, hld⟩ := wt_load h3r.row k hlt
          have hx1 := Hwts.out _ (List.getElem_mem hlt)
          have hsn := syncBl_snoc (d1.wt.take k) (d1.wt[k]) d1.bl
          have htk : d1.wt.take (k + 1) = d1.wt.take k ++ [d1.wt[k]] := by rw [List.take_add_one, List.getElem?_eq_getElem hlt]; rfl
          rw [← htk] at hsn
          have hsl := syncBl_len (d1.wt.take k) d1.bl
          have Hsn := Lib.hid hsn
          have Hcg := Lib.hid hcg
          clear hsn htk hcg h3r
          generalize syncBl (d1.wt.take k) d1.bl = bl at *
          generalize d1.wt[k] = x at *
          have Hld := Lib.hid hld
          clear hld
          go_wp2_with (first
            | (refine wpList_load_agg rfl 88 (.tmp 21) rfl (ad.add (k * 129)) rfl (encW x) Hld.out Try.underlying88 rfl (by rw [encW_len]; kernel_rfl) ?_)
            | (refine wpList_alloc_z rfl 88 rfl info_write zeroWc zeroW_cells ?_)
            | (refine wpList_store_new rfl 88 (.tmp 5) (.tmp 22) rfl zeroWc (encW x) rfl rfl (by rw [encW_len]; kernel_rfl) (by rw [encW_len]; rfl) (encW_one x) ?_))
          have hbx : BoxAt 88 (wr.alloc (.cells (encW x).toArray 88)) wr.heap.size (encW x) := BoxAt.new_ _ _ _
          have hld8 := encW_at hbx
          have h18 := h1r.alloc (.cells (encW x).toArray 88)
          have hbb8 := hbb.alloc (.cells (encW x).toArray 88)
          have hb8 := balloc wr (.cells (encW x).toArray 88)
          have hxn : x.1 < d1.bl.length := hx1
          have hxn2 : (x.1 : Int).toNat = x.1 := rfl
          have Hcg8 := Lib.hid (Hcg.out.trans (Chg.ofBelow hb8)).drew_
          clear hb8
          generalize wr.alloc (.cells (encW x).toArray 88) = w8 at *
          generalize hnb : d1.bl.length = nb at *
          have Hnb := Lib.hid hnb
          clear hnb
          generalize wr.heap.size = gb at *
          simp only [Act.put, List.setIfInBounds_toArray, List.set_cons_zero, List.set_cons_succ]
          refine wp_region_mixL (ds := [23, 24, 25, 26, 27, 28, 29, 30, 31]) 9 (fun _ _ W' => W' = w8.drew) [some 23, some 24, some 25, some 26, some 27, some 28, some 29, some 30, some 31]
            [fun v => v = .pointer (some ⟨g, 0, none⟩), fun v => v = .pointer (some ⟨g, 0, none⟩), fun v => v = .pointer (some ⟨g, 0, none⟩), fun v => v = .slice (some ⟨hb, 0, none⟩) nb nb, fun v => v = .pointer (some ⟨gb, 0, none⟩), fun v => v = .int .i64 (x.1 : Int), fun v => v = .pointer (some ⟨gb, 1, none⟩), fun v => v = .agg (b8s x.2.1).toArray, fun v => v = .pointer (some ⟨hb, x.1 * 128, none⟩)]
            rfl rfl rfl (by kernel_rfl) (by kernel_rfl) ?_ (fun _ => rfl) ?_
          · refine ⟨?_, ?_, ?_, ?_, ?_, ?_, ?_, ?_, ?_, trivial⟩
            · -- 0: slot 23 := Op.move t0
              refine obM_yes fun f bb w' hj hs hd hp => ?_
              simp [PreO, factO, valOf, Region.binds] at hp
              have hj' : w' = w8.drew := hj
              subst hj'
              refine ⟨by simp [Gd, valOf, hp], ?_⟩
              refine mildM_val (.pointer (some ⟨g, 0, none⟩)) ?_ rfl rfl
              simp [execOp, evalF, hp, go_sem]
            · -- 1: slot 24 := Op.nilCheck t23
              refine obM_yes fun f bb w' hj hs hd hp => ?_
              simp [PreO, factO, valOf, Region.binds] at hp
              have hj' : w' = w8.drew := hj
              subst hj'
              refine ⟨by simp [Gd, valOf, hp], ?_⟩
              refine mildM_val (.pointer (some ⟨g, 0, none⟩)) ?_ rfl rfl
              simp [execOp, evalF, hp, go_sem]
            · -- 2: slot 25 := Op.fieldAddr 133 t24 0
              refine obM_yes fun f bb w' hj hs hd hp => ?_
              simp [PreO, factO, valOf, Region.binds] at hp
              have hj' : w' = w8.drew := hj
              subst hj'
              refine ⟨by simp [Gd, valOf, hp], ?_⟩
              refine mildM_val (.pointer (some ⟨g, 0, none⟩)) ?_ rfl rfl
              simp [execOp, evalF, hp, go_sem]
            · -- 3: slot 26 := Op.load 130 t25
              refine obM_yes fun f bb w' hj hs hd hp => ?_
              simp [PreO, factO, valOf, Region.binds] at hp
              have hj' : w' = w8.drew := hj
              subst hj'
              refine ⟨by simp [Gd, valOf, hp], ?_⟩
              have hc := h18.cell 0 _ rfl
              refine mildM_val (.slice (some ⟨hb, 0, none⟩) nb nb) ?_ rfl rfl
              simp [execOp, evalF, hp, go_sem, hc]
            · -- 4: slot 27 := Op.fieldAddr 137 t5 0
              refine obM_yes fun f bb w' hj hs hd hp => ?_
              simp [PreO, factO, valOf, Region.binds] at hp
              have hj' : w' = w8.drew := hj
              subst hj'
              refine ⟨by simp [Gd, valOf, hp], ?_⟩
              refine mildM_val (.pointer (some ⟨gb, 0, none⟩)) ?_ rfl rfl
              simp [execOp, evalF, hp, go_sem]
            · -- 5: slot 28 := Op.load 3 t27
              refine obM_yes fun f bb w' hj hs hd hp => ?_
              simp [PreO, factO, valOf, Region.binds] at hp
              have hj' : w' = w8.drew := hj
              subst hj'
              refine ⟨by simp [Gd, valOf, hp], ?_⟩
              have hc := hbx.cell 0 _ rfl
              refine mildM_val (.int .i64 (x.1 : Int)) ?_ rfl rfl
              simp [execOp, evalF, hp, go_sem, hc]
            · -- 6: slot 29 := Op.fieldAddr 137 t5 1
              refine obM_yes fun f bb w' hj hs hd hp => ?_
              simp [PreO, factO, valOf, Region.binds] at hp
              have hj' : w' = w8.drew := hj
              subst hj'
              refine ⟨by simp [Gd, valOf, hp], ?_⟩
              refine mildM_val (.pointer (some ⟨gb, 1, none⟩)) ?_ rfl rfl
              simp [execOp, evalF, hp, go_sem]
            · -- 7: slot 30 := Op.load 135 t29
              refine obM_yes fun f bb w' hj hs hd hp => ?_
              simp [PreO, factO, valOf, Region.binds] at hp
              have hj' : w' = w8.drew := hj
              subst hj'
              refine ⟨by simp [Gd, valOf, hp], ?_⟩
              have hl := run_loadVar_cells w8.drew ⟨gb, 1, none⟩ 86 (b8s x.2.1) hld8 Try.underlying86 rfl (by rw [blk_len]; kernel_rfl)
              refine mildM_val (.agg (b8s x.2.1).toArray) ?_ rfl rfl
              simp only [execOp, evalF, List.contains_eq_mem, Instr.loadAt, Instr.sureAddr, Sem.run_bind, Sem.run_pure, Result.andThen_ok]
              simp [hp, hl]
            · -- 8: slot 31 := Op.indexAddr 130 t26 t28
              refine obM_yes fun f bb w' hj hs hd hp => ?_
              simp [PreO, factO, valOf, Region.binds] at hp
              have hj' : w' = w8.drew := hj
              subst hj'
              refine ⟨by simp [Gd, valOf, hp], ?_⟩
              refine mildM_val (.pointer (some ⟨hb, x.1 * 128, none⟩)) ?_ rfl rfl
              simp [execOp, evalF, hp, go_sem, hxn, hxn2]
          · intro f bb wd hall hj hp
            have hj' : wd = w8.drew := hj
            subst hj'
            clear hall hj
            simp only [PostO] at hp
            obtain ⟨e0, e1, e2, e3, e4, e5, e6, e7, e8, _⟩ := hp
            simp only [fills, List.foldl_cons, List.foldl_nil, Act.put, List.setIfInBounds_toArray, List.set_cons_zero, List.set_cons_succ, e0, e1, e2, e3, e4, e5, e6, e7, e8]
            clear e0 e1 e2 e3 e4 e5 e6 e7 e8
            simp only [List.drop_succ_cons, List.drop_zero]
            have hbd : BoxAt 86 w8.drew hb (flatB bl) := hbb8
            refine wpList_store_mid rfl 86 (.tmp 31) (.tmp 30) rfl hb (x.1 * 128) (b8s x.2.1).toArray rfl rfl (by have := flatB_there hbd x.1 0 128 (by omega) (by omega); simpa [blk_len] using this) (by simp only [List.size_toArray, blk_len]; kernel_rfl) (all_oneCell_toArray (b8s_one _)) ?_
            simp only [List.toList_toArray]
            have hfin := hbd.setCells_ (b8s x.2.1) (x.1 * 128)
            have hcf := Hcg8.out.trans (Chg.ofGrown (P := fun q => q = hb) (gsetCells hb (b8s x.2.1) w8.drew (x.1 * 128)) fun q e => by injection e with e; exact e.symm)
            have hps := flatB_puts bl x.1 0 x.2.1 (by omega) (by rw [x.2.2]; decide)
            rw [Nat.add_zero] at hps
            rw [hps, over_all, ← Hsn.out] at hfin
            generalize w8.drew.setCells hb (x.1 * 128) (b8s x.2.1) = w9 at *
            clear hps hbd
            go_wp2_with fail
            go_roundw
            case rel => exact ⟨k + 1, by omega, by go_num, hfin, hcf⟩
            case measure => simp [intOf]; omega
        · obtain rfl : k = d1.wt.length := by omega
          rw [List.take_length] at hbb
          have hf1 := h1r.frozen 1
          have hc1 := h1r.cell 1 _ rfl
          clear hc0
          go_wp2_with fail
          go_ret
          have hsz := hcg.size
          refine ⟨rfl, DPost.pre Hch.out ?_⟩
          rw [← Hwt2.out, ← Hbl2.out, ← Hd1.out]
          refine ⟨S, DiskAt.nilW _ rfl (h1r.put 1 _) (by rw [syncBl_len]) (hbb.other _ _ fun e => h4 e.symm) h4 H5.out H3.out.here (fun q hq => by have := H3.out.lt q hq; simp [World.setCell]; omega) (by rw [syncBl_len]; exact H3.out.pos) (by rw [syncBl_len]; exact H3.out.few) H3.out.fuseR, fun q hq => .inl hq, ?_⟩
          exact (hcg.more fun q _ hq => by rw [hq]; exact H5.out).trans (Chg.set wr _ _ H3.out.here)
end Go.Proofs.Ytpoicbhbkabllaa
