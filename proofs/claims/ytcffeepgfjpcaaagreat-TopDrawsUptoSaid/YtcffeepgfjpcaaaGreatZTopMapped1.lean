/- Lemmas for the law TopMapped: Words for memory and for numbers, used by all walks of this seat: what a slice value reads as, what a call leaves below. No condition.; The model's integer operations at UInt8, UInt32, UInt64, as rules of the walk: a value of such a kind is written by its UInt. No condition.; Rows of bytes: append, new rows, whole reads, as laws of the walk; slices.Clone and slices.Equal at bytes. The rows are readable slices.; Rows of anything: how a thing lies in cells (a codec), slices that read as a list, rows of the call's own; append, load and store laws.; What came in: arguments that read as data, opened to what they read as.; Cells put one behind the other; what a call has changed.; What a round keeps; whole things loaded, stored and made within a fence.; A range over a function whose iterator tells of each value what holds of the world at its yield (R), may be left early, and may go on for as long as the body lets it (Bd).; A range over a function as range_z (TopRangeZ), for an iterator that writes into one block that stood ahead of the range (Bs).; Disks: how one lies in memory; its blocks, what waits.; Disks: what each deed does, in plain.; A region that draws its order: if each operation, in whatever later world, from operands that meet their own facts, yields a value that meets its fact, then the region's end meets all facts, whatever the order. The facts are such as later worlds keep. No condition beyond these.; Regions that draw their order and end in operations that wait for a. No condition. -/
import Derived.WalkKit
import Derived.WalkSpells
import Derived.WalkLawsBesides
import Derived.Deep.AppendLies
import Derived.Deep.Draws
import Derived.Deep.QuietTactic
import Derived.BigQuiet
import Derived.Lib.Hide
import Derived.Laws.BitsAllLaws
import Derived.Test.YtcffeepgfjpcaaaGreatRows
import Derived.ChangeArms
import Derived.DataReads
import Derived.WideShapes
import Derived.ProofKit
import Derived.OpenShut
import Derived.ShutString
import Derived.ChangeOld
import Derived.Below
import Derived.Carry
import Derived.Lib.SmallJoins
import Derived.Laws.IdiomCopy
import Derived.RangeFuncNested
import Derived.RangeFuncBound
import Derived.RangeFuncCalls
import Derived.RangeFuncLeaves
import Derived.RangeFuncBox
import Derived.Shelf.Abstract
import Derived.Shelf.RegionOpen
import Derived.OwnWalkIn
import Derived.TacticsInMore
import Derived.LoopNIn
import Derived.LoopIn
import Derived.Deep.WholeRow
import Derived.Deep.MidRow
import Derived.RangeFuncWrites
import Derived.RegionTactic
import Derived.Great.BuildSlice
import Derived.StillTailTactics
import Derived.Outline
import Derived.Lib.BitFns
import Derived.ChangeAlike
import Derived.Laws.StructEq
import Derived.Shelf.Slices.SearchI
import Derived.Shelf.Slices.Empties
import Derived.Shelf.Spec.SlicesInsertGrow
import Derived.Test.YtcffeepgfjpcaaaGreatProg
import Derived.Laws.MakeOwn
namespace Go.Proofs.YtcffeepgfjpcaaaGreat
set_option linter.unusedSimpArgs false
set_option linter.unusedVariables false
open Go.RowKit

/-! ### addresses -/
theorem add_block (a : Addr) (n : Nat) : (a.add n).block = a.block := by unfold Addr.add; split <;> rfl
theorem add_add (a : Addr) (i j : Nat) : (a.add i).add j = a.add (i + j) := by
  unfold Addr.add
  by_cases hi : i = 0 <;> by_cases hj : j = 0 <;> simp [hi, hj, Nat.add_assoc]
theorem add_zero' (a : Addr) : a.add 0 = a := by simp [Addr.add]

/-! ### 'Below' once more -/
theorem bdrewN {B : Nat} {a w : World} (h : Below B a w) (n : Nat) : Below B a (w.drewN n) := ⟨h.os, h.tape, h.output, h.size, h.block⟩
theorem bstep {a b c : World} (h : Below a.heap.size a b) (k : Below b.heap.size b c) : Below a.heap.size a c := h.trans (k.mono h.size)
theorem bstepB {B : Nat} {a b c : World} (h : Below B a b) (k : Below b.heap.size b c) (hB : B ≤ b.heap.size) : Below B a c := h.trans (k.mono hB)
theorem balloc (w : World) (o : Obj) : Below w.heap.size w (w.alloc o) := (Below.refl _ _).alloc (Nat.le_refl _) o

/-! ### a slice that reads as a list of cells; nil let in -/
/-- the slice address A with n elements of 'size' cells reads as xs, all in blocks below B -/
def Rd (w : World) (B size : Nat) (A : Option Addr) (n : Nat) (xs : List Value) : Prop :=
  xs.length = n * size ∧ (0 < n → ∃ ad, A = some ad ∧ ad.block < B ∧ ∀ j u, xs[j]? = some u → w.cell? (ad.add j) = some u)

section
variable {w w' : World} {B B' size n : Nat} {A : Option Addr} {xs : List Value}
theorem Rd.none_ : Rd w B size A 0 [] := ⟨by simp, fun h => absurd h (by omega)⟩
theorem Rd.ad (h : Rd w B size A n xs) (hn : 0 < n) : ∃ ad, A = some ad ∧ ad.block < B ∧ ∀ j u, xs[j]? = some u → w.cell? (ad.add j) = some u := h.2 hn
theorem Rd.keep (h : Rd w B size A n xs) (hk : ∀ p : Addr, p.block < B → w'.cell? p = w.cell? p) : Rd w' B size A n xs :=
  ⟨h.1, fun hn => by
    obtain ⟨ad, e, hb, hc⟩ := h.2 hn
    exact ⟨ad, e, hb, fun j u hu => (hk _ (by rw [add_block]; exact hb)).trans (hc j u hu)⟩⟩
theorem Rd.more (h : Rd w B size A n xs) (hB : B ≤ B') : Rd w B' size A n xs :=
  ⟨h.1, fun hn => by
    obtain ⟨ad, e, hb, hc⟩ := h.2 hn
    exact ⟨ad, e, by omega, hc⟩⟩
theorem Rd.below (h : Rd w B size A n xs) (hb : Below B w w') : Rd w' B size A n xs := h.keep fun _ hp => hb.cell hp
theorem Rd.alloc (h : Rd w B size A n xs) (hB : B ≤ w.heap.size) (o : Obj) : Rd (w.alloc o) B size A n xs := h.keep fun p hp => World.cell?_alloc_lt w o p (by omega)
theorem Rd.cut (h : Rd w B size A n xs) {k cap : Nat} (hk : k ≤ n) (hc : n ≤ cap) :
    Rd w B size (if cap = k then A else A.map (·.add (k * size))) (n - k) (xs.drop (k * size)) := by
  refine ⟨by rw [List.length_drop, h.1, Nat.sub_mul], fun hn => ?_⟩
  obtain ⟨ad, rfl, hb, hcell⟩ := h.2 (by omega)
  rw [if_neg (by omega)]
  refine ⟨ad.add (k * size), rfl, by rw [add_block]; exact hb, fun j u hu => ?_⟩
  rw [add_add]
  exact hcell _ u (by rw [← hu, List.getElem?_drop])
theorem Rd.front (h : Rd w B size A n xs) {k : Nat} (hk : k ≤ n) : Rd w B size A k (xs.take (k * size)) := by
  refine ⟨by rw [List.length_take, h.1]; exact Nat.min_eq_left (Nat.mul_le_mul_right _ hk), fun hn => ?_⟩
  obtain ⟨ad, rfl, hb, hcell⟩ := h.2 (by omega)
  refine ⟨ad, rfl, hb, fun j u hu => hcell j u ?_⟩
  rw [List.getElem?_take] at hu
  split at hu
  · exact hu
  · cases hu
theorem Rd.of_own {base : Nat} {e : TypeId} {c : Nat} (h : w.ownsRow base e size (.slice A n c) n xs) : Rd w w.heap.size size A n xs := by
  refine ⟨h.1, fun hn => ?_⟩
  obtain ⟨g, cap, hv, _, hlt⟩ := h.form hn
  have hA : A = some ⟨g, 0, none⟩ := by injection hv
  subst hA
  exact ⟨_, rfl, hlt, h.cells (g := g) rfl⟩
end

/-! ### append from any readable source -/
section
variable {P : Program} (w : World)

theorem run_append_of_nil (base : Nat) (t ty e : TypeId) (i : TypeInfo) (size : Nat) (ht : P.underlying t = some (.slice e)) (hi : P.info? e = some i)
    (v : Value) (n : Nat) (xs : List Value) (hown : w.ownsRow base e size v n xs) (c : Nat) : (Builtin.append_ #[t, t] ty #[v, .slice none 0 c]).run P w = .ok v w := by
  rcases hown.2 with ⟨rfl, rfl⟩ | ⟨g, cap, cur, rfl, _, _, hnc, _⟩
  · simp [Builtin.append_, run_underlying ht, sizeOf, typeInfo, hi, Builtin.lenOf, Builtin.firstCells]
  · simp [Builtin.append_, run_underlying ht, sizeOf, typeInfo, hi, Builtin.lenOf, Builtin.firstCells, hnc, storeCells]

theorem run_append_rd (base : Nat) (t ty e : TypeId) (i : TypeInfo) (z : Value) (size bytes : Nat) (ht : P.underlying t = some (.slice e)) (hi : P.info? e = some i) (hz : i.zero = some z)
    (hsize : i.size = size) (hby : i.bytes = bytes) (hzs : z.cells.size = size) (hsz : 0 < size)
    (v : Value) (n : Nat) (xs : List Value) (hown : w.ownsRow base e size v n xs)
    (B : Nat) (A : Option Addr) (m c : Nat) (news : List Value) (hr : Rd w B size A m news) (h1 : ∀ u ∈ news, u.oneCell' = true)
    (h63 : n + m ≤ maxLen) (hbytes : (n + m) * bytes ≤ 140737488355328) (hbase : base ≤ w.heap.size) :
    ∃ v' w', (Builtin.append_ #[t, t] ty #[v, .slice A m c]).run P w = .ok v' w' ∧ w'.ownsRow base e size v' (n + m) (xs ++ news) ∧ w.grownBy w' v.ownBlock ∧
      (v'.ownBlock = v.ownBlock ∨ v'.ownBlock = some w.heap.size) := by
  rcases A with _ | ad
  · have hm : m = 0 := by
      rcases Nat.eq_zero_or_pos m with h0 | h0
      · exact h0
      · obtain ⟨ad, h, _⟩ := hr.2 h0
        cases h
    subst hm
    have hn : news = [] := List.eq_nil_of_length_eq_zero (by simpa using hr.1)
    subst hn
    exact ⟨v, w, run_append_of_nil w base t ty e i size ht hi v n xs hown c, by simpa using hown, World.grownBy.refl w _, .inl rfl⟩
  · have hcells : ∀ j u, news[j]? = some u → w.cell? (ad.add j) = some u := by
      intro j u hu
      rcases Nat.eq_zero_or_pos m with h0 | h0
      · subst h0
        have hn : news = [] := List.eq_nil_of_length_eq_zero (by simpa using hr.1)
        subst hn
        simp at hu
      · obtain ⟨ad', h, _, hc⟩ := hr.2 h0
        injection h with h
        subst h
        exact hc j u hu
    obtain ⟨v', w', hrun, h2, h3, _, h5⟩ := run_append_own_at (P := P) w base t ty e i z size bytes ht hi hz hsize hby hzs hsz v n xs hown ad m c news hr.1 hcells h1 h63 hbytes hbase
    exact ⟨v', w', hrun, h2, h3, h5⟩
end

/-! ### a whole struct or array, stored into a block -/
section
variable {P : Program}
theorem run_storeVar_at (w : World) (g o : Nat) (t ty : TypeId) (cur vals : Array Value) (hg : w.heap[g]? = some (.cells cur t (0, 0))) (hi : (P.info? ty).map (·.size) = some vals.size)
    (hfit : o + vals.size ≤ cur.size) (h1 : ∀ v ∈ vals.toList, v.oneCell' = true) :
    (storeVar ty ⟨g, o, none⟩ (.agg vals)).run P w = .ok () (w.setRow g (cur.toList.take o ++ vals.toList ++ cur.toList.drop (o + vals.size)).toArray) := by
  have hst := run_storeCells_at P g o t vals.toList 0 cur w hg (by simpa using hfit) h1
  cases hq : P.info? ty with
  | none => simp [hq] at hi
  | some i =>
    have hs : i.size = vals.size := by simpa [hq] using hi
    simp [storeVar, Value.cells, sizeOf, typeInfo, hq, hs, hst]
theorem run_storeVar_row (w : World) (g : Nat) (t ty : TypeId) (cur vals : Array Value) (hg : w.heap[g]? = some (.cells cur t (0, 0))) (hi : (P.info? ty).map (·.size) = some vals.size)
    (hfit : vals.size = cur.size) (h1 : ∀ v ∈ vals.toList, v.oneCell' = true) : (storeVar ty ⟨g, 0, none⟩ (.agg vals)).run P w = .ok () (w.setRow g vals) := by
  rw [run_storeVar_at w g 0 t ty cur vals hg hi (by omega) h1]
  have : cur.toList.drop (0 + vals.size) = [] := List.drop_eq_nil_of_le (by simp; omega)
  rw [this]
  simp
theorem wpList_store_row {ops : Array Oper} {rest : List Oper} {o : Oper} {a : Act} {w : World} {Q : Exit → Act → World → Prop} (hgd : o.guard = none) (ty : TypeId) (x y : Operand) (ho : o.op = .store ty x y)
    (g : Nat) (vals : Array Value) (hx : a.eval x = .pointer (some ⟨g, 0, none⟩)) (hy : a.eval y = .agg vals) (t : TypeId) (cur : Array Value) (hg : w.heap[g]? = some (.cells cur t (0, 0)))
    (hi : (P.info? ty).map (·.size) = some vals.size) (hfit : vals.size = cur.size) (h1 : ∀ v ∈ vals.toList, v.oneCell' = true)
    (h : wpList P ops Q rest (a.put o.dst undef) (w.setRow g vals)) : wpList P ops Q (o :: rest) a w :=
  wpList_plain hgd fun K hK => by
    unfold Oper.wp execOp
    simp only [ho, hx, hy, Instr.storeAt, Instr.sureAddr, Sem.run_bind, Sem.run_pure, Result.andThen_ok, run_storeVar_row w g t ty cur vals hg hi hfit h1]
    exact hK _ _ h
end

/-! ### bytes -/
/-- a byte as a value -/
def b8 (b : UInt8) : Value := .int .u8 (b.toNat : Int)
/-- the cells of a list of bytes -/
def b8s (l : List UInt8) : List Value := l.map b8
theorem b8s_length (l : List UInt8) : (b8s l).length = l.length := by simp [b8s]
theorem b8s_get (l : List UInt8) (k : Nat) (h : k < l.length) : (b8s l)[k]? = some (.int .u8 ((l[k]).toNat : Int)) := by simp [b8s, h, b8]
theorem b8s_append (a b : List UInt8) : b8s (a ++ b) = b8s a ++ b8s b := by simp [b8s]
theorem b8s_one (l : List UInt8) : ∀ u ∈ b8s l, u.oneCell' = true := by
  intro u hu
  obtain ⟨_, _, rfl⟩ := List.mem_map.1 hu
  rfl

/-- the value v is a slice of bytes that reads as l, in blocks below B -/
def By (w : World) (B : Nat) (v : Value) (l : List UInt8) : Prop :=
  ∃ A c, v = .slice A l.length c ∧ l.length ≤ c ∧ c ≤ maxLen ∧ Rd w B 1 A l.length (b8s l)

/-- the value v is a slice of bytes of the call's own, all of whose cells lie in blocks from base on -/
def Ow (w : World) (base : Nat) (v : Value) (l : List UInt8) : Prop := w.ownsRow base 5 1 v l.length (b8s l)

section
variable {w w' : World} {B B' : Nat} {v : Value} {l : List UInt8}
theorem By.below (h : By w B v l) (hb : Below B w w') : By w' B v l := by
  obtain ⟨A, c, h1, h2, h3, h4⟩ := h
  exact ⟨A, c, h1, h2, h3, h4.below hb⟩
theorem By.more (h : By w B v l) (hB : B ≤ B') : By w B' v l := by
  obtain ⟨A, c, h1, h2, h3, h4⟩ := h
  exact ⟨A, c, h1, h2, h3, h4.more hB⟩
theorem By.alloc (h : By w B v l) (hB : B ≤ w.heap.size) (o : Obj) : By (w.alloc o) B v l := by
  obtain ⟨A, c, h1, h2, h3, h4⟩ := h
  exact ⟨A, c, h1, h2, h3, h4.alloc hB o⟩
theorem By.step (h : By w w.heap.size v l) (hb : Below w.heap.size w w') : By w' w'.heap.size v l := (h.below hb).more hb.size
theorem By.nil_ : By w B (.slice none 0 0) [] := ⟨none, 0, rfl, Nat.le_refl _, Nat.zero_le _, Rd.none_⟩
theorem Ow.by_ {base : Nat} (h : Ow w base v l) : By w w.heap.size v l := by
  unfold Ow at h
  rcases h.2 with ⟨rfl, hn⟩ | ⟨g, cap, cur, rfl, _, hg, hnc, hcm, _⟩
  · have : l = [] := List.eq_nil_of_length_eq_zero hn
    subst this
    exact By.nil_
  · exact ⟨_, cap, rfl, hnc, hcm, Rd.of_own h⟩
theorem Ow.mono {base base' : Nat} (h : Ow w base v l) (hb : base' ≤ base) : Ow w base' v l := by
  refine ⟨h.1, ?_⟩
  rcases h.2 with h2 | ⟨g, cap, cur, h1, h2, h3⟩
  · exact .inl h2
  · exact .inr ⟨g, cap, cur, h1, Nat.le_trans hb h2, h3⟩
end

end Go.Proofs.YtcffeepgfjpcaaaGreat

namespace Go.Proofs.YtcffeepgfjpcaaaGreat
set_option linter.unusedSimpArgs false
set_option linter.unusedVariables false

theorem u8_lt (x : UInt8) : x.toNat < 256 := x.toNat_lt
theorem u32_lt (x : UInt32) : x.toNat < 4294967296 := x.toNat_lt
theorem u64_lt (x : UInt64) : x.toNat < 18446744073709551616 := x.toNat_lt

/-! conversions -/
theorem wrap_u64 (n : Int) : IntKind.u64.wrap n = n % 18446744073709551616 := by simp [IntKind.wrap, IntKind.bits, IntKind.signed]
theorem wrap_i64 (n : Int) : IntKind.i64.wrap n = (n + 9223372036854775808) % 18446744073709551616 - 9223372036854775808 := by
  simp [IntKind.wrap, IntKind.bits, IntKind.signed]
  omega
theorem xor_u64 (a b : UInt64) : bits .xor .u64 (a.toNat : Int) (b.toNat : Int) = ((a ^^^ b).toNat : Int) := by rw [u64_xor_nat _ _ (u64_lt a) (u64_lt b), UInt64.toNat_xor]

/-! shifts by a literal -/
theorem shr_u64 (a : UInt64) (k : Nat) (hk : k < 64) : ((a.toNat : Int)).fdiv (2 ^ k) = ((a >>> (UInt64.ofNat k)).toNat : Int) := by
  have h : (UInt64.ofNat k).toNat % 64 = k := by rw [UInt64.toNat_ofNat']; omega
  rw [UInt64.toNat_shiftRight, h, Nat.shiftRight_eq_div_pow, Int.fdiv_eq_ediv_of_nonneg _ (by exact Int.le_of_lt (Int.pow_pos (by decide)))]
  simp
theorem mul_u64 (a b : UInt64) : IntKind.u64.wrap ((a.toNat : Int) * (b.toNat : Int)) = ((a * b).toNat : Int) := by
  rw [wrap_u64, UInt64.toNat_mul]; simp
theorem add_u64 (a b : UInt64) : IntKind.u64.wrap ((a.toNat : Int) + (b.toNat : Int)) = ((a + b).toNat : Int) := by
  rw [wrap_u64, UInt64.toNat_add]; simp

theorem div_u64 (x : UInt64) (k : Nat) (hk : k < 64) (d : Int) (hd : d = 2 ^ k) : (x.toNat : Int) / d = ((x >>> UInt64.ofNat k).toNat : Int) := by
  rw [hd, ← shr_u64 x k hk, Int.fdiv_eq_ediv_of_nonneg _ (by exact Int.le_of_lt (Int.pow_pos (by decide)))]
end Go.Proofs.YtcffeepgfjpcaaaGreat

namespace Go.Proofs.YtcffeepgfjpcaaaGreat
set_option linter.unusedSimpArgs false
set_option linter.unusedVariables false
open Go.RowKit

/-! ### what an append onto an own row leaves -/
structure Ext (w w' : World) (v v' : Value) : Prop where
  gr : w.grownBy w' v.ownBlock
  at_ : v'.ownBlock = v.ownBlock ∨ ∀ k, v'.ownBlock = some k → w.heap.size ≤ k
theorem Ext.refl (w : World) (v : Value) : Ext w w v v := ⟨World.grownBy.refl _ _, .inl rfl⟩
theorem Ext.trans {a b c : World} {u v x : Value} (h : Ext a b u v) (k : Ext b c v x) : Ext a c u x := by
  refine ⟨⟨k.gr.os.trans h.gr.os, k.gr.tape.trans h.gr.tape, k.gr.output.trans h.gr.output, Nat.le_trans h.gr.size k.gr.size, fun i hi hne => ?_⟩, ?_⟩
  · refine (k.gr.block i (Nat.lt_of_lt_of_le hi h.gr.size) (fun e => ?_)).trans (h.gr.block i hi hne)
    rcases h.at_ with h1 | h1
    · exact hne (by rw [e, h1])
    · exact absurd (h1 i e.symm) (by omega)
  · rcases k.at_ with k1 | k1
    · rcases h.at_ with h1 | h1
      · exact .inl (k1.trans h1)
      · exact .inr fun i hi => h1 i (by rw [← k1]; exact hi)
    · exact .inr fun i hi => Nat.le_trans h.gr.size (k1 i hi)
theorem Ext.below {w w' : World} {v v' : Value} (h : Ext w w' v v') {B : Nat} (hB : B ≤ w.heap.size) (hv : ∀ k, v.ownBlock = some k → B ≤ k) : Below B w w' :=
  (Below.refl B w).grown h.gr hB hv
theorem Ext.after {a w w' : World} {v v' : Value} (h : Ext w w' v v') (hb : Below a.heap.size a w) (row : Value) (hv : v.ownBlock = row.ownBlock) : Ext a w' row v' := by
  refine ⟨⟨h.gr.os.trans hb.os, h.gr.tape.trans hb.tape, h.gr.output.trans hb.output, Nat.le_trans hb.size h.gr.size, fun i hi hne => ?_⟩, ?_⟩
  · exact (h.gr.block i (Nat.lt_of_lt_of_le hi hb.size) (by rw [hv]; exact hne)).trans (hb.block i hi)
  · rcases h.at_ with h1 | h1
    · exact .inl (h1.trans hv)
    · exact .inr fun k hk => Nat.le_trans hb.size (h1 k hk)
theorem info8 : (Tryz.prog.info? 5).map (fun i => (i.zero, i.size, i.bytes)) = some (some (.int .u8 0), 1, 1) := by kernel_rfl
section
variable {w w' : World} {base B : Nat} {v : Value} {l : List UInt8}
theorem Ow.blk (h : Ow w base v l) : ∀ k, v.ownBlock = some k → base ≤ k ∧ k < w.heap.size := World.ownsRow.lt h
theorem Ow.keep (h : Ow w base v l) {row : Option Nat} (hg : w.grownBy w' row) (hne : v.ownBlock = none ∨ v.ownBlock ≠ row) : Ow w' base v l := World.ownsRow.kept h hg hne
theorem Ow.below_ (h : Ow w base v l) (hb : Below w.heap.size w w') : Ow w' base v l :=
  World.ownsRow.kept h (row := none) ⟨hb.os, hb.tape, hb.output, hb.size, fun k hk _ => hb.block k hk⟩ (by cases hv : v.ownBlock <;> simp)
theorem Ow.nil_ (w : World) (base : Nat) : Ow w base (.slice none 0 0) [] := World.ownsRow_nil _ _ _ _
theorem Ow.alloc (h : Ow w base v l) (o : Obj) : Ow (w.alloc o) base v l := World.ownsRow.alloc h o
theorem Ow.form (h : Ow w base v l) (hl : l ≠ []) : ∃ g cap, v = .slice (some ⟨g, 0, none⟩) l.length cap ∧ l.length ≤ cap ∧ cap ≤ maxLen ∧ base ≤ g ∧ g < w.heap.size := by
  obtain ⟨g, cap, hv, hb, hlt⟩ := World.ownsRow.form (size := 1) h (List.length_pos_iff.2 hl)
  rcases h.2 with ⟨rfl, _⟩ | ⟨g', cap', cur, hv', _, _, h1, h2, _⟩
  · cases hv
  · rw [hv] at hv'
    injection hv' with e1 e2 e3
    subst e3
    exact ⟨g, cap, hv, h1, h2, hb, hlt⟩
end

/-- a new row of bytes, written out -/
theorem By.new_ (w : World) (l : List UInt8) (hm : l.length ≤ maxLen) : By (w.alloc (.cells (b8s l).toArray 5)) (w.heap.size + 1) (.slice (some ⟨w.heap.size, 0, none⟩) l.length l.length) l :=
  ⟨_, _, rfl, Nat.le_refl _, hm, by simp [b8s_length], fun _ => ⟨_, rfl, by simp, fun j u hu => World.news_of_block (heap_alloc_new w _) j u (by simpa using hu)⟩⟩
theorem Ow.new_ (w : World) (l : List UInt8) (hm : l.length ≤ maxLen) : Ow (w.alloc (.cells (b8s l).toArray 5)) w.heap.size (.slice (some ⟨w.heap.size, 0, none⟩) l.length l.length) l := by
  refine ⟨by simp [b8s_length], .inr ⟨w.heap.size, l.length, _, rfl, Nat.le_refl _, heap_alloc_new w _, Nat.le_refl _, hm, by simp [b8s_length], ?_⟩⟩
  exact List.take_of_length_le (by simp [b8s_length])

/-- append(s, x...), s the call's own, x any readable row -/
theorem wpList_app8 {ops : Array Oper} {rest : List Oper} {o : Oper} {a : Act} {w : World} {Q : Exit → Act → World → Prop} (hgd : o.guard = none) (s x : Operand)
    (ho : o.op = .call { callee := .builtin .append, args := #[s, x], argTypes := #[40, 40] })
    {base B : Nat} {v v2 : Value} {l l2 : List UInt8} (hown : Ow w base v l) (hby : By w B v2 l2) (hs : a.eval s = v) (hx : a.eval x = v2)
    (hsz : l.length + l2.length ≤ 140737488355328) (hbase : base ≤ w.heap.size)
    (h : ∀ v' w', Ow w' base v' (l ++ l2) → Ext w w' v v' → wpList Tryz.prog ops Q rest (a.put o.dst v') w') : wpList Tryz.prog ops Q (o :: rest) a w := by
  obtain ⟨i, hi, hz0, hz1, hz2⟩ := info_parts info8
  obtain ⟨A, c, rfl, _, _, hrd⟩ := hby
  refine wpList_plain hgd fun K hK => ?_
  obtain ⟨v', w', hr, h2, h3, h5⟩ := run_append_rd (P := Tryz.prog) w base 40 o.type 5 i (.int .u8 0) 1 1 Tryz.underlying40 hi hz0 hz1 hz2 rfl (by omega) v l.length (b8s l) hown B A l2.length c (b8s l2) hrd (b8s_one l2)
    (by unfold maxLen; omega) (by omega) hbase
  unfold Oper.wp execOp
  simp only [ho, resolve, invoke, builtin, Sem.run_bind, Sem.run_pure, Result.andThen_ok, List.map_toArray, List.map_cons, List.map_nil, hs, hx, hr]
  refine hK _ _ (h v' w' ?_ ⟨h3, ?_⟩)
  · unfold Ow
    rw [List.length_append, b8s_append]
    exact h2
  · rcases h5 with h5 | h5
    · exact .inl h5
    · exact .inr fun k hk => by rw [h5] at hk; injection hk with hk; omega

/-! ### bytes to a string -/
def bst (l : List UInt8) : ByteArray := ⟨l.toArray⟩
theorem bst_toList (l : List UInt8) : (bst l).toList = l := ByteArray.toList_mk l
theorem foldl_push8 : ∀ (ns : List UInt8) (s : ByteArray), (ns.map fun b => (b.toNat : Int)).foldl (fun r n => r.push (UInt8.ofNat n.toNat)) s = ⟨s.data ++ ns.toArray⟩ := by
  intro ns
  induction ns with
  | nil => intro s; simp
  | cons n ns ih =>
    intro s
    rw [List.map_cons, List.foldl_cons, ih]
    simp [ByteArray.push]
theorem conv8 {w : World} {B : Nat} {v : Value} {l : List UInt8} (h : By w B v l) : (convert 40 9 v).run Tryz.prog w = .ok (.string (bst l)) w := by
  obtain ⟨A, c, rfl, _, _, hr⟩ := h
  rw [run_convert_bytes_string w _ _ 5 A l.length c Tryz.underlying40 Tryz.underlying5 Tryz.underlying9]
  cases A with
  | none =>
    have h0 : l.length = 0 := by
      rcases Nat.eq_zero_or_pos l.length with h | h
      · exact h
      · obtain ⟨_, h, _⟩ := hr.ad h; cases h
    have hl : l = [] := List.eq_nil_of_length_eq_zero h0
    subst hl
    rfl
  | some ad =>
    have hc : ∀ j u, (b8s l)[j]? = some u → w.cell? (ad.add j) = some u := by
      intro j u hu
      rcases Nat.eq_zero_or_pos l.length with h | h
      · have hl : l = [] := List.eq_nil_of_length_eq_zero h
        subst hl
        simp [b8s] at hu
      · obtain ⟨ad', e, _, hc⟩ := hr.ad h
        injection e with e
        subst e
        exact hc j u hu
    have hl := run_loadCells_list (P := Tryz.prog) w ad (b8s l) hc
    rw [b8s_length] at hl
    have hm : b8s l = (l.map fun b => (b.toNat : Int)).map (Value.int .u8) := by simp [b8s, b8]
    rw [hm] at hl
    rw [run_bytesToString w ad l.length c (l.map fun b => (b.toNat : Int)) hl, foldl_push8]
    simp [bst, ByteArray.empty, ByteArray.emptyWithCapacity]
    rfl
theorem eqnil (t e : TypeId) (h : Tryz.prog.underlying t = some (.slice e)) (w : World) (A : Option Addr) (n c : Nat) : (binOp .eql t (.slice A n c) (.slice none 0 0)).run Tryz.prog w = .ok (.bool A.isNone) w := Lib.run_eql_slice_nil w t e A n c 0 0 h

set_option maxHeartbeats 400000 in
/-- slices.Clone at bytes: the same bytes in memory of one's own -/
theorem clone8 (w : World) (v : Value) (l : List UInt8) (hby : By w w.heap.size v l) (hsz : l.length ≤ 140737488355328) :
    Calls Tryz.prog 96 #[v] w fun e w' => ∃ v', e = .returned v' ∧ Ow w' w.heap.size v' l ∧ Below w.heap.size w w' := by
  have hby2 := hby.alloc (Nat.le_refl _) (.cells #[] 5)
  obtain ⟨A, c, rfl, hc1, hc2, hrd⟩ := hby
  have hn := eqnil 40 5 Tryz.underlying40
  cases A with
  | none =>
    have h0 : l.length = 0 := by
      rcases Nat.eq_zero_or_pos l.length with h | h
      · exact h
      · obtain ⟨_, h, _⟩ := hrd.ad h; cases h
    have hl : l = [] := List.eq_nil_of_length_eq_zero h0
    subst hl
    go_enter Tryz.func96, Tryz.ntmps96
    go_wp2
    go_ret
    exact ⟨_, rfl, Ow.nil_ _ _, Below.refl _ _⟩
  | some ad =>
    go_enter Tryz.func96, Tryz.ntmps96
    go_wp2_with (first
      | (at_builtin
         refine wpList_app8 rfl (.tmp 5) (.tmp 6) rfl (Ow.new_ w [] (Nat.zero_le _)) hby2 rfl rfl (by simpa using hsz) (by simp) ?_
         intro v1 w1 hown1 hext1))
    go_ret
    exact ⟨_, rfl, by simpa using hown1, ((Below.refl _ _).alloc (Nat.le_refl _) _).trans (hext1.below (by simp) (by simp [Value.ownBlock]))⟩

/-! ### reading and writing an own row -/
section
variable {w : World} {base g n cap : Nat} {l : List UInt8} {v : Value}
theorem Ow.drew (h : Ow w base v l) : Ow w.drew base v l := h
end

theorem By.front_ {w : World} {B : Nat} {A : Option Addr} {n c : Nat} {l : List UInt8} (h : By w B (.slice A n c) l) {k : Nat} (hk : k ≤ l.length) : By w B (.slice A k c) (l.take k) := by
  obtain ⟨A', c', e, h1, h2, hr⟩ := h
  injection e with e1 e2 e3
  subst e1; subst e2; subst e3
  refine ⟨A, c, by simp [hk], by simp; omega, h2, ?_⟩
  have := hr.front hk
  simpa [b8s, List.map_take, hk] using this
theorem By.back_ {w : World} {B : Nat} {A : Option Addr} {n c : Nat} {l : List UInt8} (h : By w B (.slice A n c) l) {k : Nat} (hk : k ≤ l.length) :
    By w B (.slice (if c = k then A else A.map (·.add k)) (l.length - k) (c - k)) (l.drop k) := by
  obtain ⟨A', c', e, h1, h2, hr⟩ := h
  injection e with e1 e2 e3
  subst e1; subst e2; subst e3
  refine ⟨if c = k then A else A.map (·.add k), c - k, by simp, by simp; omega, by omega, ?_⟩
  have := hr.cut hk h1
  simpa [b8s, List.map_drop] using this
theorem By.len_ {w : World} {B : Nat} {A : Option Addr} {n c : Nat} {l : List UInt8} (h : By w B (.slice A n c) l) : n = l.length ∧ l.length ≤ c ∧ c ≤ maxLen := by
  obtain ⟨A', c', e, h1, h2, hr⟩ := h
  injection e with e1 e2 e3
  exact ⟨e2, by omega, by omega⟩

/-! ### what a law's frame tells of a slice of bytes that came in -/
theorem u8_of_wf {n : Int} (h : (Lit.int .u8 n).wf = true) : ∃ b : UInt8, n = (b.toNat : Int) := by
  have hb : 0 ≤ n ∧ n ≤ 255 := by
    simp [Lit.wf, IntKind.min, IntKind.max, IntKind.bits, IntKind.signed] at h
    omega
  refine ⟨UInt8.ofNat n.toNat, ?_⟩
  rw [UInt8.toNat_ofNat']
  omega
theorem u32_of_wf {n : Int} (h : (Lit.int .u32 n).wf = true) : ∃ b : UInt32, n = (b.toNat : Int) := by
  have hb : 0 ≤ n ∧ n ≤ 4294967295 := by
    simp [Lit.wf, IntKind.min, IntKind.max, IntKind.bits, IntKind.signed] at h
    omega
  refine ⟨UInt32.ofNat n.toNat, ?_⟩
  rw [UInt32.toNat_ofNat']
  omega
theorem u64_of_wf {n : Int} (h : (Lit.int .u64 n).wf = true) : ∃ b : UInt64, n = (b.toNat : Int) := by
  have hb : 0 ≤ n ∧ n ≤ 18446744073709551615 := by
    simp [Lit.wf, IntKind.min, IntKind.max, IntKind.bits, IntKind.signed] at h
    omega
  refine ⟨UInt64.ofNat n.toNat, ?_⟩
  rw [UInt64.toNat_ofNat']
  omega
theorem i64_of_wf {n : Int} (h : (Lit.int .i64 n).wf = true) : -9223372036854775808 ≤ n ∧ n ≤ 9223372036854775807 := by
  simp [Lit.wf, IntKind.min, IntKind.max, IntKind.bits, IntKind.signed] at h
  omega
end Go.Proofs.YtcffeepgfjpcaaaGreat

namespace Go.Proofs.YtcffeepgfjpcaaaGreat
set_option linter.unusedSimpArgs false
set_option linter.unusedVariables false
open Go.RowKit

/-- how a thing lies in cells; S: the blocks in which what it leads to may be -/
structure Cdc (α : Type) where
  n : Nat
  at_ : World → (Nat → Prop) → List Value → α → Prop
  len : ∀ {w S cs x}, at_ w S cs x → cs.length = n
  one : ∀ {w S cs x}, at_ w S cs x → ∀ u ∈ cs, u.oneCell' = true
  keep : ∀ {w w' S cs x}, at_ w S cs x → (∀ p : Addr, S p.block → w'.cell? p = w.cell? p) → at_ w' S cs x
  mono : ∀ {w S S' cs x}, at_ w S cs x → (∀ k, S k → S' k) → at_ w S' cs x

/-- a thing without pointers -/
def Cdc.flat {α : Type} (n : Nat) (enc : α → List Value) (ok : α → Prop) (hl : ∀ x, (enc x).length = n) (h1 : ∀ x, ∀ u ∈ enc x, u.oneCell' = true) : Cdc α where
  n := n
  at_ := fun _ _ cs x => cs = enc x ∧ ok x
  len := fun h => by rw [h.1]; exact hl _
  one := fun h => by rw [h.1]; exact h1 _
  keep := fun h _ => h
  mono := fun h _ => h

/-- the slice value v reads as xs: its row in a block of O, what the elements lead to in blocks of S -/
def RowOn {α : Type} (C : Cdc α) (w : World) (O S : Nat → Prop) (v : Value) (xs : List α) : Prop :=
  ∃ A c, v = .slice A xs.length c ∧ xs.length ≤ c ∧ c ≤ maxLen ∧ (0 < xs.length → ∃ ad, A = some ad ∧ O ad.block ∧
    ∀ (i : Nat) (x : α), xs[i]? = some x → ∃ cs, C.at_ w S cs x ∧ ∀ (j : Nat) (u : Value), cs[j]? = some u → w.cell? (ad.add (i * C.n + j)) = some u)

section
variable {α β : Type} {C : Cdc α} {w w' : World} {O O' S S' : Nat → Prop} {v : Value} {xs : List α}
theorem RowOn.keep (h : RowOn C w O S v xs) (hO : ∀ p : Addr, O p.block → w'.cell? p = w.cell? p) (hS : ∀ p : Addr, S p.block → w'.cell? p = w.cell? p) : RowOn C w' O S v xs := by
  obtain ⟨A, c, h1, h2, h3, h4⟩ := h
  refine ⟨A, c, h1, h2, h3, fun hn => ?_⟩
  obtain ⟨ad, e, hb, hc⟩ := h4 hn
  refine ⟨ad, e, hb, fun i x hx => ?_⟩
  obtain ⟨cs, ha, hcs⟩ := hc i x hx
  exact ⟨cs, C.keep ha hS, fun j u hu => (hO _ (by rw [add_block]; exact hb)).trans (hcs j u hu)⟩
theorem RowOn.mono (h : RowOn C w O S v xs) (hO : ∀ k, O k → O' k) (hS : ∀ k, S k → S' k) : RowOn C w O' S' v xs := by
  obtain ⟨A, c, h1, h2, h3, h4⟩ := h
  refine ⟨A, c, h1, h2, h3, fun hn => ?_⟩
  obtain ⟨ad, e, hb, hc⟩ := h4 hn
  refine ⟨ad, e, hO _ hb, fun i x hx => ?_⟩
  obtain ⟨cs, ha, hcs⟩ := hc i x hx
  exact ⟨cs, C.mono ha hS, hcs⟩
theorem RowOn.nil_ : RowOn C w O S (.slice none 0 0) [] := ⟨none, 0, rfl, Nat.le_refl _, Nat.zero_le _, fun h => absurd h (by simp)⟩
theorem RowOn.form (h : RowOn C w O S v xs) : ∃ A c, v = .slice A xs.length c ∧ xs.length ≤ c ∧ c ≤ maxLen := by
  obtain ⟨A, c, h1, h2, h3, _⟩ := h
  exact ⟨A, c, h1, h2, h3⟩
theorem RowOn.len_ {A : Option Addr} {n c : Nat} (h : RowOn C w O S (.slice A n c) xs) : n = xs.length ∧ xs.length ≤ c ∧ c ≤ maxLen := by
  obtain ⟨A', c', e, h1, h2, _⟩ := h
  injection e with e1 e2 e3
  subst e3
  exact ⟨e2, h1, h2⟩
/-- the cells of one element -/
theorem RowOn.at_ {A : Option Addr} {n c : Nat} (h : RowOn C w O S (.slice A n c) xs) (i : Nat) (x : α) (hx : xs[i]? = some x) :
    ∃ ad cs, A = some ad ∧ O ad.block ∧ C.at_ w S cs x ∧ ∀ (j : Nat) (u : Value), cs[j]? = some u → w.cell? (ad.add (i * C.n + j)) = some u := by
  obtain ⟨A', c', e, h1, h2, h3⟩ := h
  injection e with e1 e2 e3
  subst e1
  obtain ⟨ad, ea, hb, hc⟩ := h3 (by have := (List.getElem?_eq_some_iff.1 hx).1; omega)
  obtain ⟨cs, ha, hcs⟩ := hc i x hx
  exact ⟨ad, cs, ea, hb, ha, hcs⟩
theorem RowOn.front {A : Option Addr} {n c : Nat} (h : RowOn C w O S (.slice A n c) xs) {k : Nat} (hk : k ≤ xs.length) : RowOn C w O S (.slice A k c) (xs.take k) := by
  obtain ⟨A', c', e, h1, h2, h3⟩ := h
  injection e with e1 e2 e3
  subst e1; subst e3
  refine ⟨A, c, by simp [hk], by simp; omega, h2, fun hn => ?_⟩
  obtain ⟨ad, ea, hb, hc⟩ := h3 (by simp at hn; omega)
  refine ⟨ad, ea, hb, fun i x hx => hc i x ?_⟩
  rw [List.getElem?_take] at hx
  split at hx
  · exact hx
  · cases hx
theorem RowOn.back {A : Option Addr} {n c : Nat} (h : RowOn C w O S (.slice A n c) xs) {k : Nat} (hk : k ≤ xs.length) :
    RowOn C w O S (.slice (if c = k then A else A.map (·.add (k * C.n))) (xs.length - k) (c - k)) (xs.drop k) := by
  obtain ⟨A', c', e, h1, h2, h3⟩ := h
  injection e with e1 e2 e3
  subst e1; subst e3
  refine ⟨if c = k then A else A.map (·.add (k * C.n)), c - k, by simp, by simp; omega, by omega, fun hn => ?_⟩
  simp only [List.length_drop] at hn
  obtain ⟨ad, rfl, hb, hc⟩ := h3 (by omega)
  rw [if_neg (by omega)]
  refine ⟨ad.add (k * C.n), rfl, by rw [add_block]; exact hb, fun i x hx => ?_⟩
  rw [List.getElem?_drop] at hx
  obtain ⟨cs, ha, hcs⟩ := hc _ x hx
  refine ⟨cs, ha, fun j u hu => ?_⟩
  rw [add_add, ← hcs j u hu]
  congr 2
  rw [Nat.add_mul, Nat.add_assoc]

/-- a slice as a thing of one cell -/
def Cdc.row (C : Cdc α) : Cdc (List α) where
  n := 1
  at_ := fun w S cs xs => ∃ v, cs = [v] ∧ RowOn C w S S v xs
  len := fun h => by obtain ⟨v, rfl, _⟩ := h; rfl
  one := fun h => by obtain ⟨v, rfl, h⟩ := h; obtain ⟨A, c, rfl, _⟩ := h; intro u hu; simp at hu; subst hu; rfl
  keep := fun h hk => by obtain ⟨v, e, h⟩ := h; exact ⟨v, e, h.keep hk hk⟩
  mono := fun h hk => by obtain ⟨v, e, h⟩ := h; exact ⟨v, e, h.mono hk hk⟩
/-- the same, read as another type -/
def Cdc.map (C : Cdc α) (f : β → α) : Cdc β where
  n := C.n
  at_ := fun w S cs x => C.at_ w S cs (f x)
  len := fun h => C.len h
  one := fun h => C.one h
  keep := fun h hk => C.keep h hk
  mono := fun h hk => C.mono h hk

end

/-! ### lists of lists of one length -/
theorem flat_get {α : Type} (n : Nat) : ∀ (css : List (List α)) (_ : ∀ cs ∈ css, cs.length = n) (i : Nat) (cs : List α) (j : Nat), css[i]? = some cs → j < n → css.flatten[i * n + j]? = cs[j]?
  | [], _, i, cs, j, h, _ => by simp at h
  | c :: css, hl, 0, cs, j, h, hj => by
    simp at h; subst h
    simp only [Nat.zero_mul, Nat.zero_add, List.flatten_cons]
    rw [List.getElem?_append_left (by rw [hl c (by simp)]; exact hj)]
  | c :: css, hl, i + 1, cs, j, h, hj => by
    have h' : css[i]? = some cs := by simpa using h
    rw [List.flatten_cons, List.getElem?_append_right (by rw [hl c (by simp), Nat.add_mul]; omega), hl c (by simp)]
    rw [show (i + 1) * n + j - n = i * n + j from by rw [Nat.add_mul]; omega]
    exact flat_get n css (fun c hc => hl c (by simp [hc])) i cs j h' hj
theorem flat_len {α : Type} (n : Nat) : ∀ (css : List (List α)) (_ : ∀ cs ∈ css, cs.length = n), css.flatten.length = css.length * n
  | [], _ => by simp
  | c :: css, hl => by
    rw [List.flatten_cons, List.length_append, flat_len n css (fun c hc => hl c (by simp [hc])), hl c (by simp), List.length_cons, Nat.add_mul]; omega

/-! ### rows of the call's own -/
/-- a slice of the call's own (its row in a block from base on), what the elements lead to in blocks of S -/
def OwnR {α : Type} (E : TypeId) (C : Cdc α) (w : World) (base : Nat) (S : Nat → Prop) (v : Value) (xs : List α) : Prop :=
  ∃ css : List (List Value), css.length = xs.length ∧ w.ownsRow base E C.n v xs.length css.flatten ∧
    (∀ (i : Nat) (cs : List Value) (x : α), css[i]? = some cs → xs[i]? = some x → C.at_ w S cs x) ∧ ∀ k, S k → k < w.heap.size ∧ v.ownBlock ≠ some k
/-- the same of things without pointers -/
abbrev OwnF {α : Type} (E : TypeId) (C : Cdc α) (w : World) (base : Nat) (v : Value) (xs : List α) : Prop := OwnR E C w base (fun _ => False) v xs

section
variable {α : Type} {E : TypeId} {C : Cdc α} {w w' : World} {base : Nat} {O S S' : Nat → Prop} {v : Value} {xs : List α}
theorem OwnR.clen {css : List (List Value)} (hl : css.length = xs.length) (h : ∀ (i : Nat) (cs : List Value) (x : α), css[i]? = some cs → xs[i]? = some x → C.at_ w S cs x) : ∀ cs ∈ css, cs.length = C.n := by
  intro cs hcs
  obtain ⟨i, hi, rfl⟩ := List.mem_iff_getElem.1 hcs
  exact C.len (h i _ (xs[i]'(by omega)) (List.getElem?_eq_getElem hi) (List.getElem?_eq_getElem (by omega)))
theorem OwnR.nil_ (hS : ∀ k, S k → k < w.heap.size) : OwnR E C w base S (.slice none 0 0) ([] : List α) :=
  ⟨[], rfl, World.ownsRow_nil _ _ _ _, fun i cs x h => by simp at h, fun k hk => ⟨hS k hk, by simp [Value.ownBlock]⟩⟩
theorem OwnF.nil_ (w : World) (base : Nat) : OwnF E C w base (.slice none 0 0) ([] : List α) := OwnR.nil_ fun _ h => h.elim
theorem OwnR.blk (h : OwnR E C w base S v xs) : ∀ k, v.ownBlock = some k → base ≤ k ∧ k < w.heap.size := by
  obtain ⟨css, _, h, _⟩ := h
  exact World.ownsRow.lt h
theorem OwnR.form (h : OwnR E C w base S v xs) : (v = .slice none 0 0 ∧ xs = []) ∨ ∃ g cap, v = .slice (some ⟨g, 0, none⟩) xs.length cap ∧ xs.length ≤ cap ∧ cap ≤ maxLen ∧ base ≤ g ∧ g < w.heap.size := by
  have hb := h.blk
  obtain ⟨css, hl, ⟨_, h2⟩, _⟩ := h
  rcases h2 with ⟨rfl, hn⟩ | ⟨g, cap, cur, rfl, h3, h4, h5, h6, _⟩
  · exact .inl ⟨rfl, List.eq_nil_of_length_eq_zero hn⟩
  · exact .inr ⟨g, cap, rfl, h5, h6, hb g rfl⟩
theorem OwnR.form' (h : OwnR E C w base S v xs) : ∃ A cap, v = .slice A xs.length cap ∧ xs.length ≤ cap ∧ cap ≤ maxLen ∧ (0 < xs.length → ∃ g, A = some ⟨g, 0, none⟩ ∧ base ≤ g ∧ g < w.heap.size) := by
  rcases h.form with ⟨rfl, rfl⟩ | ⟨g, cap, rfl, h1, h2, h3, h4⟩
  · exact ⟨none, 0, rfl, Nat.le_refl _, Nat.zero_le _, fun h => by simp at h⟩
  · exact ⟨_, cap, rfl, h1, h2, fun _ => ⟨g, rfl, h3, h4⟩⟩
theorem OwnR.keep {row : Option Nat} (h : OwnR E C w base S v xs) (hg : w.grownBy w' row) (hne : v.ownBlock = none ∨ v.ownBlock ≠ row) (hS : ∀ k, S k → row ≠ some k) : OwnR E C w' base S v xs := by
  obtain ⟨css, hl, h2, h3, h4⟩ := h
  exact ⟨css, hl, World.ownsRow.kept h2 hg hne, fun i cs x hc hx => C.keep (h3 i cs x hc hx) fun p hp => World.cell?_of_block (hg.block p.block (h4 _ hp).1 (fun e => hS _ hp e.symm)),
    fun k hk => ⟨Nat.lt_of_lt_of_le (h4 k hk).1 hg.size, (h4 k hk).2⟩⟩
theorem OwnR.below_ (h : OwnR E C w base S v xs) (hb : Below w.heap.size w w') : OwnR E C w' base S v xs :=
  h.keep (row := none) ⟨hb.os, hb.tape, hb.output, hb.size, fun i hi _ => hb.block i hi⟩ (by cases hv : v.ownBlock <;> simp) (fun k _ e => by cases e)
theorem OwnR.alloc (h : OwnR E C w base S v xs) (o : Obj) : OwnR E C (w.alloc o) base S v xs := h.below_ (balloc w o)
theorem OwnR.more {base' : Nat} (h : OwnR E C w base S v xs) (hb : base' ≤ base) : OwnR E C w base' S v xs := by
  obtain ⟨css, hl, ⟨h1, h2⟩, h3, h4⟩ := h
  refine ⟨css, hl, ⟨h1, ?_⟩, h3, h4⟩
  rcases h2 with h2 | ⟨g, cap, cur, e, hg, r⟩
  · exact .inl h2
  · exact .inr ⟨g, cap, cur, e, Nat.le_trans hb hg, r⟩
theorem OwnR.widen (h : OwnR E C w base S v xs) (hS : ∀ k, S k → S' k) (hlt : ∀ k, S' k → k < w.heap.size ∧ v.ownBlock ≠ some k) : OwnR E C w base S' v xs := by
  obtain ⟨css, hl, h2, h3, h4⟩ := h
  exact ⟨css, hl, h2, fun i cs x hc hx => C.mono (h3 i cs x hc hx) hS, hlt⟩
/-- an own row reads -/
theorem OwnR.row (h : OwnR E C w base S v xs) : RowOn C w (fun k => base ≤ k ∧ k < w.heap.size) S v xs := by
  have hb := h.blk
  obtain ⟨css, hl, h2, h3, h4⟩ := h
  have hcl := OwnR.clen hl h3
  have h2' := h2.2
  rcases h2' with ⟨rfl, hn⟩ | ⟨g, cap, cur, rfl, hg1, hg2, hg3, hg4, _⟩
  · have : xs = [] := List.eq_nil_of_length_eq_zero hn
    subst this
    exact RowOn.nil_
  · refine ⟨_, cap, rfl, hg3, hg4, fun hn => ⟨_, rfl, hb g rfl, fun i x hx => ?_⟩⟩
    have hi : i < css.length := by rw [hl]; exact (List.getElem?_eq_some_iff.1 hx).1
    refine ⟨css[i], h3 i _ x (List.getElem?_eq_getElem hi) hx, fun j u hu => ?_⟩
    have hj : j < C.n := by rw [← hcl _ (List.getElem_mem hi)]; exact (List.getElem?_eq_some_iff.1 hu).1
    refine World.ownsRow.cells h2 (g := g) rfl _ u ?_
    rw [flat_get C.n css hcl i _ j (List.getElem?_eq_getElem hi) hj, hu]
theorem OwnR.rowLt (h : OwnR E C w base S v xs) : RowOn C w (fun k => k < w.heap.size) S v xs := h.row.mono (fun _ hk => hk.2) fun _ hk => hk
theorem OwnR.rowAll (h : OwnR E C w base S v xs) : RowOn C w (fun k => k < w.heap.size) (fun k => k < w.heap.size) v xs := by
  have h4 : ∀ k, S k → k < w.heap.size := by obtain ⟨_, _, _, _, h4⟩ := h; exact fun k hk => (h4 k hk).1
  exact h.row.mono (fun _ hk => hk.2) h4
/-- a new row, written out -/
theorem OwnR.new_ (w : World) (css : List (List Value)) (hl : css.length = xs.length) (hm : xs.length ≤ maxLen)
    (h3 : ∀ (i : Nat) (cs : List Value) (x : α), css[i]? = some cs → xs[i]? = some x → C.at_ w S cs x) (hS : ∀ k, S k → k < w.heap.size) :
    OwnR E C (w.alloc (.cells css.flatten.toArray E)) w.heap.size S (.slice (some ⟨w.heap.size, 0, none⟩) xs.length xs.length) xs := by
  have hcl := OwnR.clen hl h3
  have hfl := flat_len C.n css hcl
  refine ⟨css, hl, ⟨by rw [hfl, hl], .inr ⟨w.heap.size, xs.length, _, rfl, Nat.le_refl _, heap_alloc_new w _, Nat.le_refl _, hm, by simp [hfl, hl], ?_⟩⟩, ?_, ?_⟩
  · exact List.take_of_length_le (by simp [hfl, hl])
  · intro i cs x hc hx
    exact C.keep (h3 i cs x hc hx) fun p hp => World.cell?_alloc_lt w _ p (hS _ hp)
  · intro k hk
    have := hS k hk
    refine ⟨by simp; omega, ?_⟩
    simp [Value.ownBlock]; omega

/-- append(s, x...), s the call's own, x any readable row -/
theorem wpList_appR {ops : Array Oper} {rest : List Oper} {o : Oper} {a : Act} {Q : Exit → Act → World → Prop} (hgd : o.guard = none) (s x : Operand) (t : TypeId)
    (ho : o.op = .call { callee := .builtin .append, args := #[s, x], argTypes := #[t, t] })
    (ht : Tryz.prog.underlying t = some (.slice E)) {z : Value} {bytes : Nat} (hinfo : (Tryz.prog.info? E).map (fun i => (i.zero, i.size, i.bytes)) = some (some z, C.n, bytes)) (hz2 : z.cells.size = C.n) (hn0 : 0 < C.n) (hb0 : bytes ≤ 256)
    {v2 : Value} {ys : List α} (hown : OwnR E C w base S v xs) (hrd : RowOn C w O S v2 ys) (hs : a.eval s = v) (hx : a.eval x = v2)
    (hsz : xs.length + ys.length ≤ 549755813888) (hbase : base ≤ w.heap.size)
    (h : ∀ v' w', OwnR E C w' base S v' (xs ++ ys) → Ext w w' v v' → wpList Tryz.prog ops Q rest (a.put o.dst v') w') : wpList Tryz.prog ops Q (o :: rest) a w := by
  obtain ⟨i, hi, hz0, hz1, hby⟩ := info_parts hinfo
  obtain ⟨css, hl, h2, h3, h4⟩ := hown
  have hcl := OwnR.clen hl h3
  obtain ⟨A, c, rfl, hc1, hc2, hcell⟩ := hrd
  -- the cells of the source
  obtain ⟨dss, hdl, hd3, hdr⟩ : ∃ dss : List (List Value), dss.length = ys.length ∧ (∀ (i : Nat) (cs : List Value) (y : α), dss[i]? = some cs → ys[i]? = some y → C.at_ w S cs y) ∧
      ∃ B, Rd w B C.n A ys.length dss.flatten := by
    rcases Nat.eq_zero_or_pos ys.length with h0 | h0
    · have : ys = [] := List.eq_nil_of_length_eq_zero h0
      subst this
      exact ⟨[], rfl, fun i cs y h => by simp at h, 0, by simp [Rd]⟩
    · obtain ⟨ad, rfl, _, hc⟩ := hcell h0
      have hex : ∀ i : Fin ys.length, ∃ cs, C.at_ w S cs (ys[i.1]'i.2) ∧ ∀ (j : Nat) (u : Value), cs[j]? = some u → w.cell? (ad.add (i.1 * C.n + j)) = some u := fun i => hc i.1 _ (List.getElem?_eq_getElem i.2)
      refine ⟨List.ofFn fun i => (hex i).choose, by simp, ?_, ad.block + 1, ?_⟩
      · intro i cs y hcs hy
        obtain ⟨hi', rfl⟩ := List.getElem?_eq_some_iff.1 hy
        rw [List.getElem?_ofFn, dif_pos hi'] at hcs
        injection hcs with hcs
        rw [← hcs]
        exact (hex ⟨i, hi'⟩).choose_spec.1
      · have hcl2 : ∀ cs ∈ (List.ofFn fun i => (hex i).choose), cs.length = C.n := by
          intro cs hcs
          obtain ⟨i, rfl⟩ := List.mem_ofFn.1 hcs
          exact C.len (hex i).choose_spec.1
        refine ⟨by rw [flat_len C.n _ hcl2]; simp, fun _ => ⟨ad, rfl, Nat.lt_succ_self _, fun j u hu => ?_⟩⟩
        have hj : j < ys.length * C.n := by
          have := (List.getElem?_eq_some_iff.1 hu).1
          rw [flat_len C.n _ hcl2] at this
          simpa using this
        have hi' : j / C.n < ys.length := Nat.div_lt_of_lt_mul (by rw [Nat.mul_comm]; exact hj)
        have hj2 : j % C.n < C.n := Nat.mod_lt _ hn0
        have hdm : j / C.n * C.n + j % C.n = j := by rw [Nat.mul_comm]; exact Nat.div_add_mod j C.n
        have := flat_get C.n _ hcl2 (j / C.n) (hex ⟨j / C.n, hi'⟩).choose (j % C.n) (by rw [List.getElem?_ofFn, dif_pos hi']) hj2
        rw [hdm, hu] at this
        have := (hex ⟨j / C.n, hi'⟩).choose_spec.2 (j % C.n) u this.symm
        rwa [hdm] at this
  obtain ⟨B, hrd⟩ := hdr
  have hcl2 := OwnR.clen hdl hd3
  refine wpList_plain hgd fun K hK => ?_
  obtain ⟨v', w', hr, g2, g3, g5⟩ := run_append_rd (P := Tryz.prog) w base t o.type E i z C.n bytes ht hi hz0 hz1 hby hz2 hn0 v xs.length css.flatten h2 B A ys.length c dss.flatten hrd (by
      intro u hu
      obtain ⟨cs, hcs, hu⟩ := List.mem_flatten.1 hu
      obtain ⟨i, hi', rfl⟩ := List.mem_iff_getElem.1 hcs
      exact C.one (hd3 i _ (ys[i]'(by omega)) (List.getElem?_eq_getElem hi') (List.getElem?_eq_getElem (by omega))) u hu)
    (by unfold maxLen; omega) (by
      calc (xs.length + ys.length) * bytes ≤ 549755813888 * 256 := Nat.mul_le_mul hsz hb0
        _ ≤ _ := by decide) hbase
  unfold Oper.wp execOp
  simp only [ho, resolve, invoke, builtin, Sem.run_bind, Sem.run_pure, Result.andThen_ok, List.map_toArray, List.map_cons, List.map_nil, hs, hx, hr]
  have hSame : ∀ p : Addr, S p.block → w'.cell? p = w.cell? p := fun p hp => World.cell?_of_block (g3.block p.block (h4 _ hp).1 (fun e => (h4 _ hp).2 e.symm))
  refine hK _ _ (h v' w' ⟨css ++ dss, by simp [hl, hdl], by rw [List.length_append, List.flatten_append]; exact g2, ?_, ?_⟩ ⟨g3, ?_⟩)
  · intro j cs x hc hx'
    refine C.keep ?_ hSame
    rcases Nat.lt_or_ge j xs.length with hj | hj
    · rw [List.getElem?_append_left (by omega)] at hc
      rw [List.getElem?_append_left hj] at hx'
      exact h3 j cs x hc hx'
    · rw [List.getElem?_append_right (by omega)] at hc
      rw [List.getElem?_append_right hj, ← hl] at hx'
      exact hd3 _ cs x hc hx'
  · intro k hk
    refine ⟨Nat.lt_of_lt_of_le (h4 k hk).1 g3.size, ?_⟩
    rcases g5 with g5 | g5
    · rw [g5]; exact (h4 k hk).2
    · rw [g5]; intro e; injection e with e; have := (h4 k hk).1; omega
  · rcases g5 with g5 | g5
    · exact .inl g5
    · exact .inr fun k hk => by rw [g5] at hk; injection hk with hk; omega

/-! ### a block that holds one thing (a struct whose address is taken) -/
/-- block g holds just these cells, of type T -/
def BoxAt (T : TypeId) (w : World) (g : Nat) (cs : List Value) : Prop := w.heap[g]? = some (.cells cs.toArray T (0, 0))
theorem BoxAt.new_ (T : TypeId) (w : World) (cs : List Value) : BoxAt T (w.alloc (.cells cs.toArray T)) w.heap.size cs := heap_alloc_new w _
end
section
variable {T : TypeId} {w w' : World} {g : Nat} {cs : List Value}
theorem BoxAt.lt (h : BoxAt T w g cs) : g < w.heap.size := (Array.getElem?_eq_some_iff.1 h).1
theorem BoxAt.alloc (h : BoxAt T w g cs) (o : Obj) : BoxAt T (w.alloc o) g cs := (heap_alloc_old w o h.lt).trans h
theorem BoxAt.below (h : BoxAt T w g cs) {B : Nat} (hg : g < B) (hb : Below B w w') : BoxAt T w' g cs := (hb.block g hg).trans h
theorem BoxAt.grown {row : Option Nat} (h : BoxAt T w g cs) (hg : w.grownBy w' row) (hne : row ≠ some g) : BoxAt T w' g cs := (hg.block g h.lt (fun e => hne e.symm)).trans h
theorem BoxAt.cell (h : BoxAt T w g cs) (j : Nat) (u : Value) (hu : cs[j]? = some u) : w.cell? { block := g, off := j } = some u := by
  unfold BoxAt at h; simp [World.cell?, h, hu]
theorem BoxAt.frozen (h : BoxAt T w g cs) (j : Nat) : w.frozen? { block := g, off := j } = false := by
  unfold BoxAt at h; simp [World.frozen?, h]
theorem BoxAt.put (h : BoxAt T w g cs) (j : Nat) (u : Value) : BoxAt T (w.setCell { block := g, off := j } u) g (cs.set j u) := by
  unfold BoxAt at h ⊢
  simp [World.setCell, h, Array.getElem?_modify]
theorem BoxAt.other (h : BoxAt T w g cs) (p : Addr) (u : Value) (hne : p.block ≠ g) : BoxAt T (w.setCell p u) g cs := (Below.heap_setCell w p u g (fun e => hne e.symm)).trans h
end
theorem gset (w : World) (p : Addr) (u : Value) : w.grownBy (w.setCell p u) (some p.block) :=
  ⟨rfl, rfl, rfl, by simp [World.setCell], fun k _ hne => Below.heap_setCell w p u k (fun e => hne (by rw [e]))⟩
theorem grefl (w : World) (row : Option Nat) : w.grownBy w row := World.grownBy.refl w row
theorem gtrans {a b c : World} {row : Option Nat} (h : a.grownBy b row) (k : b.grownBy c row) : a.grownBy c row :=
  ⟨k.os.trans h.os, k.tape.trans h.tape, k.output.trans h.output, Nat.le_trans h.size k.size, fun i hi hne => (k.block i (Nat.lt_of_lt_of_le hi h.size) hne).trans (h.block i hi hne)⟩
theorem gbelow {a b : World} (h : Below a.heap.size a b) (row : Option Nat) : a.grownBy b row := ⟨h.os, h.tape, h.output, h.size, fun i hi _ => h.block i hi⟩
/-- new blocks, of which one was written, behind other new blocks -/
theorem gnew {a b c : World} {row row' : Option Nat} (h : a.grownBy b row) (k : b.grownBy c row') (hr : ∀ i, row' = some i → a.heap.size ≤ i ∨ row = some i) : a.grownBy c row :=
  ⟨k.os.trans h.os, k.tape.trans h.tape, k.output.trans h.output, Nat.le_trans h.size k.size, fun i hi hne => (k.block i (Nat.lt_of_lt_of_le hi h.size) (fun e => by
    rcases hr i e.symm with h | h
    · omega
    · exact hne h.symm)).trans (h.block i hi hne)⟩
theorem gofBelow {a b : World} {row : Option Nat} (h : a.grownBy b row) {B : Nat} (hB : B ≤ a.heap.size) (hr : ∀ k, row = some k → B ≤ k) : Below B a b := (Below.refl B a).grown h hB hr

/-! ### whole things loaded and stored -/
theorem isAgg_run {T : TypeId} {d : TypeDesc} (hu : Tryz.prog.underlying T = some d) (hd : (match d with | .struct _ | .array _ _ => true | _ => false) = true) (w : World) : (isAgg T).run Tryz.prog w = .ok true w := by
  unfold isAgg
  rw [Sem.run_bind, run_underlying hu w]
  cases d <;> simp_all
theorem run_loadVar_cells (w : World) (a : Addr) (T : TypeId) (cs : List Value) (h : ∀ (j : Nat) (v : Value), cs[j]? = some v → w.cell? (a.add j) = some v) {d : TypeDesc} (hu : Tryz.prog.underlying T = some d)
    (hd : (match d with | .struct _ | .array _ _ => true | _ => false) = true) (hi : (Tryz.prog.info? T).map (·.size) = some cs.length) : (loadVar T a).run Tryz.prog w = .ok (.agg cs.toArray) w := by
  have hl := run_loadCells_list (P := Tryz.prog) w a cs h
  cases hq : Tryz.prog.info? T with
  | none => simp [hq] at hi
  | some i =>
    have hs : i.size = cs.length := by simpa [hq] using hi
    simp [loadVar, Sem.run_bind, isAgg_run hu hd w, sizeOf, typeInfo, hq, hs, hl]
/-- a whole thing is loaded out of cells that are known -/
theorem wpList_load_agg {ops : Array Oper} {rest : List Oper} {o : Oper} {a : Act} {w : World} {Q : Exit → Act → World → Prop} (hgd : o.guard = none) (T : TypeId) (x : Operand) (ho : o.op = .load T x)
    (ad : Addr) (hx : a.eval x = .pointer (some ad)) (cs : List Value) (hc : ∀ (j : Nat) (v : Value), cs[j]? = some v → w.cell? (ad.add j) = some v) {d : TypeDesc} (hu : Tryz.prog.underlying T = some d)
    (hd : (match d with | .struct _ | .array _ _ => true | _ => false) = true) (hi : (Tryz.prog.info? T).map (·.size) = some cs.length)
    (h : wpList Tryz.prog ops Q rest (a.put o.dst (.agg cs.toArray)) w) : wpList Tryz.prog ops Q (o :: rest) a w :=
  wpList_plain hgd fun K hK => by
    unfold Oper.wp execOp
    simp only [ho, hx, Instr.loadAt, Instr.sureAddr, Sem.run_bind, Sem.run_pure, Result.andThen_ok, run_loadVar_cells w ad T cs hc hu hd hi]
    exact hK _ _ h
theorem BoxAt.cells {T : TypeId} {w : World} {g : Nat} {cs : List Value} (h : BoxAt T w g cs) : ∀ (j : Nat) (v : Value), cs[j]? = some v → w.cell? ((⟨g, 0, none⟩ : Addr).add j) = some v := by
  intro j v hv
  have hadd : (⟨g, 0, none⟩ : Addr).add j = ⟨g, j, none⟩ := by unfold Addr.add; split <;> simp_all
  rw [hadd]
  exact h.cell j v hv
theorem BoxAt.setRow {T : TypeId} {w : World} {g : Nat} {cs : List Value} (h : BoxAt T w g cs) (ds : List Value) : BoxAt T (w.setRow g ds.toArray) g ds := setRow_heap _ _ _ _ _ _ h
theorem wpList_store_box {ops : Array Oper} {rest : List Oper} {o : Oper} {a : Act} {w : World} {Q : Exit → Act → World → Prop} (hgd : o.guard = none) (T T' : TypeId) (x y : Operand) (ho : o.op = .store T x y)
    (g : Nat) (cs ds : List Value) (hx : a.eval x = .pointer (some ⟨g, 0, none⟩)) (hy : a.eval y = .agg ds.toArray) (hs : BoxAt T' w g cs) (hl : ds.length = cs.length) (h1 : ∀ u ∈ ds, u.oneCell' = true)
    (hi : (Tryz.prog.info? T).map (·.size) = some ds.length)
    (h : BoxAt T' (w.setRow g ds.toArray) g ds → wpList Tryz.prog ops Q rest (a.put o.dst undef) (w.setRow g ds.toArray)) : wpList Tryz.prog ops Q (o :: rest) a w :=
  wpList_store_row hgd T x y ho g ds.toArray hx hy T' cs.toArray hs (by simpa using hi) (by simpa using hl) (by simpa using h1) (h (hs.setRow ds))
theorem By.empty {w : World} {B : Nat} (A : Option Addr) (c : Nat) (hc : c ≤ maxLen) : By w B (.slice A 0 c) [] := ⟨A, c, rfl, Nat.zero_le _, hc, by simp [b8s], fun h => by simp at h⟩
/-- a result: a struct that lies in memory -/
theorem results_c {fn : Func} {p : Tmp} {T : TypeId} (h : fn.results = #[.cell p T]) (tmps : Array Value) (w : World) (g : Nat) (cs : List Value)
    (hp : tmps.getD p undef = .pointer (some ⟨g, 0, none⟩)) (hs : ∀ (j : Nat) (v : Value), cs[j]? = some v → w.cell? ((⟨g, 0, none⟩ : Addr).add j) = some v) {d : TypeDesc} (hu : Tryz.prog.underlying T = some d)
    (hd : (match d with | .struct _ | .array _ _ => true | _ => false) = true) (hi : (Tryz.prog.info? T).map (·.size) = some cs.length) :
    (results fn tmps).run Tryz.prog w = .ok (.agg cs.toArray) w := by
  have hp' : tmps[p]?.getD undef = .pointer (some ⟨g, 0, none⟩) := by simpa using hp
  have hr := run_loadVar_cells w ⟨g, 0, none⟩ T cs hs hu hd hi
  simp [results, h, hp', asAddr, hr]
theorem gsetRow' (w : World) (g : Nat) (cs : Array Value) : w.grownBy (w.setRow g cs) (some g) :=
  ⟨rfl, rfl, rfl, by simp, fun i _ hne => setRow_other w g i cs (fun e => hne (by rw [e]))⟩
/-- append(s, b), one byte -/
theorem wpList_app1 {ops : Array Oper} {rest : List Oper} {o : Oper} {a : Act} {w : World} {Q : Exit → Act → World → Prop} (hgd : o.guard = none) (s x : Operand)
    (ho : o.op = .call { callee := .builtin .append, args := #[s, x], argTypes := #[40, 40] })
    {base : Nat} {v u : Value} {l : List UInt8} {b : UInt8} (hown : Ow w base v l) (hu : u = b8 b) (hs : a.eval s = v) (hx : a.eval x = .slice (some ⟨w.heap.size, 0, none⟩) 1 1)
    (hsz : l.length ≤ 140737488355327) (hbase : base ≤ w.heap.size)
    (h : ∀ v' w', Ow w' base v' (l ++ [b]) → Ext w w' v v' → wpList Tryz.prog ops Q rest (a.put o.dst v') w') : wpList Tryz.prog ops Q (o :: rest) a (w.alloc (.cells #[u] 5)) := by
  subst hu
  exact wpList_app8 hgd s x ho (hown.below_ (balloc w _)) (By.new_ w [b] (by simp [maxLen])) hs hx (by simp; omega) (by simp; omega) fun v' w' h1 h2 => h v' w' h1 (h2.after (balloc w _) v rfl)
/-- append(s, y), one thing -/
theorem wpList_app1R {α : Type} {E : TypeId} {C : Cdc α} {S : Nat → Prop} {ops : Array Oper} {rest : List Oper} {o : Oper} {a : Act} {w : World} {Q : Exit → Act → World → Prop} (hgd : o.guard = none) (s x : Operand) (t : TypeId)
    (ho : o.op = .call { callee := .builtin .append, args := #[s, x], argTypes := #[t, t] })
    (ht : Tryz.prog.underlying t = some (.slice E)) {z : Value} {bytes : Nat} (hinfo : (Tryz.prog.info? E).map (fun i => (i.zero, i.size, i.bytes)) = some (some z, C.n, bytes)) (hz2 : z.cells.size = C.n) (hn0 : 0 < C.n) (hb0 : bytes ≤ 256)
    {base : Nat} {v : Value} {xs : List α} {y : α} (cs : List Value) (hown : OwnR E C w base S v xs) (hy : C.at_ w S cs y) (hs : a.eval s = v) (hx : a.eval x = .slice (some ⟨w.heap.size, 0, none⟩) 1 1)
    (hsz : xs.length ≤ 549755813887) (hbase : base ≤ w.heap.size)
    (h : ∀ v' w', OwnR E C w' base S v' (xs ++ [y]) → Ext w w' v v' → wpList Tryz.prog ops Q rest (a.put o.dst v') w') : wpList Tryz.prog ops Q (o :: rest) a (w.alloc (.cells cs.toArray E)) := by
  have hS : ∀ k, S k → k < w.heap.size := by obtain ⟨_, _, _, _, h4⟩ := hown; exact fun k hk => (h4 k hk).1
  have hrow : RowOn C (w.alloc (.cells cs.toArray E)) (fun k => k < w.heap.size + 1) S (.slice (some ⟨w.heap.size, 0, none⟩) 1 1) [y] := by
    refine ⟨_, 1, rfl, Nat.le_refl _, by simp [maxLen], fun _ => ⟨_, rfl, Nat.lt_succ_self _, fun i y' hi => ?_⟩⟩
    match i, hi with
    | 0, hi =>
      injection hi with hi
      subst hi
      refine ⟨cs, C.keep hy fun p hp => World.cell?_alloc_lt w _ p (hS _ hp), fun j u hu => ?_⟩
      rw [Nat.zero_mul, Nat.zero_add]
      exact World.news_of_block (heap_alloc_new w _) j u (by simpa using hu)
    | i + 1, hi => simp at hi
  exact wpList_appR hgd s x t ho ht hinfo hz2 hn0 hb0 (hown.alloc _) hrow hs hx (by simp; omega) (by simp; omega) fun v' w' h1 h2 => h v' w' h1 (h2.after (balloc w _) v rfl)
theorem Ow.newAt (w : World) (l : List UInt8) (g n base : Nat) (hg : w.heap.size = g) (hn : l.length = n) (hm : n ≤ maxLen) (hb : base ≤ g) : Ow (w.alloc (.cells (b8s l).toArray 5)) base (.slice (some ⟨g, 0, none⟩) n n) l := by
  subst hg; subst hn
  exact (Ow.new_ w l hm).mono hb
/-- two rows of the call's own that aren't one -/
def Apart (u v : Value) : Prop := ∀ q, u.ownBlock = some q → v.ownBlock ≠ some q
theorem Apart.symm {u v : Value} (h : Apart u v) : Apart v u := fun q hv hu => h q hu hv
theorem Apart.ne {u v : Value} (h : Apart u v) : u.ownBlock = none ∨ u.ownBlock ≠ v.ownBlock := by
  cases hu : u.ownBlock with
  | none => exact .inl rfl
  | some q => exact .inr fun e => h q hu e.symm
/-- an append onto one keeps it apart from another one that lies there -/
theorem Apart.ext {w w' : World} {u v v' : Value} (h : Apart u v) (hx : Ext w w' v v') (hu : ∀ q, u.ownBlock = some q → q < w.heap.size) : Apart u v' := by
  intro q hq e
  rcases hx.at_ with h1 | h1
  · exact h q hq (by rw [← h1]; exact e)
  · have := h1 q e; have := hu q hq; omega
theorem Apart.new_ {w : World} {u v : Value} (hu : ∀ q, u.ownBlock = some q → q < w.heap.size) (hv : ∀ q, v.ownBlock = some q → w.heap.size ≤ q) : Apart u v :=
  fun q hq e => by have := hu q hq; have := hv q e; omega

/-! ### what the walk meets as bytes -/
/-- a byte in one cell -/
def c8 : Cdc UInt8 := Cdc.flat 1 (fun b => [b8 b]) (fun _ => True) (fun _ => rfl) (fun x u hu => by simp at hu; subst hu; rfl)
def c32 : Cdc UInt32 := Cdc.flat 1 (fun b => [.int .u32 (b.toNat : Int)]) (fun _ => True) (fun _ => rfl) (fun x u hu => by simp at hu; subst hu; rfl)
def c64 : Cdc UInt64 := Cdc.flat 1 (fun b => [.int .u64 (b.toNat : Int)]) (fun _ => True) (fun _ => rfl) (fun x u hu => by simp at hu; subst hu; rfl)
def cInt : Cdc Int := Cdc.flat 1 (fun b => [.int .i64 b]) (fun b => -9223372036854775808 ≤ b ∧ b ≤ 9223372036854775807) (fun _ => rfl) (fun x u hu => by simp at hu; subst hu; rfl)
def cStr : Cdc ByteArray := Cdc.flat 1 (fun b => [.string b]) (fun b => b.size ≤ maxLen) (fun _ => rfl) (fun x u hu => by simp at hu; subst hu; rfl)

theorem RowOn.toBy {w : World} {B : Nat} {v : Value} {l : List UInt8} {S : Nat → Prop} (h : RowOn c8 w (fun k => k < B) S v l) : By w B v l := by
  obtain ⟨A, c, h1, h2, h3, h4⟩ := h
  refine ⟨A, c, h1, h2, h3, by simp [b8s_length], fun hn => ?_⟩
  obtain ⟨ad, e, hb, hc⟩ := h4 hn
  refine ⟨ad, e, hb, fun j u hu => ?_⟩
  obtain ⟨hj, he⟩ := List.getElem?_eq_some_iff.1 hu
  rw [b8s_length] at hj
  obtain ⟨cs, ⟨rfl, _⟩, hcs⟩ := hc j _ (List.getElem?_eq_getElem hj)
  have := hcs 0 _ rfl
  simp only [c8, Cdc.flat, Nat.mul_one, Nat.add_zero] at this
  rw [this, ← he]
  simp [b8s]
end Go.Proofs.YtcffeepgfjpcaaaGreat

namespace Go.Proofs.YtcffeepgfjpcaaaGreat
set_option linter.unusedSimpArgs false
set_option linter.unusedVariables false
set_option maxRecDepth 100000
open Go.ChangeShapes Go.WideShapes Go.ChangeAt Go.RowKit

/-- these cells read as data of type T -/
def InC (w : World) (T : TypeId) (cs : List Value) : Prop :=
  ∃ (H : Type) (enc : TypeId × Value → H) (n : Nat) (y : DataW H × List MemPlace), DataW.trod enc Tryz.prog w 0 (fun _ => true) true n T cs = some y

section
variable {w : World} {T e : TypeId} {cs : List Value}
theorem InC.of {H : Type} {enc : TypeId × Value → H} {v : Value} {d : DataW H} {p : List MemPlace} (h : DataW.Trod enc Tryz.prog w 0 (fun _ => true) true T v d p) : InC w T v.cells.toList := by
  obtain ⟨n, h⟩ := h
  exact ⟨_, enc, n, _, h⟩
theorem InC.int {k : IntKind} (ht : Tryz.prog.underlying T = some (.int k)) (h : InC w T cs) : ∃ n, cs = [.int k n] ∧ (Lit.int k n).wf = true := by
  obtain ⟨H, enc, m, y, h⟩ := h
  obtain ⟨n, h1, _, h3⟩ := DataW.trod_int ht h
  exact ⟨n, h1, h3⟩
theorem InC.bool (ht : Tryz.prog.underlying T = some .bool) (h : InC w T cs) : ∃ b, cs = [.bool b] := by
  obtain ⟨H, enc, m, y, h⟩ := h
  obtain ⟨b, h1, _⟩ := DataW.trod_bool ht h
  exact ⟨b, h1⟩
theorem InC.string (ht : Tryz.prog.underlying T = some .string) (h : InC w T cs) : ∃ s : ByteArray, cs = [.string s] ∧ s.size ≤ maxLen := by
  obtain ⟨H, enc, m, y, h⟩ := h
  obtain ⟨s, h1, _, h3⟩ := DataW.trod_string ht h
  exact ⟨s, h1, h3⟩
theorem InC.struct {fs : Array Field} (ht : Tryz.prog.underlying T = some (.struct fs)) (h : InC w T cs) :
    cs.length = Tryz.prog.cellsOf T ∧ ∀ (j : Nat) (f : Field), fs[j]? = some f → InC w f.type ((cs.drop f.offset).take (Tryz.prog.cellsOf f.type)) := by
  obtain ⟨H, enc, m, y, h⟩ := h
  obtain ⟨xs, n, _, _, hl, hlen, hf⟩ := DataW.trod_struct ht h
  refine ⟨hl, fun j f hj => ?_⟩
  have h1 := hf j f hj
  have hj' : j < fs.size := (Array.getElem?_eq_some_iff.1 hj).1
  exact ⟨H, enc, n, xs[j]'(by omega), by rw [h1]; exact List.getElem?_eq_getElem (by omega)⟩
theorem InC.slice (ht : Tryz.prog.underlying T = some (.slice e)) (h : InC w T cs) :
    cs = [.slice none 0 0] ∨ ∃ (a : Addr) (len cap : Nat), cs = [.slice (some a) len cap] ∧ len ≤ cap ∧ cap ≤ maxLen ∧
      ∀ i, i < len → ∃ cs', cs'.length = Tryz.prog.cellsOf e ∧ (∀ j, j < Tryz.prog.cellsOf e → w.cell? (a.add (i * Tryz.prog.cellsOf e + j)) = cs'[j]?) ∧ InC w e cs' := by
  obtain ⟨H, enc, m, y, h⟩ := h
  rcases DataW.trod_slice ht h with ⟨h0, _⟩ | ⟨a, len, cap, elems, rest, n, _, rfl, _, _, hl, hm, hlen, hel, _⟩
  · exact .inl h0
  · refine .inr ⟨a, len, cap, rfl, hl, hm, fun i hi => ?_⟩
    have h1 := hel i hi
    rw [List.getElem?_eq_getElem (by omega), Option.bind_eq_some_iff] at h1
    obtain ⟨cs', h2, h3⟩ := h1
    obtain ⟨_, h4, h5⟩ := World.cells?_some h2
    refine ⟨cs', h4, fun j hj => ?_, H, enc, n, _, h3⟩
    rw [← add_add]
    exact h5 j hj
/-- a slice that came in reads as a list -/
theorem InC.row {α : Type} {C : Cdc α} (ht : Tryz.prog.underlying T = some (.slice e)) (hn : Tryz.prog.cellsOf e = C.n) (hn0 : 0 < C.n)
    (hel : ∀ cs, InC w e cs → ∃ x, C.at_ w (fun k => k < w.heap.size) cs x) (h : InC w T cs) :
    ∃ v xs, cs = [v] ∧ RowOn C w (fun k => k < w.heap.size) (fun k => k < w.heap.size) v xs := by
  rcases h.slice ht with rfl | ⟨a, len, cap, rfl, hl, hm, hi⟩
  · exact ⟨_, [], rfl, RowOn.nil_⟩
  · rw [hn] at hi
    have hex : ∀ i : Fin len, ∃ (cs : List Value) (x : α), C.at_ w (fun k => k < w.heap.size) cs x ∧ ∀ (j : Nat) (u : Value), cs[j]? = some u → w.cell? (a.add (i.1 * C.n + j)) = some u := by
      intro i
      obtain ⟨cs, h1, h2, h3⟩ := hi i.1 i.2
      obtain ⟨x, hx⟩ := hel cs h3
      refine ⟨cs, x, hx, fun j u hu => ?_⟩
      rw [h2 j (by rw [← h1]; exact (List.getElem?_eq_some_iff.1 hu).1), hu]
    refine ⟨_, List.ofFn fun i => (hex i).choose_spec.choose, rfl, some a, cap, by simp, by simpa using hl, hm, fun hp => ⟨a, rfl, ?_, ?_⟩⟩
    · have hp' : 0 < len := by simpa using hp
      obtain ⟨cs, h1, h2, h3⟩ := hi 0 hp'
      have h4 := h2 0 hn0
      rw [List.getElem?_eq_getElem (by omega)] at h4
      have := World.block_lt_of_cell? w _ h4
      rwa [add_block] at this
    · intro i x hx
      rw [List.getElem?_ofFn] at hx
      split at hx
      · rename_i hi'
        injection hx with hx
        have := (hex ⟨i, hi'⟩).choose_spec.choose_spec
        rw [hx] at this
        exact ⟨_, this.1, this.2⟩
      · cases hx
/-- a struct of one-cell fields: field by field -/
theorem InC.fields {fs : Array Field} (ht : Tryz.prog.underlying T = some (.struct fs)) (hone : Go.Deep.oneCellFields Tryz.prog fs = true) (hC : Tryz.prog.cellsOf T = fs.size) (h : InC w T cs) :
    cs.length = fs.size ∧ ∀ (j : Nat) (f : Field), fs[j]? = some f → ∃ u, cs[j]? = some u ∧ InC w f.type [u] := by
  obtain ⟨hl, hf⟩ := h.struct ht
  rw [hC] at hl
  refine ⟨hl, fun j f hj => ?_⟩
  obtain ⟨ho, hk⟩ := Go.Deep.hone_of hone j f hj
  have h1 := hf j f hj
  have hj' : j < fs.size := (Array.getElem?_eq_some_iff.1 hj).1
  rw [ho, hk] at h1
  refine ⟨cs[j]'(by omega), List.getElem?_eq_getElem (by omega), ?_⟩
  have : (cs.drop j).take 1 = [cs[j]'(by omega)] := by
    rw [List.drop_eq_getElem_cons (by omega)]
    rfl
  rwa [this] at h1
theorem InC.agg {fs : Array Field} {v : Value} {base : Nat} (ht : Tryz.prog.underlying T = some (.struct fs)) (hv : Value.okWide Tryz.prog w .any base T v) (h : InC w T v.cells.toList) :
    ∃ cs : List Value, v = .agg cs.toArray ∧ InC w T cs := by
  obtain ⟨cs, rfl, _⟩ := okWide_struct ht hv
  exact ⟨cs.toList, by simp, by simpa [Value.cells] using h⟩
end

section
variable {w : World} {cs : List Value} {S : Nat → Prop} {T : TypeId}
theorem InC.u8 (ht : Tryz.prog.underlying T = some (.int .u8)) (h : InC w T cs) : ∃ x, c8.at_ w S cs x := by
  obtain ⟨n, rfl, hw⟩ := h.int ht
  obtain ⟨b, rfl⟩ := u8_of_wf hw
  exact ⟨b, rfl, trivial⟩
theorem InC.u32 (ht : Tryz.prog.underlying T = some (.int .u32)) (h : InC w T cs) : ∃ x, c32.at_ w S cs x := by
  obtain ⟨n, rfl, hw⟩ := h.int ht
  obtain ⟨b, rfl⟩ := u32_of_wf hw
  exact ⟨b, rfl, trivial⟩
theorem InC.u64 (ht : Tryz.prog.underlying T = some (.int .u64)) (h : InC w T cs) : ∃ x, c64.at_ w S cs x := by
  obtain ⟨n, rfl, hw⟩ := h.int ht
  obtain ⟨b, rfl⟩ := u64_of_wf hw
  exact ⟨b, rfl, trivial⟩
theorem InC.i64 (ht : Tryz.prog.underlying T = some (.int .i64)) (h : InC w T cs) : ∃ x, cInt.at_ w S cs x := by
  obtain ⟨n, rfl, hw⟩ := h.int ht
  exact ⟨n, rfl, i64_of_wf hw⟩
/-- a slice of bytes that came in -/
theorem InC.bytes {v : Value} (h : InC w 40 [v]) : ∃ l, By w w.heap.size v l := by
  obtain ⟨v', xs, e, hr⟩ := h.row (C := c8) Tryz.underlying40 (by kernel_rfl) (by decide) fun cs hc => hc.u8 Tryz.underlying5
  injection e with e
  subst e
  exact ⟨xs, hr.toBy⟩
end
end Go.Proofs.YtcffeepgfjpcaaaGreat

namespace Go.Proofs.YtcffeepgfjpcaaaGreat
set_option linter.unusedSimpArgs false
set_option linter.unusedVariables false
open Go.RowKit

def puts : List Value → Nat → List Value → List Value
  | cs, _, [] => cs
  | cs, o, v :: r => puts (cs.set o v) (o + 1) r
theorem puts_len : ∀ (vs : List Value) (cs : List Value) (o : Nat), (puts cs o vs).length = cs.length
  | [], _, _ => rfl
  | v :: r, cs, o => by rw [puts, puts_len r, List.length_set]
theorem puts_get : ∀ (vs : List Value) (cs : List Value) (o k : Nat), o + vs.length ≤ cs.length → (puts cs o vs)[k]? = if o ≤ k ∧ k < o + vs.length then vs[k - o]? else cs[k]?
  | [], cs, o, k, h => by
    rw [puts, if_neg]
    intro hh
    simp only [List.length_nil] at hh
    omega
  | v :: r, cs, o, k, h => by
    simp only [List.length_cons] at h ⊢
    rw [puts, puts_get r _ _ k (by rw [List.length_set]; omega)]
    by_cases h1 : o = k
    · subst h1
      rw [if_neg (by omega), if_pos (by omega), List.getElem?_set, if_pos rfl, if_pos (by omega), Nat.sub_self]
      first | done | rfl
    · by_cases h2 : o + 1 ≤ k ∧ k < o + 1 + r.length
      · rw [if_pos h2, if_pos (by omega), show k - o = (k - (o + 1)) + 1 from by omega, List.getElem?_cons_succ]
      · rw [if_neg h2, if_neg (by omega), List.getElem?_set, if_neg h1]
theorem BoxAt.setCells_ {T : TypeId} {b : Nat} : ∀ (vs : List Value) {w : World} {cs : List Value} (o : Nat), BoxAt T w b cs → BoxAt T (w.setCells b o vs) b (puts cs o vs)
  | [], _, _, _, h => h
  | v :: r, w, cs, o, h => BoxAt.setCells_ r (o + 1) (h.put o v)
theorem gsetCells (b : Nat) : ∀ (vs : List Value) (w : World) (o : Nat), w.grownBy (w.setCells b o vs) (some b)
  | [], w, _ => grefl w _
  | v :: r, w, o => gtrans (gset w ⟨b, o, none⟩ v) (gsetCells b r _ (o + 1))
theorem gdrew_ {w w' : World} {row : Option Nat} (h : w.grownBy w' row) : w.grownBy w'.drew row := gtrans h (gbelow ((Below.refl w'.heap.size w').drew) row)
/-- what a call has changed: blocks of P, and new ones -/
structure Chg (P : Nat → Prop) (w w' : World) : Prop where
  os : w'.os = w.os
  tape : w'.tape = w.tape
  output : w'.output = w.output
  size : w.heap.size ≤ w'.heap.size
  block : ∀ k, k < w.heap.size → ¬ P k → w'.heap[k]? = w.heap[k]?
theorem Chg.refl (P : Nat → Prop) (w : World) : Chg P w w := ⟨rfl, rfl, rfl, Nat.le_refl _, fun _ _ _ => rfl⟩
theorem Chg.trans {P : Nat → Prop} {a b c : World} (h : Chg P a b) (k : Chg P b c) : Chg P a c :=
  ⟨k.os.trans h.os, k.tape.trans h.tape, k.output.trans h.output, Nat.le_trans h.size k.size, fun i hi hn => (k.block i (Nat.lt_of_lt_of_le hi h.size) hn).trans (h.block i hi hn)⟩
theorem Chg.more {P Q : Nat → Prop} {a b : World} (h : Chg P a b) (hq : ∀ k, k < a.heap.size → P k → Q k) : Chg Q a b := ⟨h.os, h.tape, h.output, h.size, fun k hk hn => h.block k hk fun hp => hn (hq k hk hp)⟩
theorem Chg.ofGrown {P : Nat → Prop} {a b : World} {row : Option Nat} (h : a.grownBy b row) (hr : ∀ k, row = some k → P k) : Chg P a b := ⟨h.os, h.tape, h.output, h.size, fun k hk hn => h.block k hk fun e => hn (hr k e.symm)⟩
theorem Chg.ofBelow {P : Nat → Prop} {a b : World} (h : Below a.heap.size a b) : Chg P a b := ⟨h.os, h.tape, h.output, h.size, fun k hk _ => h.block k hk⟩
theorem Chg.set {P : Nat → Prop} (w : World) (p : Addr) (u : Value) (h : P p.block) : Chg P w (w.setCell p u) := Chg.ofGrown (gset w p u) fun k e => by injection e with e; rw [← e]; exact h
theorem Chg.drew_ {P : Nat → Prop} {a b : World} (h : Chg P a b) : Chg P a b.drew := ⟨h.os, h.tape, h.output, h.size, h.block⟩
theorem Chg.alloc_ {P : Nat → Prop} {a b : World} (h : Chg P a b) (o : Obj) : Chg P a (b.alloc o) := h.trans (Chg.ofBelow (balloc b o))
theorem Chg.below {P : Nat → Prop} {a b : World} {B : Nat} (h : Chg P a b) (hB : B ≤ a.heap.size) (hp : ∀ k, P k → B ≤ k) : Below B a b := by
  have h1 := h.block
  refine (Below.refl B a).trans ⟨h.os, h.tape, h.output, h.size, fun k hk => h1 k (by omega) fun hx => by have := hp k hx; omega⟩
theorem BoxAt.chg {P : Nat → Prop} {T : TypeId} {w w' : World} {g : Nat} {cs : List Value} (h : BoxAt T w g cs) (hc : Chg P w w') (hn : ¬ P g) : BoxAt T w' g cs := (hc.block g h.lt hn).trans h
theorem Chg.drewN_ {P : Nat → Prop} {a b : World} (h : Chg P a b) (n : Nat) : Chg P a (b.drewN n) := ⟨h.os, h.tape, h.output, h.size, h.block⟩
end Go.Proofs.YtcffeepgfjpcaaaGreat

namespace Go.Proofs.YtcffeepgfjpcaaaGreat
set_option linter.unusedSimpArgs false
set_option linter.unusedVariables false
open Go.RowKit Go.Shelf
attribute [local go_sem] Oper.semAt_some

/-- what a round keeps: each block of cells, but those of B -/
structure Kp (B : Nat → Prop) (W W' : World) : Prop where
  size : W.heap.size ≤ W'.heap.size
  same : ∀ (k : Nat) (o : Obj), ¬ B k → W.heap[k]? = some o → o.isCells = true → W'.heap[k]? = some o
section
variable {B : Nat → Prop} {W W' W'' : World}
theorem Kp.refl (B : Nat → Prop) (W : World) : Kp B W W := ⟨Nat.le_refl _, fun _ _ _ h _ => h⟩
theorem Kp.trans (h : Kp B W W') (k : Kp B W' W'') : Kp B W W'' := ⟨Nat.le_trans h.size k.size, fun i o hi h1 h2 => k.same i o hi (h.same i o hi h1 h2) h2⟩
theorem Kp.putObj (B : Nat → Prop) (m : Nat) (W : World) (l : Nat) (o o' : Obj) (_ : m ≤ l) (ho : W.heap[l]? = some o) (hc : o.isCells = false) (_ : o.isWalk = false) : Kp B W (W.putObj l o') :=
  ⟨(grownBy_putObj' W l o').size, fun k q _ hk hq => by
    have hne : k ≠ l := fun e => by subst e; rw [ho] at hk; injection hk with hk; subst hk; rw [hc] at hq; cases hq
    exact ((grownBy_putObj' W l o').block k (Array.getElem?_eq_some_iff.1 hk).1 (fun e => hne (by injection e))).trans hk⟩
theorem Kp.ofGrown {row : Option Nat} (h : W.grownBy W' row) (hr : ∀ k, row = some k → B k) : Kp B W W' :=
  ⟨h.size, fun k o hb hk _ => (h.block k (Array.getElem?_eq_some_iff.1 hk).1 (fun e => hb (hr k e.symm))).trans hk⟩
theorem Kp.set (W : World) (p : Addr) (u : Value) (h : B p.block) : Kp B W (W.setCell p u) := Kp.ofGrown (gset W p u) fun k e => by injection e with e; rw [← e]; exact h
theorem Kp.alloc (B : Nat → Prop) (W : World) (o : Obj) : Kp B W (W.alloc o) := Kp.ofGrown (gbelow (balloc W o) none) fun _ e => by cases e
theorem Kp.drew (B : Nat → Prop) (W : World) : Kp B W W.drew := ⟨Nat.le_refl _, fun _ _ _ h _ => h⟩
theorem Kp.drewN (B : Nat → Prop) (W : World) (n : Nat) : Kp B W (W.drewN n) := ⟨Nat.le_refl _, fun _ _ _ h _ => h⟩
theorem Kp.ofBelow (h : Below W.heap.size W W') : Kp B W W' := Kp.ofGrown (gbelow h none) fun _ e => by cases e
theorem Kp.cell (h : Kp B W W') {p : Addr} {v : Value} (hp : W.cell? p = some v) (hb : ¬ B p.block) : W'.cell? p = some v := by
  cases ho : W.heap[p.block]? with
  | none => simp [World.cell?, ho] at hp
  | some o =>
    cases o with
    | cells c e fr =>
      have := h.same _ _ hb ho rfl
      simp only [World.cell?, ho] at hp
      simp only [World.cell?, this]
      exact hp
    | _ => simp [World.cell?, ho] at hp
theorem Kp.row {α : Type} {C : Cdc α} {B0 : Nat} {v : Value} {l : List α} (hC : ∀ w cs x, C.at_ w (fun _ => True) cs x → C.at_ W' (fun _ => True) cs x) (hk : Kp B W W') (hB : ∀ k, B k → B0 ≤ k) (h : RowOn C W (fun k => k < B0) (fun _ => True) v l) : RowOn C W' (fun k => k < B0) (fun _ => True) v l := by
  obtain ⟨A, c, h1, h2, h3, h4⟩ := h
  refine ⟨A, c, h1, h2, h3, fun hn => ?_⟩
  obtain ⟨ad, e, hb', hc⟩ := h4 hn
  refine ⟨ad, e, hb', fun i x hx => ?_⟩
  obtain ⟨cs, ha, hcs⟩ := hc i x hx
  exact ⟨cs, hC _ _ _ ha, fun j u hu => hk.cell (hcs j u hu) fun hb => by have := hB _ hb; rw [add_block] at this; omega⟩
theorem Kp.box {T : TypeId} {g : Nat} {cs : List Value} (hk : Kp B W W') (hb : ¬ B g) (h : BoxAt T W g cs) : BoxAt T W' g cs := hk.same g _ hb h rfl
end

/-- what has come when k rounds are over -/
def upto {α : Type} (f : Nat → α) (k : Nat) : List α := (List.range k).map f
theorem upto_succ {α : Type} (f : Nat → α) (k : Nat) : upto f (k + 1) = upto f k ++ [f k] := by simp [upto, List.range_succ]
theorem upto_length {α : Type} (f : Nat → α) (k : Nat) : (upto f k).length = k := by simp [upto]
theorem upto_mem {α : Type} (f : Nat → α) (k : Nat) (x : α) : x ∈ upto f k ↔ ∃ j, j < k ∧ f j = x := by simp [upto]
theorem BoxAt.ownk {T : TypeId} {g : Nat} {cs : List Value} {X Y : World} {row : Option Nat} (hb : BoxAt T X g cs) (hg : X.grownBy Y row) (hr : ∀ r, row = some r → ∃ o : Obj, X.heap[r]? = some o ∧ o.isCells = false) : BoxAt T Y g cs :=
  hb.grown hg fun e => by
    obtain ⟨o, ho, hc⟩ := hr _ e
    rw [show _ = _ from hb] at ho
    injection ho with ho
    subst ho
    cases hc

/-! ### whole things, within a fence -/
section
variable {F : Fence} {n : Nat} {ops : Array Oper} {rest : List Oper} {o : Oper} {a : Act} {w : World} {Q : Exit → Act → World → Prop}
theorem wpListIn_load_agg (hgd : o.guard = none) (T : TypeId) (x : Operand) (ho : o.op = .load T x)
    (ad : Addr) (hx : a.eval x = .pointer (some ad)) (cs : List Value) (hc : ∀ (j : Nat) (v : Value), cs[j]? = some v → w.cell? (ad.add j) = some v) {d : TypeDesc} (hu : Tryz.prog.underlying T = some d)
    (hd : (match d with | .struct _ | .array _ _ => true | _ => false) = true) (hi : (Tryz.prog.info? T).map (·.size) = some cs.length)
    (h : wpListIn F n Tryz.prog ops Q rest (a.put o.dst (.agg cs.toArray)) w) : wpListIn F n Tryz.prog ops Q (o :: rest) a w :=
  wpListIn_plain hgd fun K hK => by
    unfold Oper.wpIn
    refine ⟨by simp [Oper.about, ho], ?_⟩
    rw [Oper.semAt_plain F _ _ (by rw [ho]; intro c hc'; cases hc')]
    unfold execOp
    simp only [ho, hx, Instr.loadAt, Instr.sureAddr, Sem.run_bind, Sem.run_pure, Result.andThen_ok, run_loadVar_cells w ad T cs hc hu hd hi]
    exact hK _ _ h
theorem wpListIn_alloc_z (hgd : o.guard = none) (T : TypeId) (ho : o.op = .alloc T) {z : Value} {m bytes : Nat}
    (hinfo : (Tryz.prog.info? T).map (fun i => (i.zero, i.size, i.bytes)) = some (some z, m, bytes)) (cs : List Value) (hz : z.cells = cs.toArray)
    (h : wpListIn F n Tryz.prog ops Q rest (a.put o.dst (.pointer (some ⟨w.heap.size, 0, none⟩))) (w.alloc (.cells cs.toArray T))) : wpListIn F n Tryz.prog ops Q (o :: rest) a w :=
  wpListIn_plain hgd fun K hK => by
    obtain ⟨i, hi, hz0, hz1, hby⟩ := info_parts hinfo
    have hr : (Instr.alloc T true (.tuple #[])).run Tryz.prog w = .ok (.pointer (some ⟨w.heap.size, 0, none⟩)) (w.alloc (.cells cs.toArray T)) := by
      simp [Instr.alloc, Sem.run_bind, zeroValue, typeInfo, hi, hz0, newVar, newRow, hz]
    unfold Oper.wpIn
    refine ⟨by simp [Oper.about, ho], ?_⟩
    rw [Oper.semAt_plain F _ _ (by rw [ho]; intro c hc'; cases hc')]
    unfold execOp
    simp only [ho, Sem.run_bind, hr, Result.andThen_ok]
    exact hK _ _ h
theorem wpListIn_store_new (hgd : o.guard = none) (T : TypeId) (x y : Operand) (ho : o.op = .store T x y)
    (cs ds : List Value) (hx : a.eval x = .pointer (some ⟨w.heap.size, 0, none⟩)) (hy : a.eval y = .agg ds.toArray) (hi : (Tryz.prog.info? T).map (·.size) = some ds.length) (hl : cs.length = ds.length) (h1 : ∀ u ∈ ds, u.oneCell' = true)
    (h : wpListIn F n Tryz.prog ops Q rest (a.put o.dst undef) (w.alloc (.cells ds.toArray T))) : wpListIn F n Tryz.prog ops Q (o :: rest) a (w.alloc (.cells cs.toArray T)) :=
  wpListIn_plain hgd fun K hK => by
    unfold Oper.wpIn
    refine ⟨by simp [Oper.about, ho], ?_⟩
    rw [Oper.semAt_plain F _ _ (by rw [ho]; intro c hc'; cases hc')]
    unfold execOp
    simp only [ho, hx, hy, Instr.storeAt, Instr.sureAddr, Sem.run_bind, Sem.run_pure, Result.andThen_ok, run_storeVar_new w T cs.toArray ds.toArray (by simpa using hi) (by simpa using hl) (all_oneCell_toArray h1)]
    exact hK _ _ h
end
/-! ### bytes in a block of the call's own, of whatever array type -/
/-- v reads as l, in a block from B on (or is nil), and may be written -/
def Fresh (B : Nat) (w : World) (v : Value) (l : List UInt8) : Prop :=
  (v = .slice none 0 0 ∧ l = []) ∨ ∃ g c T cs, v = .slice (some ⟨g, 0, none⟩) l.length c ∧ l.length ≤ c ∧ c ≤ maxLen ∧ B ≤ g ∧ BoxAt T w g cs ∧ ∀ (j : Nat) (u : Value), (b8s l)[j]? = some u → cs[j]? = some u
section
variable {B : Nat} {w w' : World} {v : Value} {l : List UInt8}
theorem Fresh.nil_ : Fresh B w (.slice none 0 0) [] := .inl ⟨rfl, rfl⟩
theorem Fresh.by_ (h : Fresh B w v l) : By w w.heap.size v l := by
  rcases h with ⟨rfl, rfl⟩ | ⟨g, c, T, cs, rfl, h1, h2, h3, h4, h5⟩
  · exact By.nil_
  · exact ⟨_, _, rfl, h1, h2, by rw [b8s_length]; omega, fun _ => ⟨_, rfl, h4.lt, fun j u hu => h4.cells j u (h5 j u hu)⟩⟩
theorem Fresh.form (h : Fresh B w v l) : ∃ A c, v = .slice A l.length c ∧ l.length ≤ c ∧ c ≤ maxLen := by
  rcases h with ⟨rfl, rfl⟩ | ⟨g, c, T, cs, rfl, h1, h2, h3, h4⟩
  · exact ⟨none, 0, rfl, Nat.le_refl _, Nat.zero_le _⟩
  · exact ⟨_, c, rfl, h1, h2⟩
theorem Fresh.more {B' : Nat} (h : Fresh B w v l) (hB : B' ≤ B) : Fresh B' w v l := by
  rcases h with h | ⟨g, c, T, cs, h0, h1, h2, h3, h4⟩
  · exact .inl h
  · exact .inr ⟨g, c, T, cs, h0, h1, h2, Nat.le_trans hB h3, h4⟩
theorem Fresh.below_ (h : Fresh B w v l) (hb : Below w.heap.size w w') : Fresh B w' v l := by
  rcases h with h | ⟨g, c, T, cs, h0, h1, h2, h3, h4, h5⟩
  · exact .inl h
  · exact .inr ⟨g, c, T, cs, h0, h1, h2, h3, h4.below h4.lt hb, h5⟩
theorem Fresh.blk (h : Fresh B w v l) : ∀ q, v.ownBlock = some q → B ≤ q ∧ q < w.heap.size := by
  rcases h with ⟨rfl, rfl⟩ | ⟨g, c, T, cs, rfl, h1, h2, h3, h4, h5⟩
  · intro q hq; simp [Value.ownBlock] at hq
  · intro q hq
    have e : g = q := by injection hq
    subst e
    exact ⟨h3, h4.lt⟩
theorem Fresh.grown {row : Option Nat} (h : Fresh B w v l) (hg : w.grownBy w' row) (hne : ∀ q, v.ownBlock = some q → row ≠ some q) : Fresh B w' v l := by
  rcases h with h | ⟨g, c, T, cs, h0, h1, h2, h3, h4, h5⟩
  · exact .inl h
  · exact .inr ⟨g, c, T, cs, h0, h1, h2, h3, h4.grown hg (hne g (by rw [h0]; rfl)), h5⟩
theorem Fresh.chg {P : Nat → Prop} (h : Fresh B w v l) (hc : Chg P w w') (hn : ∀ q, v.ownBlock = some q → ¬ P q) : Fresh B w' v l := by
  rcases h with h | ⟨g, c, T, cs, h0, h1, h2, h3, h4, h5⟩
  · exact .inl h
  · exact .inr ⟨g, c, T, cs, h0, h1, h2, h3, h4.chg hc (hn g (by rw [h0]; rfl)), h5⟩
/-- a cell of it, and its being written -/
theorem Fresh.put {A : Option Addr} {n c : Nat} (h : Fresh B w (.slice A n c) l) (k : Nat) (hk : k < l.length) : ∃ g, A = some ⟨g, 0, none⟩ ∧ B ≤ g ∧ g < w.heap.size ∧ w.frozen? ⟨g, k, none⟩ = false ∧ w.cell? ⟨g, k, none⟩ = some (.int .u8 ((l[k]).toNat : Int)) ∧
    ∀ b : UInt8, Fresh B (w.setCell ⟨g, k, none⟩ (.int .u8 (b.toNat : Int))) (.slice A n c) (l.set k b) := by
  rcases h with ⟨h, rfl⟩ | ⟨g, c', T, cs, e, h1, h2, h3, h4, h5⟩
  · simp at hk
  · injection e with e1 e2 e3
    subst e1; subst e2; subst e3
    have hkc := h5 k _ (b8s_get l k hk)
    have hkl : k < cs.length := (List.getElem?_eq_some_iff.1 hkc).1
    refine ⟨g, rfl, h3, h4.lt, h4.frozen k, h4.cell k _ hkc, fun b => .inr ⟨g, c, T, cs.set k (b8 b), by rw [List.length_set], by rw [List.length_set]; exact h1, h2, h3, h4.put k (b8 b), fun j u hu => ?_⟩⟩
    have e : b8s (l.set k b) = (b8s l).set k (b8 b) := by unfold b8s; rw [List.map_set]
    rw [e, List.getElem?_set] at hu
    rw [List.getElem?_set]
    by_cases hkj : k = j
    · subst hkj
      rw [if_pos rfl, if_pos (by rw [b8s_length]; exact hk)] at hu
      rw [if_pos rfl, if_pos hkl]; exact hu
    · rw [if_neg hkj] at hu ⊢
      exact h5 j u hu
theorem Fresh.front {A : Option Addr} {n c k : Nat} (h : Fresh B w (.slice A n c) l) (hk : k ≤ l.length) (hk0 : 0 < k) : Fresh B w (.slice A k c) (l.take k) := by
  rcases h with ⟨h, rfl⟩ | ⟨g, c', T, cs, e, h1, h2, h3, h4, h5⟩
  · simp at hk; omega
  · injection e with e1 e2 e3
    subst e1; subst e3
    refine .inr ⟨g, c, T, cs, by simp [hk], by simp; omega, h2, h3, h4, fun j u hu => h5 j u ?_⟩
    unfold b8s at hu ⊢
    rw [List.map_take, List.getElem?_take] at hu
    split at hu
    · exact hu
    · cases hu
theorem Ow.fresh {base : Nat} (h : Ow w base v l) : Fresh base w v l := by
  obtain ⟨hz, h2⟩ := h
  rcases h2 with ⟨rfl, hn⟩ | ⟨g, cap, cur, rfl, hg, hh, h3, h4, h5, h6⟩
  · exact .inl ⟨rfl, List.eq_nil_of_length_eq_zero hn⟩
  · refine .inr ⟨g, cap, _, cur.toList, rfl, h3, h4, hg, hh, fun j u hu => ?_⟩
    rw [← h6, List.getElem?_take] at hu
    split at hu
    · exact hu
    · cases hu
end
end Go.Proofs.YtcffeepgfjpcaaaGreat

namespace Go.Proofs.YtcffeepgfjpcaaaGreat
set_option linter.unusedSimpArgs false
set_option linter.unusedVariables false
open Go.RowKit Go.Shelf

/-- what an iterator promises: S: all have come; Sp: a part -/
def IterX {α : Type} (P : Program) (n gf : Nat) (lb : Array Value) (encs : α → Array Value) (Kr : World → World → Prop) (R : List α → α → World → Prop) (S : List α → World → Prop) (Sp : List α → Prop) (Bd : List α → Prop) (w : World) : Prop :=
  ∀ (l : Nat) (J Jx : List α → World → Prop) (W : World), Below w.heap.size w W → AbidesFrom W.heap.size J → AbidesFrom W.heap.size Jx →
    (∀ pre x W1, J pre W1 → R pre x W1 → Bd pre → YieldAt Fence.wide (n - 1) P l (encs x) W1 fun e W' =>
      (e = .returned (.bool true) ∧ J (pre ++ [x]) W' ∧ Kr W1 W' ∧ Bd (pre ++ [x])) ∨ (e = .returned (.bool false) ∧ Jx (pre ++ [x]) W')) → J [] W →
    CallsIn Fence.wide n P gf (#[.func (.yield l) #[] #[]] ++ lb) W fun e W' => (∃ v, e = .returned v) ∧ ((∃ xs, S xs W' ∧ J xs W') ∨ ∃ pre, Sp pre ∧ Jx pre W')

/-- how the body of a round may be left -/
def postX {α : Type} (B : Nat) (Kr : World → World → Prop) (I : List α → World → Prop) (Ix : Code → List α → World → Prop) (Bd : List α → Prop) (xs : List α) (W : World) : Exit → Act → World → Prop
  | .normal, _, W' => KeepsFrom B W W' ∧ Kr W W' ∧ I xs W' ∧ Bd xs
  | .ret, _, W' => KeepsFrom B W W' ∧ Ix .ret xs W'
  | .exit id, _, W' => KeepsFrom B W W' ∧ Ix (.exit id) xs W'
  | .goto _, _, _ => False
  | .panic _, _, _ => False
  | .outgrown, _, _ => False

theorem range_x {α : Type} {P : Program} {g : Operand} {ps : Array Tmp} {assign body : Code} {Q : Exit → Act → World → Prop} {a : Act} {w : World} {n gf : Nat} {lb : Array Value}
    (hg : a.eval g = .func (.func gf) #[] lb) (eg : ∀ args w, (callFunc gf args).run P w = .ok (.enter gf args) w)
    {encs : α → Array Value} {Kr : World → World → Prop} (hKt : ∀ {X Y Z : World}, Kr X Y → Kr Y Z → Kr X Z) (hKp : ∀ (W : World) (q : Nat) (o o' : Obj), w.heap.size ≤ q → W.heap[q]? = some o → o.isCells = false → Kr W (W.putObj q o')) {R : List α → α → World → Prop} {S : List α → World → Prop} {Sp Bd : List α → Prop} (hps : ∀ x, (encs x).size = ps.size) (hit : IterX P (n - 1) gf lb encs Kr R S Sp Bd w)
    (I : List α → World → Prop) (Ix : Code → List α → World → Prop) (hI : OwnFrom w.heap.size I) (hIx : ∀ c, OwnFrom w.heap.size (Ix c)) (hS : OwnFrom w.heap.size S) (h0 : I [] w)
    (Ax : Act → List α → α → Act → World → Prop) (hAx : ∀ pre x a', OwnFrom w.heap.size (fun (_ : Unit) W => Ax a pre x a' W))
    (hassign : ∀ (l : Nat) (pre : List α) (x : α) (W : World), w.heap.size ≤ l → I pre W → R pre x W →
      assign.wpIn (Fence.wide.inRound l) (n - 1 - 1) P (fun e a' W' => e = .normal ∧ KeepsFrom w.heap.size W W' ∧ Kr W W' ∧ Ax a pre x a' W') { tmps := (ps.zip (encs x)).foldl (fun t (p, v) => t.setIfInBounds p v) a.tmps, defers := [] } W)
    (hbody : ∀ (l : Nat) (pre : List α) (x : α) (a' : Act) (W : World), w.heap.size ≤ l → Ax a pre x a' W → Bd pre →
      body.wpIn (Fence.wide.inRound l) (n - 1 - 1) P (postX w.heap.size Kr I Ix Bd (pre ++ [x]) W) a' W)
    (hdone : ∀ (D : Nat) (xs : List α) (W : World), w.heap.size ≤ D → S xs W → I xs W → W.heap[D]? = some (.deferred (some [])) → Q .normal { a with defers := { target := .collected D, args := #[] } :: a.defers } W)
    (hstop : ∀ (D : Nat) (c : Code) (pre : List α) (W : World), w.heap.size ≤ D → Sp pre → Ix c pre W → W.heap[D]? = some (.deferred (some [])) → c.wpIn Fence.wide n P Q { a with defers := { target := .collected D, args := #[] } :: a.defers } W) :
    (Code.rangeFunc g ps assign body).wpIn Fence.wide n P Q a w := by
  refine wpIn_rangeFunc fun fn hfn => ?_
  obtain ⟨L, hL⟩ : ∃ L, L = w.heap.size + 1 := ⟨_, rfl⟩
  obtain ⟨lp, hlp⟩ : ∃ lp : LoopState → Option Code → Loop, lp = fun st pe => { state := st, pending := pe, fn, tmps := a.tmps, params := ps, assign, body, defers := w.heap.size } := ⟨_, rfl⟩
  have e1 : ∀ st pe, ({ lp st pe with state := .busy } : Loop) = lp .busy pe := fun st pe => by rw [hlp]
  have e2 : ∀ st st' pe, ({ lp st pe with state := st' } : Loop) = lp st' pe := fun st st' pe => by rw [hlp]
  have e3 : ∀ st st' pe pe', ({ lp st pe with state := st', pending := pe' } : Loop) = lp st' pe' := fun st st' pe pe' => by rw [hlp]
  obtain ⟨W1, hW1⟩ : ∃ W1, W1 = (w.alloc (.deferred (some []))).alloc (.loop (lp .ready none)) := ⟨_, rfl⟩
  have hsz1 : W1.heap.size = w.heap.size + 2 := by rw [hW1]; simp
  have hl1 : W1.heap[L]? = some (.loop (lp .ready none)) := by
    rw [hW1, hL]
    have := World.alloc_heap_new (w.alloc (.deferred (some []))) (.loop (lp .ready none))
    rwa [World.size_alloc] at this
  have hd1 : W1.heap[w.heap.size]? = some (.deferred (some [])) := by rw [hW1]; exact (heap_alloc_old _ _ (by simp)).trans (World.alloc_heap_new w _)
  have hb1 : Below w.heap.size w W1 := by rw [hW1]; exact bstep (balloc _ _) (balloc _ _)
  have hi1 : I [] W1 := by rw [hW1]; exact hI.alloc _ (hI.alloc _ h0)
  have hkb : ∀ (W : World) (st : LoopState) (pe : Option Code) (o' : Obj), W.heap[L]? = some (.loop (lp st pe)) → Kr W (W.putObj L o') := fun W st pe o' h => hKp W L _ o' (by omega) h rfl
  have hrow : ∀ {A : World} {row : Option Nat}, (∀ r, row = some r → W1.heap.size ≤ r ∧ ∃ o : Obj, A.heap[r]? = some o ∧ o.isWalk = true) → (∀ r, row = some r → w.heap.size ≤ r ∧ ∃ o : Obj, A.heap[r]? = some o ∧ o.isCells = false) := fun hr r e => by
    obtain ⟨hB, o, ho, hw⟩ := hr r e
    exact ⟨by omega, o, ho, Obj.not_cells_of_walk hw⟩
  have keep : ∀ {A C : World} {row : Option Nat}, A.grownBy C row → (∀ r, row = some r → W1.heap.size ≤ r ∧ ∃ o : Obj, A.heap[r]? = some o ∧ o.isWalk = true) → ∀ (q : Nat) (o : Obj), A.heap[q]? = some o → o.isWalk = false → C.heap[q]? = some o := fun hgr hr q o ho hw => by
    refine (hgr.block q (Array.getElem?_eq_some_iff.1 ho).1 fun e => ?_).trans ho
    obtain ⟨_, o', ho', hw'⟩ := hr q e.symm
    rw [ho] at ho'
    injection ho' with ho'
    rw [ho', hw'] at hw
    cases hw
  refine ⟨L, [{ target := .collected w.heap.size, args := #[] }], W1, { target := .fn (.func gf) lb, args := #[.func (.yield L) #[] #[]] }, W1, gf, #[.func (.yield L) #[] #[]] ++ lb, W1, ?_, ?_, fun _ _ => trivial, ?_, fun h => by simp [Fence.wide] at h, ?_⟩
  · have := run_enterLoop_outer (P := P) (w := w) fn a.tmps ps assign body
    rw [hW1, hL, hlp]
    exact this
  · simp only [resolve, hg]
    simp [go_sem]
  · simp [invoke, go_sem, eg]
  refine (hit L (fun pre W => I pre W ∧ W.heap[L]? = some (.loop (lp .ready none)) ∧ W.heap[w.heap.size]? = some (.deferred (some [])))
    (fun pre W => ∃ c, Ix c pre W ∧ W.heap[L]? = some (.loop (lp .done (some c))) ∧ W.heap[w.heap.size]? = some (.deferred (some []))) W1 hb1 ?_ ?_ ?_ ⟨hi1, hl1, hd1⟩).mono ?_
  · rintro s A C row ⟨ha, hb, hc⟩ hgr hr
    exact ⟨hI s A C row ha hgr (hrow hr), keep hgr hr _ _ hb rfl, keep hgr hr _ _ hc rfl⟩
  · rintro s A C row ⟨c, ha, hb, hc⟩ hgr hr
    exact ⟨c, hIx c s A C row ha hgr (hrow hr), keep hgr hr _ _ hb rfl, keep hgr hr _ _ hc rfl⟩
  · -- a round
    rintro pre x W ⟨hi, hl, hd⟩ hRx hbd
    have hlt := (Array.getElem?_eq_some_iff.1 hl).1
    have hy := run_yield (P := P) (args := encs x) hl (by rw [hlp]; exact hps x)
    have f1 : (lp .ready none).fn = fn := by rw [hlp]
    have f2 : (lp .ready none).params = ps := by rw [hlp]
    have f3 : (lp .ready none).tmps = a.tmps := by rw [hlp]
    have f4 : (lp .ready none).assign = assign := by rw [hlp]
    have f5 : (lp .ready none).body = body := by rw [hlp]
    rw [f1, f2, f3, f4, f5] at hy
    refine ⟨fn, _, assign, body, hy, roundIn_of_wpIn trivial (wpIn_mono (hassign L pre x W (by omega) hi hRx) ?_)⟩
    rintro e a2 W2 ⟨rfl, hk2, hp2, hx2⟩
    have hl2 := hk2.same _ _ (by omega) hl rfl
    have hd2 := hk2.same _ _ (Nat.le_refl _) hd rfl
    refine ⟨_, run_beginRound hl2 (by rw [hlp]), ?_⟩
    rw [e1]
    have hlt2 := (Array.getElem?_eq_some_iff.1 hl2).1
    have hl3 : (W2.putObj L (.loop (lp .busy none))).heap[L]? = some (.loop (lp .busy none)) := World.putObj_heap_same hlt2
    have hd3 : (W2.putObj L (.loop (lp .busy none))).heap[w.heap.size]? = some (.deferred (some [])) := (World.putObj_heap_other (by omega)).trans hd2
    refine wpIn_mono (hbody L pre x a2 _ (by omega) ((hAx pre x a2).putObj (s := ()) _ hx2 (by omega) hl2 rfl) hbd) ?_
    have fin : ∀ (jump : Option Code) (W4 : World), KeepsFrom w.heap.size (W2.putObj L (.loop (lp .busy none))) W4 →
        (Instr.endRound L jump).run P W4 = .ok (.bool jump.isNone) (W4.putObj L (.loop (lp (if jump.isNone then .ready else .done) jump))) ∧ W4.heap[L]? = some (.loop (lp .busy none)) ∧
        (W4.putObj L (.loop (lp (if jump.isNone then .ready else .done) jump))).heap[L]? = some (.loop (lp (if jump.isNone then .ready else .done) jump)) ∧
        (W4.putObj L (.loop (lp (if jump.isNone then .ready else .done) jump))).heap[w.heap.size]? = some (.deferred (some [])) := fun jump W4 hk4 => by
      have hl4 := hk4.same _ _ (by omega) hl3 rfl
      have hd4 := hk4.same _ _ (Nat.le_refl _) hd3 rfl
      have hr := run_endRound (P := P) jump hl4
      rw [e3] at hr
      exact ⟨hr, hl4, World.putObj_heap_same (Array.getElem?_eq_some_iff.1 hl4).1, (World.putObj_heap_other (by omega)).trans hd4⟩
    rintro e a4 W4 hp
    cases e with
    | normal =>
      obtain ⟨hk4, hp4, hi4, hbd4⟩ := hp
      obtain ⟨hr, hl4, hl5, hd5⟩ := fin none W4 hk4
      exact ⟨_, _, hr, .inl ⟨rfl, ⟨hI.putObj _ hi4 (by omega) hl4 rfl, hl5, hd5⟩, hKt (hKt hp2 (hkb _ _ _ _ hl2)) (hKt hp4 (hkb _ _ _ _ hl4)), hbd4⟩⟩
    | ret =>
      obtain ⟨hk4, hi4⟩ := hp
      obtain ⟨hr, hl4, hl5, hd5⟩ := fin (some .ret) W4 hk4
      exact ⟨_, _, hr, .inr ⟨rfl, .ret, (hIx _).putObj _ hi4 (by omega) hl4 rfl, hl5, hd5⟩⟩
    | exit id =>
      obtain ⟨hk4, hi4⟩ := hp
      obtain ⟨hr, hl4, hl5, hd5⟩ := fin (some (.exit id)) W4 hk4
      exact ⟨_, _, hr, .inr ⟨rfl, .exit id, (hIx _).putObj _ hi4 (by omega) hl4 rfl, hl5, hd5⟩⟩
    | goto t => exact hp.elim
    | panic ch => exact hp.elim
    | outgrown => exact hp.elim
  · -- behind it
    rintro e W2 ⟨⟨v, rfl⟩, (⟨xs, hSx, hi, hl, hd⟩ | ⟨pre, hSp, c, hi, hl, hd⟩)⟩
    · have hr := run_endLoop (P := P) hl (by rw [hlp]; simp)
      rw [e2] at hr
      have hp : (lp .ready none).pending = none := by rw [hlp]
      rw [hp] at hr
      exact ⟨none, _, hr, hdone _ xs _ (Nat.le_refl _) (hS.putObj _ hSx (by omega) hl rfl) (hI.putObj _ hi (by omega) hl rfl) ((World.putObj_heap_other (by omega)).trans hd)⟩
    · have hr := run_endLoop (P := P) hl (by rw [hlp]; simp)
      rw [e2] at hr
      have hp : (lp .done (some c)).pending = some c := by rw [hlp]
      rw [hp] at hr
      exact ⟨some c, _, hr, hstop _ c pre _ (Nat.le_refl _) hSp ((hIx c).putObj _ hi (by omega) hl rfl) ((World.putObj_heap_other (by omega)).trans hd)⟩
end Go.Proofs.YtcffeepgfjpcaaaGreat

namespace Go.Proofs.YtcffeepgfjpcaaaGreat
set_option linter.unusedSimpArgs false
set_option linter.unusedVariables false
open Go.RowKit Go.Shelf

def AbB {α : Type} (B Bs : Nat) (J : List α → World → Prop) : Prop :=
  ∀ (s : List α) (A C : World) (P : Nat → Prop), J s A → Chg P A C → (∀ r, P r → r < A.heap.size → r = Bs ∨ (B ≤ r ∧ ∃ o : Obj, A.heap[r]? = some o ∧ o.isCells = false)) → J s C
section
variable {α : Type} {B Bs : Nat} {J : List α → World → Prop}
theorem AbB.putObj (h : AbB B Bs J) {s : List α} {W : World} {l : Nat} {o : Obj} (o' : Obj) (hs : J s W) (hB : B ≤ l) (hl : W.heap[l]? = some o) (ho : o.isCells = false) : J s (W.putObj l o') :=
  h s W _ (fun k => k = l) hs ⟨rfl, rfl, rfl, by simp, fun k _ hk => World.putObj_heap_other (fun e => hk (by rw [e]))⟩ fun r e _ => by subst e; exact .inr ⟨hB, o, hl, ho⟩
theorem AbB.below (h : AbB B Bs J) {s : List α} {W W' : World} (hs : J s W) (hb : Below W.heap.size W W') : J s W' :=
  h s W W' (fun _ => False) hs ⟨hb.os, hb.tape, hb.output, hb.size, fun k hk _ => hb.block k hk⟩ fun r e _ => e.elim
theorem AbB.alloc (h : AbB B Bs J) {s : List α} {W : World} (o : Obj) (hs : J s W) : J s (W.alloc o) := h.below hs (balloc W o)
end
/-- what an iterator promises: S: all have come; Sp: a part -/
def IterB {α : Type} (P : Program) (n gf : Nat) (lb : Array Value) (encs : α → Array Value) (Bs : Nat) (Kr : World → World → Prop) (R : List α → α → World → Prop) (S : List α → World → Prop) (Sp : List α → Prop) (Bd : List α → Prop) (w : World) : Prop :=
  ∀ (l : Nat) (J Jx : List α → World → Prop) (W : World), Below w.heap.size w W → AbB W.heap.size Bs J → AbB W.heap.size Bs Jx →
    (∀ pre x W1, J pre W1 → R pre x W1 → Bd pre → YieldAt Fence.wide (n - 1) P l (encs x) W1 fun e W' =>
      (e = .returned (.bool true) ∧ J (pre ++ [x]) W' ∧ Kr W1 W' ∧ Bd (pre ++ [x])) ∨ (e = .returned (.bool false) ∧ Jx (pre ++ [x]) W' ∧ KeepsFrom (w.heap.size + 2) W1 W')) → J [] W →
    CallsIn Fence.wide n P gf (#[.func (.yield l) #[] #[]] ++ lb) W fun e W' => (∃ v, e = .returned v) ∧ ((∃ xs, S xs W' ∧ J xs W') ∨ ∃ pre, Sp pre ∧ Jx pre W')


theorem range_b {α : Type} {P : Program} {g : Operand} {ps : Array Tmp} {assign body : Code} {Q : Exit → Act → World → Prop} {a : Act} {w : World} {n gf : Nat} {lb : Array Value}
    (hg : a.eval g = .func (.func gf) #[] lb) (eg : ∀ args w, (callFunc gf args).run P w = .ok (.enter gf args) w)
    {encs : α → Array Value} {Bs : Nat} (hBs : Bs < w.heap.size) {Kr : World → World → Prop} (hKt : ∀ {X Y Z : World}, Kr X Y → Kr Y Z → Kr X Z) (hKp : ∀ (W : World) (o o' : Obj), W.heap[w.heap.size + 1]? = some o → o.isCells = false → Kr W (W.putObj (w.heap.size + 1) o')) {R : List α → α → World → Prop} {S : List α → World → Prop} {Sp Bd : List α → Prop} (hps : ∀ x, (encs x).size = ps.size) (hit : IterB P (n - 1) gf lb encs Bs Kr R S Sp Bd w)
    (I : List α → World → Prop) (Ix : Code → List α → World → Prop) (hI : AbB w.heap.size Bs I) (hIx : ∀ c, AbB w.heap.size Bs (Ix c)) (hS : OwnFrom w.heap.size S) (h0 : I [] w)
    (Ax : Act → List α → α → Act → World → Prop) (hAx : ∀ pre x a', OwnFrom w.heap.size (fun (_ : Unit) W => Ax a pre x a' W))
    (hassign : ∀ (l : Nat) (pre : List α) (x : α) (W : World), w.heap.size ≤ l → I pre W → R pre x W →
      assign.wpIn (Fence.wide.inRound l) (n - 1 - 1) P (fun e a' W' => e = .normal ∧ KeepsFrom w.heap.size W W' ∧ Kr W W' ∧ Ax a pre x a' W') { tmps := (ps.zip (encs x)).foldl (fun t (p, v) => t.setIfInBounds p v) a.tmps, defers := [] } W)
    (hbody : ∀ (l : Nat) (pre : List α) (x : α) (a' : Act) (W : World), w.heap.size ≤ l → Ax a pre x a' W → Bd pre →
      body.wpIn (Fence.wide.inRound l) (n - 1 - 1) P (postX w.heap.size Kr I Ix Bd (pre ++ [x]) W) a' W)
    (hdone : ∀ (D : Nat) (xs : List α) (W : World), w.heap.size ≤ D → S xs W → I xs W → W.heap[D]? = some (.deferred (some [])) → Q .normal { a with defers := { target := .collected D, args := #[] } :: a.defers } W)
    (hstop : ∀ (D : Nat) (c : Code) (pre : List α) (W : World), w.heap.size ≤ D → Sp pre → Ix c pre W → W.heap[D]? = some (.deferred (some [])) → c.wpIn Fence.wide n P Q { a with defers := { target := .collected D, args := #[] } :: a.defers } W) :
    (Code.rangeFunc g ps assign body).wpIn Fence.wide n P Q a w := by
  refine wpIn_rangeFunc fun fn hfn => ?_
  obtain ⟨L, hL⟩ : ∃ L, L = w.heap.size + 1 := ⟨_, rfl⟩
  obtain ⟨lp, hlp⟩ : ∃ lp : LoopState → Option Code → Loop, lp = fun st pe => { state := st, pending := pe, fn, tmps := a.tmps, params := ps, assign, body, defers := w.heap.size } := ⟨_, rfl⟩
  have e1 : ∀ st pe, ({ lp st pe with state := .busy } : Loop) = lp .busy pe := fun st pe => by rw [hlp]
  have e2 : ∀ st st' pe, ({ lp st pe with state := st' } : Loop) = lp st' pe := fun st st' pe => by rw [hlp]
  have e3 : ∀ st st' pe pe', ({ lp st pe with state := st', pending := pe' } : Loop) = lp st' pe' := fun st st' pe pe' => by rw [hlp]
  obtain ⟨W1, hW1⟩ : ∃ W1, W1 = (w.alloc (.deferred (some []))).alloc (.loop (lp .ready none)) := ⟨_, rfl⟩
  have hsz1 : W1.heap.size = w.heap.size + 2 := by rw [hW1]; simp
  have hl1 : W1.heap[L]? = some (.loop (lp .ready none)) := by
    rw [hW1, hL]
    have := World.alloc_heap_new (w.alloc (.deferred (some []))) (.loop (lp .ready none))
    rwa [World.size_alloc] at this
  have hd1 : W1.heap[w.heap.size]? = some (.deferred (some [])) := by rw [hW1]; exact (heap_alloc_old _ _ (by simp)).trans (World.alloc_heap_new w _)
  have hb1 : Below w.heap.size w W1 := by rw [hW1]; exact bstep (balloc _ _) (balloc _ _)
  have hi1 : I [] W1 := by rw [hW1]; exact hI.alloc _ (hI.alloc _ h0)
  have hkb : ∀ (W : World) (st : LoopState) (pe : Option Code) (o' : Obj), W.heap[L]? = some (.loop (lp st pe)) → Kr W (W.putObj L o') := fun W st pe o' h => by subst hL; exact hKp W _ o' h rfl
  have keep : ∀ {A C : World} {P : Nat → Prop}, Chg P A C → (∀ r, P r → r < A.heap.size → r = Bs ∨ W1.heap.size ≤ r) → ∀ (q : Nat) (o : Obj), A.heap[q]? = some o → w.heap.size ≤ q → q < W1.heap.size → C.heap[q]? = some o := fun hc hr q o ho hq0 hw => by
    have hlt := (Array.getElem?_eq_some_iff.1 ho).1
    refine (hc.block q hlt fun e => ?_).trans ho
    have h1 := hr q e hlt
    omega
  refine ⟨L, [{ target := .collected w.heap.size, args := #[] }], W1, { target := .fn (.func gf) lb, args := #[.func (.yield L) #[] #[]] }, W1, gf, #[.func (.yield L) #[] #[]] ++ lb, W1, ?_, ?_, fun _ _ => trivial, ?_, fun h => by simp [Fence.wide] at h, ?_⟩
  · have := run_enterLoop_outer (P := P) (w := w) fn a.tmps ps assign body
    rw [hW1, hL, hlp]
    exact this
  · simp only [resolve, hg]
    simp [go_sem]
  · simp [invoke, go_sem, eg]
  refine (hit L (fun pre W => I pre W ∧ W.heap[L]? = some (.loop (lp .ready none)) ∧ W.heap[w.heap.size]? = some (.deferred (some [])))
    (fun pre W => ∃ c, Ix c pre W ∧ W.heap[L]? = some (.loop (lp .done (some c))) ∧ W.heap[w.heap.size]? = some (.deferred (some []))) W1 hb1 ?_ ?_ ?_ ⟨hi1, hl1, hd1⟩).mono ?_
  · rintro s A C P ⟨ha, hb, hc⟩ hgr hr
    exact ⟨hI s A C P ha hgr fun r h1 h2 => by rcases hr r h1 h2 with e | ⟨h3, h4⟩; exact .inl e; exact .inr ⟨by omega, h4⟩, keep hgr (fun r h1 h2 => (hr r h1 h2).imp id (·.1)) _ _ hb (by omega) (by omega), keep hgr (fun r h1 h2 => (hr r h1 h2).imp id (·.1)) _ _ hc (by omega) (by omega)⟩
  · rintro s A C P ⟨c, ha, hb, hc⟩ hgr hr
    exact ⟨c, hIx c s A C P ha hgr fun r h1 h2 => by rcases hr r h1 h2 with e | ⟨h3, h4⟩; exact .inl e; exact .inr ⟨by omega, h4⟩, keep hgr (fun r h1 h2 => (hr r h1 h2).imp id (·.1)) _ _ hb (by omega) (by omega), keep hgr (fun r h1 h2 => (hr r h1 h2).imp id (·.1)) _ _ hc (by omega) (by omega)⟩
  · -- a round
    rintro pre x W ⟨hi, hl, hd⟩ hRx hbd
    have hlt := (Array.getElem?_eq_some_iff.1 hl).1
    have hy := run_yield (P := P) (args := encs x) hl (by rw [hlp]; exact hps x)
    have f1 : (lp .ready none).fn = fn := by rw [hlp]
    have f2 : (lp .ready none).params = ps := by rw [hlp]
    have f3 : (lp .ready none).tmps = a.tmps := by rw [hlp]
    have f4 : (lp .ready none).assign = assign := by rw [hlp]
    have f5 : (lp .ready none).body = body := by rw [hlp]
    rw [f1, f2, f3, f4, f5] at hy
    refine ⟨fn, _, assign, body, hy, roundIn_of_wpIn trivial (wpIn_mono (hassign L pre x W (by omega) hi hRx) ?_)⟩
    rintro e a2 W2 ⟨rfl, hk2, hp2, hx2⟩
    have hl2 := hk2.same _ _ (by omega) hl rfl
    have hd2 := hk2.same _ _ (Nat.le_refl _) hd rfl
    refine ⟨_, run_beginRound hl2 (by rw [hlp]), ?_⟩
    rw [e1]
    have hlt2 := (Array.getElem?_eq_some_iff.1 hl2).1
    have hl3 : (W2.putObj L (.loop (lp .busy none))).heap[L]? = some (.loop (lp .busy none)) := World.putObj_heap_same hlt2
    have hd3 : (W2.putObj L (.loop (lp .busy none))).heap[w.heap.size]? = some (.deferred (some [])) := (World.putObj_heap_other (by omega)).trans hd2
    refine wpIn_mono (hbody L pre x a2 _ (by omega) ((hAx pre x a2).putObj (s := ()) _ hx2 (by omega) hl2 rfl) hbd) ?_
    have fin : ∀ (jump : Option Code) (W4 : World), KeepsFrom w.heap.size (W2.putObj L (.loop (lp .busy none))) W4 →
        (Instr.endRound L jump).run P W4 = .ok (.bool jump.isNone) (W4.putObj L (.loop (lp (if jump.isNone then .ready else .done) jump))) ∧ W4.heap[L]? = some (.loop (lp .busy none)) ∧
        (W4.putObj L (.loop (lp (if jump.isNone then .ready else .done) jump))).heap[L]? = some (.loop (lp (if jump.isNone then .ready else .done) jump)) ∧
        (W4.putObj L (.loop (lp (if jump.isNone then .ready else .done) jump))).heap[w.heap.size]? = some (.deferred (some [])) := fun jump W4 hk4 => by
      have hl4 := hk4.same _ _ (by omega) hl3 rfl
      have hd4 := hk4.same _ _ (Nat.le_refl _) hd3 rfl
      have hr := run_endRound (P := P) jump hl4
      rw [e3] at hr
      exact ⟨hr, hl4, World.putObj_heap_same (Array.getElem?_eq_some_iff.1 hl4).1, (World.putObj_heap_other (by omega)).trans hd4⟩
    have hkm : ∀ {X Y : World}, KeepsFrom w.heap.size X Y → KeepsFrom (w.heap.size + 2) X Y := fun h => ⟨h.size, fun k o hk h1 h2 => h.same k o (by omega) h1 h2⟩
    have hkp : ∀ (X : World) (o : Obj), KeepsFrom (w.heap.size + 2) X (X.putObj L o) := fun X o => KeepsFrom.of_grownBy (grownBy_putObj' X L o) fun j e => by injection e with e; omega
    have hkk : ∀ (W4 : World) (o : Obj), KeepsFrom w.heap.size (W2.putObj L (.loop (lp .busy none))) W4 → KeepsFrom (w.heap.size + 2) W (W4.putObj L o) := fun W4 o hk4 => (((hkm hk2).trans (hkp _ _)).trans (hkm hk4)).trans (hkp _ _)
    rintro e a4 W4 hp
    cases e with
    | normal =>
      obtain ⟨hk4, hp4, hi4, hbd4⟩ := hp
      obtain ⟨hr, hl4, hl5, hd5⟩ := fin none W4 hk4
      exact ⟨_, _, hr, .inl ⟨rfl, ⟨hI.putObj _ hi4 (by omega) hl4 rfl, hl5, hd5⟩, hKt (hKt hp2 (hkb _ _ _ _ hl2)) (hKt hp4 (hkb _ _ _ _ hl4)), hbd4⟩⟩
    | ret =>
      obtain ⟨hk4, hi4⟩ := hp
      obtain ⟨hr, hl4, hl5, hd5⟩ := fin (some .ret) W4 hk4
      exact ⟨_, _, hr, .inr ⟨rfl, ⟨.ret, (hIx _).putObj _ hi4 (by omega) hl4 rfl, hl5, hd5⟩, hkk _ _ hk4⟩⟩
    | exit id =>
      obtain ⟨hk4, hi4⟩ := hp
      obtain ⟨hr, hl4, hl5, hd5⟩ := fin (some (.exit id)) W4 hk4
      exact ⟨_, _, hr, .inr ⟨rfl, ⟨.exit id, (hIx _).putObj _ hi4 (by omega) hl4 rfl, hl5, hd5⟩, hkk _ _ hk4⟩⟩
    | goto t => exact hp.elim
    | panic ch => exact hp.elim
    | outgrown => exact hp.elim
  · -- behind it
    rintro e W2 ⟨⟨v, rfl⟩, (⟨xs, hSx, hi, hl, hd⟩ | ⟨pre, hSp, c, hi, hl, hd⟩)⟩
    · have hr := run_endLoop (P := P) hl (by rw [hlp]; simp)
      rw [e2] at hr
      have hp : (lp .ready none).pending = none := by rw [hlp]
      rw [hp] at hr
      exact ⟨none, _, hr, hdone _ xs _ (Nat.le_refl _) (hS.putObj _ hSx (by omega) hl rfl) (hI.putObj _ hi (by omega) hl rfl) ((World.putObj_heap_other (by omega)).trans hd)⟩
    · have hr := run_endLoop (P := P) hl (by rw [hlp]; simp)
      rw [e2] at hr
      have hp : (lp .done (some c)).pending = some c := by rw [hlp]
      rw [hp] at hr
      exact ⟨some c, _, hr, hstop _ c pre _ (Nat.le_refl _) hSp ((hIx c).putObj _ hi (by omega) hl rfl) ((World.putObj_heap_other (by omega)).trans hd)⟩
end Go.Proofs.YtcffeepgfjpcaaaGreat

namespace Go.Proofs.YtcffeepgfjpcaaaGreat
set_option linter.unusedSimpArgs false
set_option linter.unusedVariables false
open Go.RowKit

abbrev Blk := {l : List UInt8 // l.length = 128}
/-- bytes laid over a block from o on -/
def over (b : Blk) (o : Nat) (us : List UInt8) : Blk := if h : o + us.length ≤ 128 then ⟨b.1.take o ++ us ++ b.1.drop (o + us.length), by have := b.2; simp; omega⟩ else b
abbrev Wt := Nat × Blk
structure DState where
  bl : List Blk
  wt : List Wt
  off : Bool
  fuse : Int
theorem OwnF.kept {α : Type} {E : TypeId} {C : Cdc α} {w w' : World} {base : Nat} {v : Value} {xs : List α} (h : OwnF E C w base v xs) (hk : ∀ q, v.ownBlock = some q → w'.heap[q]? = w.heap[q]?) : OwnF E C w' base v xs := by
  obtain ⟨css, hl, ⟨h1, h2⟩, h3, h4⟩ := h
  refine ⟨css, hl, ⟨h1, ?_⟩, fun i cs x hc hx => C.keep (h3 i cs x hc hx) fun p hp => hp.elim, fun k hk => hk.elim⟩
  rcases h2 with h2 | ⟨g, cap, cur, e, hg, hh, r⟩
  · exact .inl h2
  · subst e
    exact .inr ⟨g, cap, cur, rfl, hg, (hk g rfl).trans hh, r⟩
end Go.Proofs.YtcffeepgfjpcaaaGreat

namespace Go.Proofs.YtcffeepgfjpcaaaGreat
set_option linter.unusedSimpArgs false
set_option linter.unusedVariables false

def zeroB : Blk := ⟨List.replicate 128 0, by simp⟩
end Go.Proofs.YtcffeepgfjpcaaaGreat

namespace Go.Proofs.YtcffeepgfjpcaaaGreat
set_option linter.unusedSimpArgs false
set_option linter.unusedVariables false
open Go.RowKit

/-- a fact on a value that every later world keeps -/
structure Ph where
  p : Value → World → Prop
  st : ∀ v w w', p v w → Below w.heap.size w w' → p v w'
/-- the value is this one -/
def Ph.is (c : Value) : Ph := ⟨fun v _ => v = c, fun _ _ _ h _ => h⟩
def Ph.any : Ph := ⟨fun _ _ => True, fun _ _ _ h _ => h⟩
instance : Inhabited Ph := ⟨Ph.any⟩
/-- a readable row of bytes -/
def Ph.by_ (l : List UInt8) : Ph := ⟨fun v w => By w w.heap.size v l, fun _ _ _ h hb => h.step hb⟩

/-- what lies in the slot behind the operation -/
def dstVal (d : Option Nat) (v : Value) : Value := match d with | some _ => v | none => undef
@[simp] theorem dstVal_some (d : Nat) (v : Value) : dstVal (some d) v = v := rfl
@[simp] theorem dstVal_none (v : Value) : dstVal none v = undef := rfl
def mildUpon (P : Program) (w : World) (d : Option Nat) (ph : Value → World → Prop) : Result Next → Prop
  | .ok (.value u) w' => Below w.heap.size w w' ∧ ph (dstVal d u) w'
  | .ok .skip w' => Below w.heap.size w w' ∧ ph undef w'
  | .ok (.enter f args) w' => Calls P f args w' (fun e w'' => ∃ v, e = .returned v ∧ Below w.heap.size w w'' ∧ ph (dstVal d v) w'')
  | _ => False

/-- the frame with the slots ds written anew -/
def fills (ds : List Nat) (f : Nat → Value) (a : Act) : Act := ds.foldl (fun a d => a.put (some d) (f d)) a

theorem fills_defers (ds : List Nat) (f : Nat → Value) (a : Act) : (fills ds f a).defers = a.defers := by
  unfold fills
  induction ds generalizing a with
  | nil => rfl
  | cons d ds ih => rw [List.foldl_cons, ih]; rfl
theorem fills_size (ds : List Nat) (f : Nat → Value) (a : Act) : (fills ds f a).tmps.size = a.tmps.size := by
  unfold fills
  induction ds generalizing a with
  | nil => rfl
  | cons d ds ih => rw [List.foldl_cons, ih]; simp [Act.put]
theorem fills_get (ds : List Nat) (f : Nat → Value) (a : Act) (t : Nat) : (fills ds f a).tmps[t]? = if t ∈ ds ∧ t < a.tmps.size then some (f t) else a.tmps[t]? := by
  unfold fills
  induction ds generalizing a with
  | nil => simp
  | cons d ds ih =>
    rw [List.foldl_cons, ih]
    simp only [Act.put, Array.size_setIfInBounds, List.mem_cons]
    by_cases h1 : t ∈ ds ∧ t < a.tmps.size
    · rw [if_pos h1, if_pos ⟨.inr h1.1, h1.2⟩]
    · rw [if_neg h1]
      by_cases h2 : t = d
      · subst h2
        by_cases h3 : t < a.tmps.size
        · rw [if_pos ⟨.inl rfl, h3⟩]; simp [h3]
        · rw [if_neg (fun h => h3 h.2)]; simp [Array.setIfInBounds, h3]
      · rw [if_neg (fun h => by rcases h with ⟨h | h, h'⟩; exact h2 h; exact h1 ⟨h, h'⟩), Array.getElem?_setIfInBounds_ne (Ne.symm h2)]
theorem act_ext {a b : Act} (h1 : ∀ t : Nat, a.tmps[t]? = b.tmps[t]?) (h2 : a.defers = b.defers) : a = b := by
  cases a; cases b
  have : _ = _ := Array.ext_getElem? h1
  simp_all
theorem fills_put (ds : List Nat) (f : Nat → Value) (a : Act) (d : Nat) (v : Value) (hd : d ∈ ds) : (fills ds f a).put (some d) v = fills ds (fun t => if t = d then v else f t) a := by
  refine act_ext (fun t => ?_) ?_
  · rw [fills_get]
    simp only [Act.put]
    by_cases h : t = d
    · subst h
      by_cases h3 : t < a.tmps.size
      · rw [if_pos ⟨hd, h3⟩, Array.getElem?_setIfInBounds_self_of_lt (by rw [fills_size]; exact h3)]; simp
      · rw [if_neg (fun h => h3 h.2)]
        have h4 : ¬ t < (fills ds f a).tmps.size := by rw [fills_size]; exact h3
        simp only [Array.setIfInBounds, h4, dite_false]
        rw [fills_get, if_neg (fun h => h3 h.2)]
    · rw [Array.getElem?_setIfInBounds_ne (Ne.symm h), fills_get, if_neg h]
  · rw [fills_defers]; exact fills_defers ds f a
theorem fills_self (ds : List Nat) (a : Act) : fills ds (fun t => a.tmps.getD t undef) a = a := by
  refine act_ext (fun t => ?_) (fills_defers _ _ _)
  rw [fills_get]
  split
  · rename_i h
    rw [Array.getD_eq_getD_getElem?, Array.getElem?_eq_getElem h.2]; rfl
  · rfl
theorem fills_getD (ds : List Nat) (f : Nat → Value) (a : Act) (d : Nat) (hd : d ∈ ds) (h : d < a.tmps.size) : (fills ds f a).tmps.getD d undef = f d := by
  rw [Array.getD_eq_getD_getElem?, fills_get, if_pos ⟨hd, h⟩]; rfl

/-- the value of operation number j; dl: the slots that the operations write -/
def valOf (dl : List (Option Nat)) (f : Nat → Value) (j : Nat) : Value := match dl[j]? with | some (some d) => f d | _ => undef
def factOf (dl : List (Option Nat)) (Φ : List Ph) (f : Nat → Value) (w : World) (j : Nat) : Prop := (Φ.getD j default).p (valOf dl f j) w
/-- the facts of all that an operation waits for -/
def PreOf (dl : List (Option Nat)) (Φ : List Ph) (f : Nat → Value) (w : World) : List Edge → Prop
  | [] => True
  | e :: es => (if Region.binds .any e then factOf dl Φ f w e.on else True) ∧ PreOf dl Φ f w es
/-- its guard says yes -/
def Gd (dl : List (Option Nat)) (f : Nat → Value) : Option (Nat × Bool) → Prop
  | none => True
  | some (j, want) => valOf dl f j = .bool want
/-- the frame as the operations see it -/
def evalF (ds : List Nat) (f : Nat → Value) (a : Act) : Operand → Value
  | .tmp t => if ds.contains t then f t else a.tmps.getD t undef
  | x => a.eval x
/-- what is to be shown of one operation -/
def Ob1 (P : Program) (dl : List (Option Nat)) (Φ : List Ph) (ds : List Nat) (a : Act) (w : World) (ph : Ph) (o : Oper) : Prop :=
  ∀ f w', Below w.heap.size w w' → PreOf dl Φ f w' o.after.toList →
    (Gd dl f o.guard → mildUpon P w' o.dst ph.p ((execOp (evalF ds f a) o).run P w')) ∧ (¬ Gd dl f o.guard → ph.p undef w')
def ObAll (P : Program) (dl : List (Option Nat)) (Φ : List Ph) (ds : List Nat) (a : Act) (w : World) : List Oper → List Ph → Prop
  | [], _ => True
  | _ :: _, [] => False
  | o :: os, ph :: phs => Ob1 P dl Φ ds a w ph o ∧ ObAll P dl Φ ds a w os phs
def PostOf (f : Nat → Value) (w : World) : List (Option Nat) → List Ph → Prop
  | [], _ => True
  | _ :: _, [] => True
  | d :: os, ph :: phs => ph.p (match d with | some d => f d | none => undef) w ∧ PostOf f w os phs

theorem evalF_fills {ds : List Nat} {a : Act} (f : Nat → Value) (h : ∀ d ∈ ds, d < a.tmps.size) : (fills ds f a).eval = evalF ds f a := by
  funext x
  cases x with
  | tmp t =>
    simp only [Act.eval, evalF]
    rw [Array.getD_eq_getD_getElem?, fills_get]
    by_cases ht : t ∈ ds
    · rw [if_pos ⟨ht, h t ht⟩, if_pos (by simpa using ht)]; rfl
    · rw [if_neg (fun h => ht h.1), if_neg (by simpa using ht), Array.getD_eq_getD_getElem?]
  | const v => rfl
  | global g => rfl
  | func g => rfl
theorem yielded_iff (ops : Array Oper) (dl : List (Option Nat)) (hdl : ops.toList.map (·.dst) = dl) (ds : List Nat) (f : Nat → Value) (a : Act) (h : ∀ d ∈ ds, d < a.tmps.size) (hds : ∀ d, some d ∈ dl → d ∈ ds) (g : Option (Nat × Bool)) (o : Oper) (hg : o.guard = g) :
    Region.wanted o (yielded ops (fills ds f a).tmps) = true ↔ Gd dl f g := by
  subst hg
  unfold Region.wanted Gd
  cases hgd : o.guard with
  | none => simp
  | some x =>
    obtain ⟨j, want⟩ := x
    simp only [beq_iff_eq]
    unfold yielded valOf
    have hj : dl[j]? = (ops[j]?).map (fun (o : Oper) => o.dst) := by rw [← hdl]; simp
    rw [hj]
    cases ho : ops[j]? with
    | none => simp [undef]
    | some oj =>
      simp only [Option.map_some, Option.bind_some]
      cases hd : oj.dst with
      | none => simp [undef]
      | some d =>
        have hdd : d ∈ ds := hds d (by
          rw [← hdl]
          exact List.mem_map.2 ⟨oj, by simpa using Array.mem_of_getElem? ho, hd⟩)
        have hv : (fills ds f a).tmps.getD d undef = f d := fills_getD ds f a d hdd (h d hdd)
        have hv2 : (fills ds f a).tmps[d]? = some (f d) := by rw [fills_get, if_pos ⟨hdd, h d hdd⟩]
        simp only [Option.bind_some, hv2]
        cases f d <;> simp

theorem preOf_mk {dl : List (Option Nat)} {Φ : List Ph} {f : Nat → Value} {w : World} : ∀ (es : List Edge), (∀ e ∈ es, Region.binds .any e = true → factOf dl Φ f w e.on) → PreOf dl Φ f w es
  | [], _ => trivial
  | e :: es, h => by
    refine ⟨?_, preOf_mk es fun x hx => h x (List.mem_cons_of_mem _ hx)⟩
    split
    · exact h e (List.mem_cons_self ..) ‹_›
    · trivial
theorem obAll_get {P : Program} {dl : List (Option Nat)} {Φ : List Ph} {ds : List Nat} {a : Act} {w : World} : ∀ (os : List Oper) (phs : List Ph), ObAll P dl Φ ds a w os phs →
    ∀ (i : Nat) (o : Oper), os[i]? = some o → Ob1 P dl Φ ds a w (phs.getD i default) o
  | [], _, _, i, o, h => by simp at h
  | _ :: _, [], h, _, _, _ => h.elim
  | o' :: os, ph :: phs, h, 0, o, ho => by
    simp at ho; subst ho; exact h.1
  | o' :: os, ph :: phs, h, i + 1, o, ho => by
    simp at ho; simpa using obAll_get os phs h.2 i o ho
theorem postOf_mk {f : Nat → Value} {w : World} : ∀ (os : List (Option Nat)) (phs : List Ph),
    (∀ (i : Nat) (d : Option Nat), os[i]? = some d → (phs.getD i default).p (match d with | some d => f d | none => undef) w) → PostOf f w os phs
  | [], _, _ => by simp [PostOf]
  | _ :: _, [], _ => by simp [PostOf]
  | d :: os, ph :: phs, h => ⟨h 0 d rfl, postOf_mk os phs fun i d hd => by simpa using h (i + 1) d (by simpa using hd)⟩

/-- the closed facts on the region: the slots that are written are different ones, in the frame; edges go backward -/
def dstsOf_ (l : List Oper) : List Nat := l.filterMap (·.dst)
def typedB (l : List Oper) (n : Nat) : Bool :=
  decide ((dstsOf_ l).Nodup) && (dstsOf_ l).all (fun d => decide (d < n)) &&
  (l.zipIdx).all (fun x => x.1.after.all fun e => !Region.binds .any e || decide (e.on < x.2)) && Region.noSelect l.toArray

section
variable {P : Program} {l : List Oper} {dl : List (Option Nat)} {ds : List Nat} {Φ : List Ph} {a : Act} {w : World} {Q : Exit → Act → World → Prop}

theorem typed_aux (hdl : l.map (·.dst) = dl) (hn : typedB l a.tmps.size = true) (hob : ObAll P dl Φ (dstsOf_ l) a w l Φ)
    (hQ : ∀ f w', Below w.heap.size w w' → PostOf f w' dl Φ → Q .normal (fills (dstsOf_ l) f a) w') :
    ∀ (fuel : Nat) (listed : Array Bool) (rem : List Nat), rem.length = fuel → listed.size = l.length → rem.Nodup → (∀ i, i ∈ rem ↔ i < l.length ∧ listed.getD i true = false) →
      ∀ f w', Below w.heap.size w w' → (∀ i, i < l.length → listed.getD i false = true → factOf dl Φ f w' i) →
      wpAny P .any l.toArray Q fuel listed (fills (dstsOf_ l) f a) w' := by
  simp only [typedB, Bool.and_eq_true] at hn
  obtain ⟨⟨⟨hnd, hlt⟩, hed⟩, _⟩ := hn
  have hdlg : ∀ i : Nat, dl[i]? = (l[i]?).map (fun (o : Oper) => o.dst) := fun i => by rw [← hdl]; simp
  have hnd := of_decide_eq_true hnd
  have hlt : ∀ d ∈ dstsOf_ l, d < a.tmps.size := fun d hd => of_decide_eq_true (List.all_eq_true.1 hlt d hd)
  have hed : ∀ (i : Nat) (o : Oper), l[i]? = some o → ∀ e ∈ o.after, Region.binds .any e = true → e.on < i := by
    intro i o ho e he hb
    have h1 := List.all_eq_true.1 hed (o, i) (by
      rw [List.mem_zipIdx_iff_getElem?]; exact ho)
    have h2 := (Array.all_eq_true_iff_forall_mem.1 h1) e he
    simpa [hb] using h2
  have hall : ∀ (listed : Array Bool), listed.size = l.length → Region.ready .any l.toArray listed = [] → ∀ i, i < l.length → listed.getD i false = true := by
    intro listed hs hr i
    induction i using Nat.strongRecOn with
    | _ i ih =>
      intro hi
      rcases hc : listed.getD i false with _ | _
      · exfalso
        have hm : i ∈ Region.ready .any l.toArray listed := by
          rw [mem_ready]
          refine ⟨?_, l[i], by simp [hi], fun e he hb => ?_⟩
          · rw [Array.getD_eq_getD_getElem?] at hc ⊢
            rw [Array.getElem?_eq_getElem (by omega)] at hc ⊢
            exact hc
          · have := hed i l[i] (by simp [hi]) e he hb
            exact ih e.on this (by omega)
        rw [hr] at hm
        cases hm
      · rfl
  have hend : ∀ (listed : Array Bool), listed.size = l.length → (∀ i, i < l.length → listed.getD i false = true) → ∀ f w', Below w.heap.size w w' → (∀ i, i < l.length → listed.getD i false = true → factOf dl Φ f w' i) →
      Q .normal (fills (dstsOf_ l) f a) w' := by
    intro listed hs hal f w' hb hf
    refine hQ f w' hb (postOf_mk dl Φ fun i d hd => ?_)
    have hi : i < l.length := by
      have := (List.getElem?_eq_some_iff.1 hd).1
      rw [← hdl] at this
      simpa using this
    have := hf i hi (hal i hi)
    unfold factOf valOf at this
    rw [hd] at this
    cases d <;> exact this
  intro fuel
  induction fuel with
  | zero =>
    intro listed rem hrem hs hnr hmem f w' hb hf
    have hr0 : rem = [] := List.eq_nil_of_length_eq_zero hrem
    have hal : ∀ i, i < l.length → listed.getD i false = true := by
      intro i hi
      rcases hc : listed.getD i false with _ | _
      · exfalso
        have : i ∈ rem := (hmem i).2 ⟨hi, by
          rw [Array.getD_eq_getD_getElem?] at hc ⊢
          rw [Array.getElem?_eq_getElem (by omega)] at hc ⊢
          exact hc⟩
        rw [hr0] at this
        cases this
      · rfl
    refine ⟨?_, hend listed hs hal f w' hb hf⟩
    rw [List.eq_nil_iff_forall_not_mem]
    intro i hi
    have h1 := (mem_ready.1 hi).1
    obtain ⟨_, o, ho, _⟩ := mem_ready.1 hi
    have hil : i < l.length := by
      have := (Array.getElem?_eq_some_iff.1 ho).1
      simpa using this
    have h2 := hal i hil
    rw [Array.getD_eq_getD_getElem?, Array.getElem?_eq_getElem (by omega)] at h1 h2
    simp at h1 h2
    rw [h1] at h2
    cases h2
  | succ fuel ih =>
    intro listed rem hrem hs hnr hmem f w' hb hf
    refine ⟨fun h => hend listed hs (hall listed hs h) f w' hb hf, fun i hi => ?_⟩
    obtain ⟨hun, o, ho, hpre⟩ := mem_ready.1 hi
    have hol : l[i]? = some o := by simpa using ho
    have hil : i < l.length := (List.getElem?_eq_some_iff.1 hol).1
    have hp : PreOf dl Φ f w' o.after.toList := preOf_mk _ fun e he hbd => by
      have he' : e ∈ o.after := by simpa using he
      have hlist := hpre e he' hbd
      exact hf e.on (Nat.lt_trans (hed i o hol e he' hbd) hil) hlist
    have hone := obAll_get l Φ hob i o hol f w' hb hp
    have hgd := yielded_iff l.toArray dl (by simpa using hdl) (dstsOf_ l) f a hlt (fun d hd => by
      rw [← hdl] at hd
      obtain ⟨oo, h1, h2⟩ := List.mem_map.1 hd
      exact List.mem_filterMap.2 ⟨oo, h1, h2⟩) o.guard o rfl
    -- what follows once the value is there
    have hnext : ∀ v w'', Below w'.heap.size w' w'' → (Φ.getD i default).p (dstVal o.dst v) w'' →
        wpAny P .any l.toArray Q fuel (listed.setIfInBounds i true) ((fills (dstsOf_ l) f a).put o.dst v) w'' := by
      intro v w'' hb' hv
      have hrem' : (rem.erase i).length = fuel := by
        have : i ∈ rem := (hmem i).2 ⟨hil, hun⟩
        rw [List.length_erase_of_mem this]; omega
      have hmem' : ∀ k, k ∈ rem.erase i ↔ k < l.length ∧ (listed.setIfInBounds i true).getD k true = false := by
        intro k
        rw [hnr.mem_erase_iff, hmem]
        by_cases hk : k = i
        · subst hk
          simp only [ne_eq, not_true, false_and, false_iff, not_and]
          intro hk
          rw [Array.getD_eq_getD_getElem?, Array.getElem?_setIfInBounds_self_of_lt (by omega)]
          simp
        · rw [getD_set_ne true (Ne.symm hk)]
          simp [hk]
      have hst : ∀ k, k < l.length → k ≠ i → (listed.setIfInBounds i true).getD k false = true → listed.getD k false = true := by
        intro k _ hk h
        rw [getD_set_ne false (Ne.symm hk)] at h
        exact h
      cases hd : o.dst with
      | none =>
        show wpAny P .any l.toArray Q fuel _ (fills (dstsOf_ l) f a) w''
        refine ih _ (rem.erase i) hrem' (by simpa using hs) (hnr.erase i) hmem' f w'' (hb.trans (hb'.mono hb.size)) fun k hk hl => ?_
        by_cases hki : k = i
        · subst hki
          unfold factOf valOf
          rw [hdlg, hol]
          simp only [Option.map_some, hd]
          simpa [hd] using hv
        · exact (Φ.getD k default).st _ _ _ (hf k hk (hst k hk hki hl)) hb'
      | some d =>
        have hdm : d ∈ dstsOf_ l := List.mem_filterMap.2 ⟨o, List.mem_of_getElem? hol, hd⟩
        rw [fills_put _ _ _ _ _ hdm]
        refine ih _ (rem.erase i) hrem' (by simpa using hs) (hnr.erase i) hmem' _ w'' (hb.trans (hb'.mono hb.size)) fun k hk hl => ?_
        by_cases hki : k = i
        · subst hki
          unfold factOf valOf
          rw [hdlg, hol]
          simp only [Option.map_some, hd]
          simpa [hd] using hv
        · have h0 := (Φ.getD k default).st _ _ _ (hf k hk (hst k hk hki hl)) hb'
          unfold factOf
          have hval : valOf dl (fun t => if t = d then v else f t) k = valOf dl f k := by
            unfold valOf
            rw [hdlg]
            cases hok : l[k]? with
            | none => rfl
            | some ok =>
              cases hdk : ok.dst with
              | none => simp [hdk]
              | some dk =>
                simp only [Option.map_some, hdk]
                rw [if_neg]
                intro e
                subst e
                -- two operations with one slot
                have h3 : (dstsOf_ l).Nodup := hnd
                have : ∀ (m : List Oper) (x y : Nat) (ox oy : Oper), (m.filterMap (·.dst)).Nodup → m[x]? = some ox → m[y]? = some oy → ox.dst = some dk → oy.dst = some dk → x = y := by
                  intro m
                  induction m with
                  | nil => intro x y ox oy _ hx; simp at hx
                  | cons q m ihm =>
                    intro x y ox oy hnd hx hy hdx hdy
                    cases x with
                    | zero =>
                      cases y with
                      | zero => rfl
                      | succ y =>
                        exfalso
                        simp at hx hy
                        subst hx
                        simp only [List.filterMap_cons, hdx] at hnd
                        exact (List.nodup_cons.1 hnd).1 (List.mem_filterMap.2 ⟨oy, List.mem_of_getElem? hy, hdy⟩)
                    | succ x =>
                      cases y with
                      | zero =>
                        exfalso
                        simp at hx hy
                        subst hy
                        simp only [List.filterMap_cons, hdy] at hnd
                        exact (List.nodup_cons.1 hnd).1 (List.mem_filterMap.2 ⟨ox, List.mem_of_getElem? hx, hdx⟩)
                      | succ y =>
                        simp at hx hy
                        have : (m.filterMap (·.dst)).Nodup := by
                          simp only [List.filterMap_cons] at hnd
                          cases hq : q.dst with
                          | none => simpa [hq] using hnd
                          | some _ => simp only [hq] at hnd; exact (List.nodup_cons.1 hnd).2
                        rw [ihm x y ox oy this hx hy hdx hdy]
                exact hki (this l k i ok o h3 hok hol hdk hd)
          rw [hval]
          exact h0
    unfold wpOp
    simp only [ho]
    by_cases hw : Region.wanted o (yielded l.toArray (fills (dstsOf_ l) f a).tmps) = true
    · replace hone := hone.1 (hgd.1 hw)
      simp only [hw, if_true]
      left
      unfold Oper.wp
      rw [evalF_fills f hlt]
      generalize (execOp (evalF (dstsOf_ l) f a) o).run P w' = r at *
      cases r with
      | ok n w'' =>
        cases n <;> simp only [mildUpon] at hone <;> simp only [Oper.upon]
        case value u =>
          exact hnext u w'' hone.1 hone.2
        case skip =>
          refine hnext undef w'' hone.1 ?_
          cases o.dst <;> exact hone.2
        case enter f' args =>
          refine hone.mono ?_
          rintro e w3 ⟨v, rfl, hb3, hv⟩
          exact hnext v w3 hb3 hv
      | halt x w'' => simp only [mildUpon] at hone
    · replace hone := hone.2 (fun h => hw (hgd.2 h))
      simp only [hw]
      refine hnext undef w' (Below.refl _ _) ?_
      cases o.dst <;> exact hone

/-- THE LAW: a region that draws its order, by facts on its values. -/
theorem wp_region_typed {id : Nat} (dl : List (Option Nat)) (ds : List Nat) (Φ : List Ph) (hdl : l.map (·.dst) = dl) (hds : dstsOf_ l = ds) (hm : P.follows .mixedOrders = true) (hn : typedB l a.tmps.size = true) (hob : ObAll P dl Φ ds a w l Φ)
    (hQ : ∀ f w', Below w.heap.size w w' → PostOf f w' dl Φ → Q .normal (fills ds f a) w') : (Code.region id l.toArray true).wp P Q a w := by
  subst hds
  refine wp_region_any hm ?_
  have := typed_aux hdl hn hob hQ l.length (Array.replicate l.length false) (List.range l.length) (by simp) (by simp) List.nodup_range (by
    intro i
    simp only [List.mem_range, Array.getD_eq_getD_getElem?]
    constructor
    · intro h; exact ⟨h, by simp [h]⟩
    · exact fun h => h.1) (fun t => a.tmps.getD t undef) { w with drawn := w.drawn + 1 } ((Below.refl _ w).drew) (by
    intro i hi h
    simp [Array.getD_eq_getD_getElem?, hi] at h)
  rw [fills_self] at this
  simpa using this
end

/-! ### one operation -/
section
variable {P : Program} {dl : List (Option Nat)} {ds : List Nat} {Φ : List Ph} {a : Act} {w : World} {ph : Ph} {o : Oper}
/-- its guard, if there is one, says yes by the facts -/
theorem ob_yes (h : ∀ f w', Below w.heap.size w w' → PreOf dl Φ f w' o.after.toList → Gd dl f o.guard ∧ mildUpon P w' o.dst ph.p ((execOp (evalF ds f a) o).run P w')) : Ob1 P dl Φ ds a w ph o :=
  fun f w' hb hp => ⟨fun _ => (h f w' hb hp).2, fun hn => (hn (h f w' hb hp).1).elim⟩
/-- its guard says no by the facts -/
theorem ob_no (h : ∀ f w', Below w.heap.size w w' → PreOf dl Φ f w' o.after.toList → ¬ Gd dl f o.guard ∧ ph.p undef w') : Ob1 P dl Φ ds a w ph o :=
  fun f w' hb hp => ⟨fun hg => ((h f w' hb hp).1 hg).elim, fun _ => (h f w' hb hp).2⟩
/-- a value, the world as it was -/
theorem mild_val {d : Option Nat} {q : Value → World → Prop} {r : Result Next} {w' : World} (u : Value) (hr : r = .ok (.value u) w') (hq : q (dstVal d u) w') : mildUpon P w' d q r := by
  subst hr; exact ⟨Below.refl _ _, hq⟩
theorem mild_call {d : Option Nat} {q : Value → World → Prop} {w' : World} {ρ : Operand → Value} (f : Nat) (args : Array Operand) (ts : Array TypeId) (fn : Func) (hf : P.funcs[f]? = some fn) (hn : (fn.name == "runtime.NumGoroutine") = false) (hb : fn.body.isNone = false)
    {t : TypeId} {pos : String} {af : Array Edge} {g : Option (Nat × Bool)} (hρ : ρ (.func f) = .func (.func f) #[] #[])
    (h : Calls P f (args.map ρ) w' (fun e w'' => ∃ v, e = .returned v ∧ Below w'.heap.size w' w'' ∧ q (dstVal d v) w'')) :
    mildUpon P w' d q ((execOp ρ { dst := d, op := .call { callee := .value (.func f), args := args, argTypes := ts }, type := t, pos := pos, after := af, guard := g }).run P w') := by
  have hr : (execOp ρ { dst := d, op := .call { callee := .value (.func f), args := args, argTypes := ts }, type := t, pos := pos, after := af, guard := g }).run P w' = .ok (.enter f (args.map ρ)) w' := by
    simp [execOp, resolve, hρ, Deferred.ofValue, invoke, callFunc, hf]
    rw [if_neg (by simpa using hn), if_neg (by intro h; simp [h] at hb)]
  rw [hr]
  exact h
end

/-- a row of cells in a block that is known whole -/
def Ph.blk (t : TypeId) (vs : List Value) : Ph :=
  ⟨fun v w => ∃ g, v = .slice (some ⟨g, 0, none⟩) vs.length vs.length ∧ w.heap[g]? = some (.cells vs.toArray t (0, 0)), fun _ w _ ⟨g, h1, h2⟩ hb => ⟨g, h1, (hb.block g (by
    rcases Nat.lt_or_ge g w.heap.size with h | h
    · exact h
    · rw [Array.getElem?_eq_none h] at h2; cases h2)).trans h2⟩⟩
section
variable {P : Program} {w : World} {ρ : Operand → Value} {t e : TypeId} {sz : Nat} {A : Option Addr} {n c : Nat} {d : Option Nat} {ty : TypeId} {pos : String} {af : Array Edge} {g : Option (Nat × Bool)}
end
end Go.Proofs.YtcffeepgfjpcaaaGreat

namespace Go.Proofs.YtcffeepgfjpcaaaGreat
set_option linter.unusedSimpArgs false
set_option linter.unusedVariables false
open Go.RowKit

def predsOf (o : Oper) : List Nat := o.after.toList.filterMap fun e => if Region.binds .any e then some e.on else none
theorem mem_predsOf {o : Oper} {k : Nat} : k ∈ predsOf o ↔ ∃ e ∈ o.after, Region.binds .any e = true ∧ e.on = k := by
  unfold predsOf
  rw [List.mem_filterMap]
  constructor
  · rintro ⟨e, he, h⟩
    split at h
    · exact ⟨e, by simpa using he, ‹_›, by simpa using h⟩
    · cases h
  · rintro ⟨e, he, hb, rfl⟩
    exact ⟨e, by simpa using he, by rw [if_pos hb]⟩
/-- all that an operation waits for, directly and through others -/
def ancs : List Oper → List (List Nat) → List (List Nat)
  | [], acc => acc
  | o :: os, acc => ancs os (acc ++ [(predsOf o ++ (predsOf o).flatMap fun j => acc.getD j []).eraseDups])
def backB (L : List Oper) : Bool := (L.zipIdx).all (fun x => x.1.after.all fun e => !Region.binds .any e || decide (e.on < x.2))
theorem back_spec {L : List Oper} (h : backB L = true) (i : Nat) (o : Oper) (ho : L[i]? = some o) (e : Edge) (he : e ∈ o.after) (hb : Region.binds .any e = true) : e.on < i := by
  have h1 := List.all_eq_true.1 h (o, i) (by
    rw [List.mem_zipIdx_iff_getElem?]; exact ho)
  have h2 := (Array.all_eq_true_iff_forall_mem.1 h1) e he
  simpa [hb] using h2
def guardB (l : List Oper) : Bool := l.all fun o => match o.guard with | none => true | some (j, _) => decide (j < l.length)
theorem guard_spec {l : List Oper} (h : guardB l = true) {i : Nat} {o : Oper} (ho : l[i]? = some o) (j : Nat) (b : Bool) (hg : o.guard = some (j, b)) : j < l.length := by
  have h1 := List.all_eq_true.1 h o (List.mem_of_getElem? ho)
  rw [hg] at h1
  exact of_decide_eq_true h1
def tailB (l l2 : List Oper) : Bool :=
  backB (l ++ l2) && guardB l && (List.range l2.length).all fun k => (List.range (l.length + k)).all fun j => ((ancs (l ++ l2) []).getD (l.length + k) []).contains j
def Closed (L : List Oper) (listed : Array Bool) : Prop :=
  ∀ (i : Nat) (o : Oper), L[i]? = some o → listed.getD i false = true → ∀ e ∈ o.after, Region.binds .any e = true → listed.getD e.on false = true

theorem ancs_spec {L : List Oper} {S : Nat → Prop} (hcl : ∀ (i : Nat) (o : Oper), L[i]? = some o → S i → ∀ k ∈ predsOf o, S k) : ∀ (os : List Oper) (acc : List (List Nat)) (m : Nat), acc.length = m → (∀ j : Nat, os[j]? = L[m + j]?) →
    (∀ (i : Nat) (o : Oper), L[i]? = some o → (∀ k ∈ predsOf o, S k) → ∀ k ∈ acc.getD i [], S k) →
    ∀ (i : Nat) (o : Oper), L[i]? = some o → (∀ k ∈ predsOf o, S k) → ∀ k ∈ (ancs os acc).getD i [], S k
  | [], acc, m, _, _, hacc => hacc
  | o :: os, acc, m, hm, hos, hacc => by
    unfold ancs
    refine ancs_spec hcl os _ (m + 1) (by simp [hm]) (fun j => by have := hos (j + 1); simpa [Nat.add_assoc, Nat.add_comm 1 j] using this) ?_
    intro i oi hoi hp k hk
    rw [List.getD_eq_getElem?_getD, List.getElem?_append] at hk
    split at hk
    · exact hacc i oi hoi hp k (by rw [List.getD_eq_getElem?_getD]; exact hk)
    · rename_i hge
      by_cases hi : i = acc.length
      · subst hi
        simp only [Nat.sub_self, List.getElem?_cons_zero, Option.getD_some, List.mem_eraseDups, List.mem_append, List.mem_flatMap] at hk
        have ho : oi = o := by
          have := hos 0
          rw [Nat.add_zero, ← hm, hoi] at this
          simpa using this.symm
        subst ho
        rcases hk with hk | ⟨j, hj, hk⟩
        · exact hp k hk
        · have hSj := hp j hj
          rcases Nat.lt_or_ge j acc.length with hjl | hjl
          · cases hoj : L[j]? with
            | none =>
              exfalso
              have h1 := List.getElem?_eq_none_iff.1 hoj
              have h2 := (List.getElem?_eq_some_iff.1 hoi).1
              omega
            | some oj => exact hacc j oj hoj (hcl j oj hoj hSj) k hk
          · rw [List.getD_eq_getElem?_getD, List.getElem?_eq_none hjl] at hk
            simp at hk
      · have : 1 ≤ i - acc.length := by omega
        rw [List.getElem?_eq_none (by simpa using this)] at hk
        simp at hk
theorem tail_anc {l l2 : List Oper} (ht : tailB l l2 = true) (listed : Array Bool) (hcl : Closed (l ++ l2) listed) (i : Nat) (o : Oper) (ho : (l ++ l2)[i]? = some o) (hi : l.length ≤ i)
    (hp : ∀ e ∈ o.after, Region.binds .any e = true → listed.getD e.on false = true) : ∀ k, k < i → listed.getD k false = true := by
  intro k hk
  have hil : i < l.length + l2.length := by
    have := (List.getElem?_eq_some_iff.1 ho).1
    simpa using this
  simp only [tailB, Bool.and_eq_true] at ht
  have h1 := List.all_eq_true.1 ht.2 (i - l.length) (by rw [List.mem_range]; omega)
  have h2 := List.all_eq_true.1 h1 k (by rw [List.mem_range]; omega)
  rw [show l.length + (i - l.length) = i by omega] at h2
  refine ancs_spec (L := l ++ l2) (S := fun k => listed.getD k false = true) (fun i o ho hS k hk => ?_) (l ++ l2) [] 0 rfl (by simp) (by simp) i o ho (fun k hk => ?_) k (by simpa using h2)
  · obtain ⟨e, he, hb, rfl⟩ := mem_predsOf.1 hk
    exact hcl i o ho hS e he hb
  · obtain ⟨e, he, hb, rfl⟩ := mem_predsOf.1 hk
    exact hp e he hb
theorem yielded_iff2 (l l2 : List Oper) (dl : List (Option Nat)) (hdl : l.map (·.dst) = dl) (ds : List Nat) (f : Nat → Value) (a : Act) (h : ∀ d ∈ ds, d < a.tmps.size) (hds : ∀ d, some d ∈ dl → d ∈ ds) (g : Option (Nat × Bool)) (o : Oper) (hg : o.guard = g)
    (hgl : ∀ j b, g = some (j, b) → j < l.length) :
    Region.wanted o (yielded (l ++ l2).toArray (fills ds f a).tmps) = true ↔ Gd dl f g := by
  rw [← yielded_iff l.toArray dl (by simpa using hdl) ds f a h hds g o hg]
  unfold Region.wanted
  subst hg
  cases hgd : o.guard with
  | none => simp
  | some x =>
    obtain ⟨j, want⟩ := x
    have := hgl j want hgd
    simp only [yielded]
    rw [show (l ++ l2).toArray[j]? = l.toArray[j]? from by simp [List.getElem?_append_left this]]
section
variable {P : Program} {l : List Oper} {dl : List (Option Nat)} {Φ : List Ph} {a : Act} {w : World} {Q : Exit → Act → World → Prop}
theorem lex_tail {l2 : List Oper} (hback : backB (l ++ l2) = true) (hanc : ∀ (listed : Array Bool), Closed (l ++ l2) listed → ∀ (i : Nat) (o : Oper), (l ++ l2)[i]? = some o → l.length ≤ i → (∀ e ∈ o.after, Region.binds .any e = true → listed.getD e.on false = true) → ∀ k, k < i → listed.getD k false = true) :
    ∀ (rest : List Oper) (m : Nat) (listed : Array Bool), l.length ≤ m → (∀ j : Nat, rest[j]? = (l ++ l2)[m + j]?) → m + rest.length = (l ++ l2).length → listed.size = (l ++ l2).length → (∀ i, i < m → listed.getD i false = true) →
      (∀ i, m ≤ i → i < (l ++ l2).length → listed.getD i false = false) →
      ∀ {a : Act} {w : World}, wpList P (l ++ l2).toArray Q rest a w → wpAny P .any (l ++ l2).toArray Q rest.length listed a w
  | [], m, listed, hlm, hos, hml, hs, hlow, hhigh, a, w, h => by
    refine ⟨?_, h⟩
    rw [List.eq_nil_iff_forall_not_mem]
    intro i hi
    obtain ⟨h1, o, ho, _⟩ := mem_ready.1 hi
    have hil : i < (l ++ l2).length := by
      have := (Array.getElem?_eq_some_iff.1 ho).1
      simpa using this
    have h2 := hlow i (by simpa [← hml] using hil)
    rw [Array.getD_eq_getD_getElem?, Array.getElem?_eq_getElem (by omega)] at h1 h2
    simp at h1 h2
    rw [h1] at h2
    cases h2
  | o :: rest, m, listed, hlm, hos, hml, hs, hlow, hhigh, a, w, h => by
    have hm0 : (l ++ l2)[m]? = some o := by have := hos 0; simpa using this.symm
    have hmlt : m < (l ++ l2).length := (List.getElem?_eq_some_iff.1 hm0).1
    have hclo : Closed (l ++ l2) listed := by
      intro i oi hoi hl e he hb
      have hil : i < (l ++ l2).length := (List.getElem?_eq_some_iff.1 hoi).1
      have him : i < m := by
        rcases Nat.lt_or_ge i m with h | h
        · exact h
        · rw [hhigh i h hil] at hl; cases hl
      exact hlow e.on (Nat.lt_trans (back_spec hback i oi hoi e he hb) him)
    have hready : m ∈ Region.ready .any (l ++ l2).toArray listed := by
      rw [mem_ready]
      refine ⟨?_, o, by simpa using hm0, fun e he hb => hlow e.on (back_spec hback m o hm0 e he hb)⟩
      have := hhigh m (Nat.le_refl _) hmlt
      rw [Array.getD_eq_getD_getElem?] at this ⊢
      rw [Array.getElem?_eq_getElem (by omega)] at this ⊢
      exact this
    rw [List.length_cons]
    refine ⟨fun h0 => ?_, fun i hi => ?_⟩
    · rw [h0] at hready; cases hready
    · obtain ⟨hun, oi, hoi, hpre⟩ := mem_ready.1 hi
      have hoi' : (l ++ l2)[i]? = some oi := by simpa using hoi
      have hil : i < (l ++ l2).length := (List.getElem?_eq_some_iff.1 hoi').1
      have him : ¬ i < m := by
        intro h1
        have h2 := hlow i h1
        rw [Array.getD_eq_getD_getElem?, Array.getElem?_eq_getElem (by omega)] at h2 hun
        simp at h2 hun
        rw [hun] at h2
        cases h2
      have hi_eq : i = m := by
        rcases Nat.lt_or_ge m i with h1 | h1
        · have h2 := hanc listed hclo i oi hoi' (by omega) hpre m h1
          rw [hhigh m (Nat.le_refl _) hmlt] at h2
          cases h2
        · omega
      subst hi_eq
      rw [hm0] at hoi'
      injection hoi' with hoi'
      subst hoi'
      have hnext : ∀ a' w', wpList P (l ++ l2).toArray Q rest a' w' → wpAny P .any (l ++ l2).toArray Q rest.length (listed.setIfInBounds i true) a' w' := by
        intro a' w' h'
        refine lex_tail hback hanc rest (i + 1) _ (by omega) (fun j => by have := hos (j + 1); simpa [Nat.add_assoc, Nat.add_comm 1 j] using this) (by simp at hml ⊢; omega) (by simpa using hs) ?_ ?_ h'
        · intro k hk
          by_cases hki : k = i
          · rw [hki, Array.getD_eq_getD_getElem?, Array.getElem?_setIfInBounds_self_of_lt (by omega)]; rfl
          · rw [getD_set_ne false (Ne.symm hki)]; exact hlow k (by omega)
        · intro k h1 h2
          rw [getD_set_ne false (by omega)]; exact hhigh k (by omega) h2
      unfold wpOp
      simp only [hoi]
      unfold wpList at h
      split at h
      · rename_i hw
        rw [if_pos hw]
        rcases h with h | h
        · exact .inl (Oper.wp_mono hnext h)
        · exact .inr h
      · rename_i hw
        rw [if_neg hw]
        exact hnext _ _ h
end
end Go.Proofs.YtcffeepgfjpcaaaGreat

namespace Go.Proofs.YtcffeepgfjpcaaaGreat
set_option linter.unusedSimpArgs false
set_option linter.unusedVariables false
open Go.RowKit

def factO (dl : List (Option Nat)) (Φ : List (Value → Prop)) (f : Nat → Value) (j : Nat) : Prop := (Φ.getD j fun _ => True) (valOf dl f j)
def PreO (dl : List (Option Nat)) (Φ : List (Value → Prop)) (f : Nat → Value) : List Edge → Prop
  | [] => True
  | e :: es => (if Region.binds .any e then factO dl Φ f e.on else True) ∧ PreO dl Φ f es
def PostO (f : Nat → Value) : List (Option Nat) → List (Value → Prop) → Prop
  | [], _ => True
  | _ :: _, [] => True
  | d :: os, ph :: phs => ph (match d with | some d => f d | none => undef) ∧ PostO f os phs
theorem preO_mk {dl : List (Option Nat)} {Φ : List (Value → Prop)} {f : Nat → Value} : ∀ (es : List Edge), (∀ e ∈ es, Region.binds .any e = true → factO dl Φ f e.on) → PreO dl Φ f es
  | [], _ => trivial
  | e :: es, h => by
    refine ⟨?_, preO_mk es fun x hx => h x (List.mem_cons_of_mem _ hx)⟩
    split
    · exact h e (List.mem_cons_self ..) ‹_›
    · trivial
theorem postO_mk {f : Nat → Value} : ∀ (os : List (Option Nat)) (phs : List (Value → Prop)),
    (∀ (i : Nat) (d : Option Nat), os[i]? = some d → (phs.getD i fun _ => True) (match d with | some d => f d | none => undef)) → PostO f os phs
  | [], _, _ => by simp [PostO]
  | _ :: _, [], _ => by simp [PostO]
  | d :: os, ph :: phs, h => ⟨h 0 d rfl, postO_mk os phs fun i d hd => by simpa using h (i + 1) d (by simpa using hd)⟩
section
variable {P : Program} {l : List Oper} {dl : List (Option Nat)} {Φ : List (Value → Prop)} {a : Act} {w : World} {Q : Exit → Act → World → Prop} {s : Nat} {J : Bool → Value → World → Prop}
end
end Go.Proofs.YtcffeepgfjpcaaaGreat

namespace Go.Proofs.YtcffeepgfjpcaaaGreat
set_option linter.unusedSimpArgs false
set_option linter.unusedVariables false
open Go.RowKit

section
variable {P : Program} {l : List Oper} {dl : List (Option Nat)} {Φ : List (Value → Prop)} {a : Act} {w : World} {Q : Exit → Act → World → Prop} {J : (Nat → Bool) → (Nat → Value) → World → Prop}
end

/-! ### one by one -/
section
variable {P : Program} {dl : List (Option Nat)} {Φ : List (Value → Prop)} {ds : List Nat} {a : Act} {w : World} {i : Nat} {J : (Nat → Bool) → (Nat → Value) → World → Prop} {ph : Value → Prop} {o : Oper}
end
end Go.Proofs.YtcffeepgfjpcaaaGreat

namespace Go.Proofs.YtcffeepgfjpcaaaGreat
set_option linter.unusedSimpArgs false
set_option linter.unusedVariables false
open Go.RowKit

end Go.Proofs.YtcffeepgfjpcaaaGreat

namespace Go.Proofs.YtcffeepgfjpcaaaGreat
set_option linter.unusedSimpArgs false
set_option linter.unusedVariables false
open Go.RowKit

theorem fill_whole (n : Nat) (cells : Array Value) (cs : List Value) (hc : cells.size = n) (hn : cs.length = n) : Instr.fill (fun i => some (i * n, n)) cells [(0, .agg cs.toArray)] = some cs.toArray := by
  obtain ⟨g1, g2⟩ := Go.Great.foldl_set (0 * n) cs 0 cells
  unfold Instr.fill
  simp only [Value.cells, List.size_toArray, hn]
  rw [if_neg (by simp; omega)]
  unfold Instr.fill
  congr 1
  apply Array.ext_getElem?
  intro k
  have := g2 k
  have e : (cs.toArray.zipIdx.foldl (fun cs (x : Value × Nat) => cs.setIfInBounds (0 * n + x.2) x.1) cells) = (List.foldl (fun cs (x : Value × Nat) => cs.setIfInBounds (0 * n + x.2) x.1) cells (cs.zipIdx 0)) := by simp
  show (cs.toArray.zipIdx.foldl (fun cs (x : Value × Nat) => cs.setIfInBounds (0 * n + x.2) x.1) cells)[k]? = _
  rw [e, this]
  simp only [Nat.zero_mul, Nat.zero_add, Nat.sub_zero, Nat.zero_le, true_and, List.getElem?_toArray]
  split
  · rfl
  · rw [List.getElem?_eq_none (by omega), Array.getElem?_eq_none (by omega)]
end Go.Proofs.YtcffeepgfjpcaaaGreat

namespace Go.Proofs.YtcffeepgfjpcaaaGreat
set_option linter.unusedSimpArgs false
set_option linter.unusedVariables false
open Go.RowKit

/-- append(s, x...), s the call's own, x any readable row -/
theorem exec_appR {α : Type} {E : TypeId} {C : Cdc α} {w : World} {base : Nat} {O S : Nat → Prop} {v : Value} {xs : List α} {o : Oper} {ρ : Operand → Value} (s x : Operand) (t : TypeId)
    (ho : o.op = .call { callee := .builtin .append, args := #[s, x], argTypes := #[t, t] })
    (ht : Tryz.prog.underlying t = some (.slice E)) {z : Value} {bytes : Nat} (hinfo : (Tryz.prog.info? E).map (fun i => (i.zero, i.size, i.bytes)) = some (some z, C.n, bytes)) (hz2 : z.cells.size = C.n) (hn0 : 0 < C.n) (hb0 : bytes ≤ 256)
    {v2 : Value} {ys : List α} (hown : OwnR E C w base S v xs) (hrd : RowOn C w O S v2 ys) (hs : ρ s = v) (hx : ρ x = v2)
    (hsz : xs.length + ys.length ≤ 549755813888) (hbase : base ≤ w.heap.size) : ∃ v' w', (execOp ρ o).run Tryz.prog w = .ok (.value v') w' ∧ OwnR E C w' base S v' (xs ++ ys) ∧ Ext w w' v v' := by
  obtain ⟨i, hi, hz0, hz1, hby⟩ := info_parts hinfo
  obtain ⟨css, hl, h2, h3, h4⟩ := hown
  have hcl := OwnR.clen hl h3
  obtain ⟨A, c, rfl, hc1, hc2, hcell⟩ := hrd
  -- the cells of the source
  obtain ⟨dss, hdl, hd3, hdr⟩ : ∃ dss : List (List Value), dss.length = ys.length ∧ (∀ (i : Nat) (cs : List Value) (y : α), dss[i]? = some cs → ys[i]? = some y → C.at_ w S cs y) ∧
      ∃ B, Rd w B C.n A ys.length dss.flatten := by
    rcases Nat.eq_zero_or_pos ys.length with h0 | h0
    · have : ys = [] := List.eq_nil_of_length_eq_zero h0
      subst this
      exact ⟨[], rfl, fun i cs y h => by simp at h, 0, by simp [Rd]⟩
    · obtain ⟨ad, rfl, _, hc⟩ := hcell h0
      have hex : ∀ i : Fin ys.length, ∃ cs, C.at_ w S cs (ys[i.1]'i.2) ∧ ∀ (j : Nat) (u : Value), cs[j]? = some u → w.cell? (ad.add (i.1 * C.n + j)) = some u := fun i => hc i.1 _ (List.getElem?_eq_getElem i.2)
      refine ⟨List.ofFn fun i => (hex i).choose, by simp, ?_, ad.block + 1, ?_⟩
      · intro i cs y hcs hy
        obtain ⟨hi', rfl⟩ := List.getElem?_eq_some_iff.1 hy
        rw [List.getElem?_ofFn, dif_pos hi'] at hcs
        injection hcs with hcs
        rw [← hcs]
        exact (hex ⟨i, hi'⟩).choose_spec.1
      · have hcl2 : ∀ cs ∈ (List.ofFn fun i => (hex i).choose), cs.length = C.n := by
          intro cs hcs
          obtain ⟨i, rfl⟩ := List.mem_ofFn.1 hcs
          exact C.len (hex i).choose_spec.1
        refine ⟨by rw [flat_len C.n _ hcl2]; simp, fun _ => ⟨ad, rfl, Nat.lt_succ_self _, fun j u hu => ?_⟩⟩
        have hj : j < ys.length * C.n := by
          have := (List.getElem?_eq_some_iff.1 hu).1
          rw [flat_len C.n _ hcl2] at this
          simpa using this
        have hi' : j / C.n < ys.length := Nat.div_lt_of_lt_mul (by rw [Nat.mul_comm]; exact hj)
        have hj2 : j % C.n < C.n := Nat.mod_lt _ hn0
        have hdm : j / C.n * C.n + j % C.n = j := by rw [Nat.mul_comm]; exact Nat.div_add_mod j C.n
        have := flat_get C.n _ hcl2 (j / C.n) (hex ⟨j / C.n, hi'⟩).choose (j % C.n) (by rw [List.getElem?_ofFn, dif_pos hi']) hj2
        rw [hdm, hu] at this
        have := (hex ⟨j / C.n, hi'⟩).choose_spec.2 (j % C.n) u this.symm
        rwa [hdm] at this
  obtain ⟨B, hrd⟩ := hdr
  have hcl2 := OwnR.clen hdl hd3
  obtain ⟨v', w', hr, g2, g3, g5⟩ := run_append_rd (P := Tryz.prog) w base t o.type E i z C.n bytes ht hi hz0 hz1 hby hz2 hn0 v xs.length css.flatten h2 B A ys.length c dss.flatten hrd (by
      intro u hu
      obtain ⟨cs, hcs, hu⟩ := List.mem_flatten.1 hu
      obtain ⟨i, hi', rfl⟩ := List.mem_iff_getElem.1 hcs
      exact C.one (hd3 i _ (ys[i]'(by omega)) (List.getElem?_eq_getElem hi') (List.getElem?_eq_getElem (by omega))) u hu)
    (by unfold maxLen; omega) (by
      calc (xs.length + ys.length) * bytes ≤ 549755813888 * 256 := Nat.mul_le_mul hsz hb0
        _ ≤ _ := by decide) hbase
  have hSame : ∀ p : Addr, S p.block → w'.cell? p = w.cell? p := fun p hp => World.cell?_of_block (g3.block p.block (h4 _ hp).1 (fun e => (h4 _ hp).2 e.symm))
  refine ⟨v', w', ?_, ⟨css ++ dss, by simp [hl, hdl], by rw [List.length_append, List.flatten_append]; exact g2, ?_, ?_⟩, ⟨g3, ?_⟩⟩
  · unfold execOp
    simp only [ho, resolve, invoke, builtin, Sem.run_bind, Sem.run_pure, Result.andThen_ok, List.map_toArray, List.map_cons, List.map_nil, hs, hx, hr]
  · intro j cs x hc hx'
    refine C.keep ?_ hSame
    rcases Nat.lt_or_ge j xs.length with hj | hj
    · rw [List.getElem?_append_left (by omega)] at hc
      rw [List.getElem?_append_left hj] at hx'
      exact h3 j cs x hc hx'
    · rw [List.getElem?_append_right (by omega)] at hc
      rw [List.getElem?_append_right hj, ← hl] at hx'
      exact hd3 _ cs x hc hx'
  · intro k hk
    refine ⟨Nat.lt_of_lt_of_le (h4 k hk).1 g3.size, ?_⟩
    rcases g5 with g5 | g5
    · rw [g5]; exact (h4 k hk).2
    · rw [g5]; intro e; injection e with e; have := (h4 k hk).1; omega
  · rcases g5 with g5 | g5
    · exact .inl g5
    · exact .inr fun k hk => by rw [g5] at hk; injection hk with hk; omega

/-- append(s, y), one thing -/
theorem exec_app1R {α : Type} {E : TypeId} {C : Cdc α} {S : Nat → Prop} {o : Oper} {ρ : Operand → Value} {w : World} (s x : Operand) (t : TypeId)
    (ho : o.op = .call { callee := .builtin .append, args := #[s, x], argTypes := #[t, t] })
    (ht : Tryz.prog.underlying t = some (.slice E)) {z : Value} {bytes : Nat} (hinfo : (Tryz.prog.info? E).map (fun i => (i.zero, i.size, i.bytes)) = some (some z, C.n, bytes)) (hz2 : z.cells.size = C.n) (hn0 : 0 < C.n) (hb0 : bytes ≤ 256)
    {base : Nat} {v : Value} {xs : List α} {y : α} (cs : List Value) (hown : OwnR E C w base S v xs) (hy : C.at_ w S cs y) (hs : ρ s = v) (hx : ρ x = .slice (some ⟨w.heap.size, 0, none⟩) 1 1)
    (hsz : xs.length ≤ 549755813887) (hbase : base ≤ w.heap.size) : ∃ v' w', (execOp ρ o).run Tryz.prog (w.alloc (.cells cs.toArray E)) = .ok (.value v') w' ∧ OwnR E C w' base S v' (xs ++ [y]) ∧ Ext w w' v v' := by
  have hS : ∀ k, S k → k < w.heap.size := by obtain ⟨_, _, _, _, h4⟩ := hown; exact fun k hk => (h4 k hk).1
  have hrow : RowOn C (w.alloc (.cells cs.toArray E)) (fun k => k < w.heap.size + 1) S (.slice (some ⟨w.heap.size, 0, none⟩) 1 1) [y] := by
    refine ⟨_, 1, rfl, Nat.le_refl _, by simp [maxLen], fun _ => ⟨_, rfl, Nat.lt_succ_self _, fun i y' hi => ?_⟩⟩
    match i, hi with
    | 0, hi =>
      injection hi with hi
      subst hi
      refine ⟨cs, C.keep hy fun p hp => World.cell?_alloc_lt w _ p (hS _ hp), fun j u hu => ?_⟩
      rw [Nat.zero_mul, Nat.zero_add]
      exact World.news_of_block (heap_alloc_new w _) j u (by simpa using hu)
    | i + 1, hi => simp at hi
  obtain ⟨v', w', hr, h1, h2⟩ := exec_appR s x t ho ht hinfo hz2 hn0 hb0 (hown.alloc _) hrow hs hx (by simp; omega) (by simp; omega)
  exact ⟨v', w', hr, h1, h2.after (balloc w _) v rfl⟩
end Go.Proofs.YtcffeepgfjpcaaaGreat

namespace Go.Proofs.YtcffeepgfjpcaaaGreat
set_option linter.unusedSimpArgs false
set_option linter.unusedVariables false
open Go.RowKit

/-- bytes that lie outside S -/
abbrev BX (w : World) (S : Nat → Prop) (v : Value) (l : List UInt8) : Prop := RowOn c8 w (fun k => k < w.heap.size ∧ ¬ S k) (fun _ => True) v l
theorem BX.chg {w w' : World} {S : Nat → Prop} {v : Value} {l : List UInt8} (h : BX w S v l) (hc : Chg S w w') : BX w' S v l := by
  obtain ⟨A, c, h1, h2, h3, h4⟩ := h
  refine ⟨A, c, h1, h2, h3, fun hn => ?_⟩
  obtain ⟨ad, e, hb, hcc⟩ := h4 hn
  refine ⟨ad, e, ⟨Nat.lt_of_lt_of_le hb.1 hc.size, hb.2⟩, fun i x hx => ?_⟩
  obtain ⟨cs, ha, hcs⟩ := hcc i x hx
  exact ⟨cs, ha, fun j u hu => (World.cell?_of_block (hc.block _ (by rw [add_block]; exact hb.1) (by rw [add_block]; exact hb.2))).trans (hcs j u hu)⟩
theorem BX.grown {w w' : World} {S : Nat → Prop} {v : Value} {l : List UInt8} {row : Option Nat} (h : BX w S v l) (hg : w.grownBy w' row) (hr : ∀ k, row = some k → w.heap.size ≤ k ∨ S k) : BX w' S v l :=
  h.chg ⟨hg.os, hg.tape, hg.output, hg.size, fun k hk hn => hg.block k hk fun e => by rcases hr k e.symm with h | h; omega; exact hn h⟩
theorem BX.form {w : World} {S : Nat → Prop} {v : Value} {l : List UInt8} (h : BX w S v l) : ∃ A c, v = .slice A l.length c ∧ l.length ≤ c ∧ c ≤ maxLen := RowOn.form h

end Go.Proofs.YtcffeepgfjpcaaaGreat

namespace Go.Proofs.YtcffeepgfjpcaaaGreat
set_option linter.unusedSimpArgs false
set_option linter.unusedVariables false
open Go.RowKit

theorem wpList_alloc_z {ops : Array Oper} {rest : List Oper} {o : Oper} {a : Act} {w : World} {Q : Exit → Act → World → Prop} (hgd : o.guard = none) (T : TypeId) (ho : o.op = .alloc T) {z : Value} {n bytes : Nat}
    (hinfo : (Tryz.prog.info? T).map (fun i => (i.zero, i.size, i.bytes)) = some (some z, n, bytes)) (cs : List Value) (hz : z.cells = cs.toArray)
    (h : wpList Tryz.prog ops Q rest (a.put o.dst (.pointer (some ⟨w.heap.size, 0, none⟩))) (w.alloc (.cells cs.toArray T))) : wpList Tryz.prog ops Q (o :: rest) a w :=
  wpList_plain hgd fun K hK => by
    obtain ⟨i, hi, hz0, hz1, hby⟩ := info_parts hinfo
    have hr : (Instr.alloc T true (.tuple #[])).run Tryz.prog w = .ok (.pointer (some ⟨w.heap.size, 0, none⟩)) (w.alloc (.cells cs.toArray T)) := by
      simp [Instr.alloc, Sem.run_bind, zeroValue, typeInfo, hi, hz0, newVar, newRow, hz]
    unfold Oper.wp execOp
    simp only [ho, Sem.run_bind, hr, Result.andThen_ok]
    exact hK _ _ h
theorem wpList_store_new {ops : Array Oper} {rest : List Oper} {o : Oper} {a : Act} {w : World} {Q : Exit → Act → World → Prop} (hgd : o.guard = none) (T : TypeId) (x y : Operand) (ho : o.op = .store T x y)
    (cs ds : List Value) (hx : a.eval x = .pointer (some ⟨w.heap.size, 0, none⟩)) (hy : a.eval y = .agg ds.toArray) (hi : (Tryz.prog.info? T).map (·.size) = some ds.length) (hl : cs.length = ds.length) (h1 : ∀ u ∈ ds, u.oneCell' = true)
    (h : wpList Tryz.prog ops Q rest (a.put o.dst undef) (w.alloc (.cells ds.toArray T))) : wpList Tryz.prog ops Q (o :: rest) a (w.alloc (.cells cs.toArray T)) :=
  wpList_plain hgd fun K hK => by
    unfold Oper.wp execOp
    simp only [ho, hx, hy, Instr.storeAt, Instr.sureAddr, Sem.run_bind, Sem.run_pure, Result.andThen_ok, run_storeVar_new w T cs.toArray ds.toArray (by simpa using hi) (by simpa using hl) (all_oneCell_toArray h1)]
    exact hK _ _ h
end Go.Proofs.YtcffeepgfjpcaaaGreat

namespace Go.Proofs.YtcffeepgfjpcaaaGreat
set_option linter.unusedSimpArgs false
set_option linter.unusedVariables false
open Go.RowKit

theorem chg_setRowX (w : World) (g : Nat) (cs : Array Value) : Chg (fun k => k = g) w (w.setRow g cs) := Chg.ofGrown (gsetRow' w g cs) fun k e => (Option.some.inj e).symm
theorem wpList_store_boxX {ops : Array Oper} {rest : List Oper} {o : Oper} {a : Act} {w : World} {Q : Exit → Act → World → Prop} (hgd : o.guard = none) (T T' : TypeId) (x y : Operand) (ho : o.op = .store T x y)
    (g : Nat) (cs ds : List Value) (hx : a.eval x = .pointer (some ⟨g, 0, none⟩)) (hy : a.eval y = .agg ds.toArray) (hs : BoxAt T' w g cs) (hl : ds.length = cs.length) (h1 : ∀ u ∈ ds, u.oneCell' = true)
    (hi : (Tryz.prog.info? T).map (·.size) = some ds.length)
    (h : ∀ w', BoxAt T' w' g ds → Chg (fun k => k = g) w w' → w'.heap.size = w.heap.size → wpList Tryz.prog ops Q rest (a.put o.dst undef) w') : wpList Tryz.prog ops Q (o :: rest) a w :=
  wpList_store_box hgd T T' x y ho g cs ds hx hy hs hl h1 hi fun hb => h (w.setRow g ds.toArray) hb (chg_setRowX w g ds.toArray) (by simp)
theorem wpList_store_newX {ops : Array Oper} {rest : List Oper} {o : Oper} {a : Act} {w : World} {Q : Exit → Act → World → Prop} (hgd : o.guard = none) (T : TypeId) (x y : Operand) (ho : o.op = .store T x y)
    (cs ds : List Value) (hx : a.eval x = .pointer (some ⟨w.heap.size, 0, none⟩)) (hy : a.eval y = .agg ds.toArray) (hi : (Tryz.prog.info? T).map (·.size) = some ds.length) (hl : cs.length = ds.length) (h1 : ∀ u ∈ ds, u.oneCell' = true)
    (h : ∀ w', BoxAt T w' w.heap.size ds → Below w.heap.size w w' → w'.heap.size = w.heap.size + 1 → wpList Tryz.prog ops Q rest (a.put o.dst undef) w') : wpList Tryz.prog ops Q (o :: rest) a (w.alloc (.cells cs.toArray T)) :=
  wpList_store_new hgd T x y ho cs ds hx hy hi hl h1 (h _ (BoxAt.new_ _ _ _) (balloc _ _) (by simp))
theorem results_ctX {fn : Func} {p q : Tmp} {T : TypeId} (h : fn.results = #[.cell p T, .tmp q]) (tmps : Array Value) (w : World) (g : Nat) (cs : List Value)
    (hp : tmps.getD p undef = .pointer (some ⟨g, 0, none⟩)) (hs : ∀ (j : Nat) (v : Value), cs[j]? = some v → w.cell? ((⟨g, 0, none⟩ : Addr).add j) = some v) {d : TypeDesc} (hu : Tryz.prog.underlying T = some d)
    (hd : (match d with | .struct _ | .array _ _ => true | _ => false) = true) (hi : (Tryz.prog.info? T).map (·.size) = some cs.length) :
    (results fn tmps).run Tryz.prog w = .ok (.tuple #[.agg cs.toArray, tmps.getD q undef]) w := by
  have hp' : tmps[p]?.getD undef = .pointer (some ⟨g, 0, none⟩) := by simpa using hp
  have hr := run_loadVar_cells w ⟨g, 0, none⟩ T cs hs hu hd hi
  simp [results, h, hp', asAddr, hr]
end Go.Proofs.YtcffeepgfjpcaaaGreat

namespace Go.Proofs.YtcffeepgfjpcaaaGreat
set_option linter.unusedSimpArgs false
set_option linter.unusedVariables false
open Go.RowKit

/-- how one operation may run -/
def mildS (P : Program) (d : Option Nat) (ph : Value → Prop) (i : Nat) (J : (Nat → Bool) → (Nat → Value) → World → Prop) (b : Nat → Bool) (vs : Nat → Value) : Result Next → Prop
  | .ok (.value u) w'' => ph (dstVal d u) ∧ J (fun s => if s = i then true else b s) (fun s => if s = i then dstVal d u else vs s) w''
  | .ok .skip w'' => d = none ∧ ph undef ∧ J (fun s => if s = i then true else b s) (fun s => if s = i then undef else vs s) w''
  | .ok (.enter f args) w'' => Calls P f args w'' (fun e w3 => ∃ v, e = .returned v ∧ ph (dstVal d v) ∧ J (fun s => if s = i then true else b s) (fun s => if s = i then dstVal d v else vs s) w3)
  | _ => False
def ObS (P : Program) (dl : List (Option Nat)) (Φ : List (Value → Prop)) (ds : List Nat) (a : Act) (J : (Nat → Bool) → (Nat → Value) → World → Prop) (i : Nat) (ph : Value → Prop) (o : Oper) : Prop :=
  ∀ f b w', J b (valOf dl f) w' → b i = false → (∀ e ∈ o.after.toList, Region.binds .any e = true → b e.on = true) → PreO dl Φ f o.after.toList →
    (Gd dl f o.guard → mildS P o.dst ph i J b (valOf dl f) ((execOp (evalF ds f a) o).run P w')) ∧
    (¬ Gd dl f o.guard → ph undef ∧ J (fun s => if s = i then true else b s) (fun s => if s = i then undef else valOf dl f s) w')

section
variable {P : Program} {l : List Oper} {dl : List (Option Nat)} {Φ : List (Value → Prop)} {a : Act} {w : World} {Q : Exit → Act → World → Prop} {J : (Nat → Bool) → (Nat → Value) → World → Prop}
theorem mixS_aux {l2 : List Oper} (hdl : l.map (·.dst) = dl) (hn : typedB l a.tmps.size = true) (ht : tailB l l2 = true) (hob : ∀ (i : Nat) (o : Oper), l[i]? = some o → ObS P dl Φ (dstsOf_ l) a J i (Φ.getD i fun _ => True) o)
    (hQ : ∀ f b w', (∀ i, i < l.length → b i = true) → J b (valOf dl f) w' → PostO f dl Φ → wpList P (l ++ l2).toArray Q l2 (fills (dstsOf_ l) f a) w') :
    ∀ (fuel : Nat) (listed : Array Bool) (rem : List Nat), rem.length = fuel → listed.size = (l ++ l2).length → rem.Nodup → (∀ i, i ∈ rem ↔ i < l.length ∧ listed.getD i true = false) →
      (∀ i, l.length ≤ i → i < (l ++ l2).length → listed.getD i false = false) → Closed (l ++ l2) listed →
      ∀ f w', J (fun s => listed.getD s false) (valOf dl f) w' → (∀ i, i < l.length → listed.getD i false = true → factO dl Φ f i) →
      wpAny P .any (l ++ l2).toArray Q (fuel + l2.length) listed (fills (dstsOf_ l) f a) w' := by
  simp only [typedB, Bool.and_eq_true] at hn
  obtain ⟨⟨⟨hnd, hlt⟩, hed⟩, _⟩ := hn
  have hdlg : ∀ i : Nat, dl[i]? = (l[i]?).map (fun (o : Oper) => o.dst) := fun i => by rw [← hdl]; simp
  have hnd := of_decide_eq_true hnd
  have hlt : ∀ d ∈ dstsOf_ l, d < a.tmps.size := fun d hd => of_decide_eq_true (List.all_eq_true.1 hlt d hd)
  have hed : ∀ (i : Nat) (o : Oper), l[i]? = some o → ∀ e ∈ o.after, Region.binds .any e = true → e.on < i := by
    intro i o ho e he hb
    have h1 := List.all_eq_true.1 hed (o, i) (by
      rw [List.mem_zipIdx_iff_getElem?]; exact ho)
    have h2 := (Array.all_eq_true_iff_forall_mem.1 h1) e he
    simpa [hb] using h2
  have hanc := tail_anc ht
  have hback : backB (l ++ l2) = true := by simp only [tailB, Bool.and_eq_true] at ht; exact ht.1.1
  have hguard : guardB l = true := by simp only [tailB, Bool.and_eq_true] at ht; exact ht.1.2
  intro fuel
  induction fuel with
  | zero =>
    intro listed rem hrem hs hnr hmem hhi hcl f w' hb hf
    have hr0 : rem = [] := List.eq_nil_of_length_eq_zero hrem
    have hal : ∀ i, i < l.length → listed.getD i false = true := by
      intro i hi
      rcases hc : listed.getD i false with _ | _
      · exfalso
        have : i ∈ rem := (hmem i).2 ⟨hi, by
          rw [Array.getD_eq_getD_getElem?] at hc ⊢
          rw [Array.getElem?_eq_getElem (by rw [hs, List.length_append]; omega)] at hc ⊢
          exact hc⟩
        rw [hr0] at this
        cases this
      · rfl
    rw [Nat.zero_add]
    refine lex_tail (l := l) hback hanc l2 l.length listed (Nat.le_refl _) (fun j => by rw [List.getElem?_append_right (by omega)]; congr 1; omega) (by simp) hs hal hhi ?_
    refine hQ f _ w' hal hb (postO_mk dl Φ fun i d hd => ?_)
    have hi : i < l.length := by
      have := (List.getElem?_eq_some_iff.1 hd).1
      rw [← hdl] at this
      simpa using this
    have := hf i hi (hal i hi)
    unfold factO valOf at this
    rw [hd] at this
    cases d <;> exact this
  | succ fuel ih =>
    intro listed rem hrem hs hnr hmem hhi hcl f w' hb hf
    rw [show fuel + 1 + l2.length = (fuel + l2.length) + 1 by omega]
    refine ⟨fun h => ?_, fun i hi => ?_⟩
    · exfalso
      -- the least one that has not come up may come up
      have hno : ∀ i, i < l.length → listed.getD i false = true := by
        intro i
        induction i using Nat.strongRecOn with
        | _ i ih =>
          intro hi
          rcases hc : listed.getD i false with _ | _
          · exfalso
            have hm : i ∈ Region.ready .any (l ++ l2).toArray listed := by
              rw [mem_ready]
              refine ⟨?_, l[i], by simp [List.getElem?_append_left hi, hi], fun e he hb => ?_⟩
              · rw [Array.getD_eq_getD_getElem?] at hc ⊢
                rw [Array.getElem?_eq_getElem (by rw [hs, List.length_append]; omega)] at hc ⊢
                exact hc
              · have := hed i l[i] (by simp [hi]) e he hb
                exact ih e.on this (by omega)
            rw [h] at hm
            cases hm
          · rfl
      obtain ⟨k, hk⟩ : ∃ k, k ∈ rem := by
        cases rem with
        | nil => simp at hrem
        | cons x _ => exact ⟨x, List.mem_cons_self ..⟩
      obtain ⟨hk1, hk2⟩ := (hmem k).1 hk
      have h1 := hno k hk1
      rw [Array.getD_eq_getD_getElem?, Array.getElem?_eq_getElem (by rw [hs, List.length_append]; omega)] at h1 hk2
      simp at h1 hk2
      rw [h1] at hk2
      cases hk2
    obtain ⟨hun, o, ho, hpre⟩ := mem_ready.1 hi
    have hil : i < l.length := by
      rcases Nat.lt_or_ge i l.length with h | h
      · exact h
      · exfalso
        have hall := hanc listed hcl i o (by simpa using ho) h hpre
        obtain ⟨k, hk⟩ : ∃ k, k ∈ rem := by
          cases rem with
          | nil => simp at hrem
          | cons x _ => exact ⟨x, List.mem_cons_self ..⟩
        obtain ⟨hk1, hk2⟩ := (hmem k).1 hk
        have h1 := hall k (by omega)
        rw [Array.getD_eq_getD_getElem?, Array.getElem?_eq_getElem (by rw [hs, List.length_append]; omega)] at h1 hk2
        simp at h1 hk2
        rw [h1] at hk2
        cases hk2
    have hol : l[i]? = some o := by
      have h1 : (l ++ l2)[i]? = some o := by simpa using ho
      rwa [List.getElem?_append_left hil] at h1
    have hcl2 : Closed (l ++ l2) (listed.setIfInBounds i true) := by
      intro k ok hok hlk e he hbd
      by_cases hki : k = i
      · subst hki
        have h1 : (l ++ l2)[k]? = some o := by simpa using ho
        rw [h1] at hok
        injection hok with hok
        subst hok
        have h2 := hpre e he hbd
        by_cases hei : e.on = k
        · rw [hei] at h2 ⊢; rw [Array.getD_eq_getD_getElem?, Array.getElem?_setIfInBounds_self_of_lt (by rw [hs, List.length_append]; omega)]; rfl
        · rw [getD_set_ne false (Ne.symm hei)]; exact h2
      · rw [getD_set_ne false (Ne.symm hki)] at hlk
        have h2 := hcl k ok hok hlk e he hbd
        by_cases hei : e.on = i
        · rw [hei, Array.getD_eq_getD_getElem?, Array.getElem?_setIfInBounds_self_of_lt (by rw [hs, List.length_append]; omega)]; rfl
        · rw [getD_set_ne false (Ne.symm hei)]; exact h2
    have hhi2 : ∀ k, l.length ≤ k → k < (l ++ l2).length → (listed.setIfInBounds i true).getD k false = false := by
      intro k h1 h2
      rw [getD_set_ne false (by omega)]
      exact hhi k h1 h2
    have hp : PreO dl Φ f o.after.toList := preO_mk _ fun e he hbd => by
      have he' : e ∈ o.after := by simpa using he
      have hlist := hpre e he' hbd
      exact hf e.on (Nat.lt_trans (hed i o hol e he' hbd) hil) hlist
    have huf : listed.getD i false = false := by
      rw [Array.getD_eq_getD_getElem?] at hun ⊢
      rw [Array.getElem?_eq_getElem (by rw [hs, List.length_append]; omega)] at hun ⊢
      exact hun
    have hone := hob i o hol f (fun s => listed.getD s false) w' hb huf (fun e he hbd => hpre e (by simpa using he) hbd) hp
    have hbs : (fun s => (listed.setIfInBounds i true).getD s false) = fun s => if s = i then true else listed.getD s false := by
      funext s
      by_cases hsi : s = i
      · subst hsi; rw [if_pos rfl, Array.getD_eq_getD_getElem?, Array.getElem?_setIfInBounds_self_of_lt (by rw [hs, List.length_append]; omega)]; rfl
      · rw [if_neg hsi, getD_set_ne false (fun e => hsi e.symm)]
    have hgd := yielded_iff2 l l2 dl hdl (dstsOf_ l) f a hlt (fun d hd => by
      rw [← hdl] at hd
      obtain ⟨oo, h1, h2⟩ := List.mem_map.1 hd
      exact List.mem_filterMap.2 ⟨oo, h1, h2⟩) o.guard o rfl (fun j b hg => guard_spec hguard hol j b hg)
    have hval : ∀ (d : Nat), o.dst = some d → ∀ v k, k ≠ i → valOf dl (fun t => if t = d then v else f t) k = valOf dl f k := by
      intro d hd v k hki
      unfold valOf
      rw [hdlg]
      cases hok : l[k]? with
      | none => rfl
      | some ok =>
        cases hdk : ok.dst with
        | none => simp [hdk]
        | some dk =>
          simp only [Option.map_some, hdk]
          rw [if_neg]
          intro e
          subst e
          have h3 : (dstsOf_ l).Nodup := hnd
          have : ∀ (m : List Oper) (x y : Nat) (ox oy : Oper), (m.filterMap (·.dst)).Nodup → m[x]? = some ox → m[y]? = some oy → ox.dst = some dk → oy.dst = some dk → x = y := by
            intro m
            induction m with
            | nil => intro x y ox oy _ hx; simp at hx
            | cons q m ihm =>
              intro x y ox oy hnd hx hy hdx hdy
              cases x with
              | zero =>
                cases y with
                | zero => rfl
                | succ y =>
                  exfalso
                  simp at hx hy
                  subst hx
                  simp only [List.filterMap_cons, hdx] at hnd
                  exact (List.nodup_cons.1 hnd).1 (List.mem_filterMap.2 ⟨oy, List.mem_of_getElem? hy, hdy⟩)
              | succ x =>
                cases y with
                | zero =>
                  exfalso
                  simp at hx hy
                  subst hy
                  simp only [List.filterMap_cons, hdy] at hnd
                  exact (List.nodup_cons.1 hnd).1 (List.mem_filterMap.2 ⟨ox, List.mem_of_getElem? hx, hdx⟩)
                | succ y =>
                  simp at hx hy
                  have : (m.filterMap (·.dst)).Nodup := by
                    simp only [List.filterMap_cons] at hnd
                    cases hq : q.dst with
                    | none => simpa [hq] using hnd
                    | some _ => simp only [hq] at hnd; exact (List.nodup_cons.1 hnd).2
                  rw [ihm x y ox oy this hx hy hdx hdy]
          exact hki (this l k i ok o h3 hok hol hdk hd)
    -- what follows once the value is there
    have hnext : ∀ v w'', J (fun s => if s = i then true else listed.getD s false) (fun s => if s = i then dstVal o.dst v else valOf dl f s) w'' → (Φ.getD i fun _ => True) (dstVal o.dst v) →
        wpAny P .any (l ++ l2).toArray Q (fuel + l2.length) (listed.setIfInBounds i true) ((fills (dstsOf_ l) f a).put o.dst v) w'' := by
      intro v w'' hb' hv
      have hrem' : (rem.erase i).length = fuel := by
        have : i ∈ rem := (hmem i).2 ⟨hil, hun⟩
        rw [List.length_erase_of_mem this]; omega
      have hmem' : ∀ k, k ∈ rem.erase i ↔ k < l.length ∧ (listed.setIfInBounds i true).getD k true = false := by
        intro k
        rw [hnr.mem_erase_iff, hmem]
        by_cases hk : k = i
        · subst hk
          simp only [ne_eq, not_true, false_and, false_iff, not_and]
          intro hk
          rw [Array.getD_eq_getD_getElem?, Array.getElem?_setIfInBounds_self_of_lt (by rw [hs, List.length_append]; omega)]
          simp
        · rw [getD_set_ne true (Ne.symm hk)]
          simp [hk]
      have hst : ∀ k, k < l.length → k ≠ i → (listed.setIfInBounds i true).getD k false = true → listed.getD k false = true := by
        intro k _ hk h
        rw [getD_set_ne false (Ne.symm hk)] at h
        exact h
      cases hd : o.dst with
      | none =>
        show wpAny P .any (l ++ l2).toArray Q (fuel + l2.length) _ (fills (dstsOf_ l) f a) w''
        refine ih _ (rem.erase i) hrem' (by simpa using hs) (hnr.erase i) hmem' hhi2 hcl2 f w'' ?_ fun k hk hl => ?_
        · have e : (fun s => if s = i then dstVal o.dst v else valOf dl f s) = valOf dl f := by
            funext s
            by_cases hsi : s = i
            · rw [if_pos hsi]
              subst hsi
              unfold valOf
              rw [hdlg, hol]
              simp only [Option.map_some, hd]
              rfl
            · rw [if_neg hsi]
          rw [e] at hb'
          rw [hbs]; exact hb'
        · by_cases hki : k = i
          · subst hki
            unfold factO valOf
            rw [hdlg, hol]
            simp only [Option.map_some, hd]
            simpa [hd] using hv
          · exact hf k hk (hst k hk hki hl)
      | some d =>
        have hdm : d ∈ dstsOf_ l := List.mem_filterMap.2 ⟨o, List.mem_of_getElem? hol, hd⟩
        rw [fills_put _ _ _ _ _ hdm]
        refine ih _ (rem.erase i) hrem' (by simpa using hs) (hnr.erase i) hmem' hhi2 hcl2 _ w'' ?_ fun k hk hl => ?_
        · have e : (fun s => if s = i then dstVal o.dst v else valOf dl f s) = valOf dl (fun t => if t = d then v else f t) := by
            funext s
            by_cases hsi : s = i
            · rw [if_pos hsi]
              subst hsi
              unfold valOf
              rw [hdlg, hol]
              simp only [Option.map_some, hd]
              simp
            · rw [if_neg hsi, hval d hd v s hsi]
          rw [e] at hb'
          rw [hbs]; exact hb'
        · by_cases hki : k = i
          · subst hki
            unfold factO valOf
            rw [hdlg, hol]
            simp only [Option.map_some, hd]
            simpa [hd] using hv
          · have h0 := hf k hk (hst k hk hki hl)
            unfold factO at h0 ⊢
            rw [hval d hd v k hki]
            exact h0
    unfold wpOp
    simp only [ho]
    by_cases hw : Region.wanted o (yielded (l ++ l2).toArray (fills (dstsOf_ l) f a).tmps) = true
    · replace hone := hone.1 (hgd.1 hw)
      simp only [hw, if_true]
      left
      unfold Oper.wp
      rw [evalF_fills f hlt]
      generalize (execOp (evalF (dstsOf_ l) f a) o).run P w' = r at *
      cases r with
      | ok n w'' =>
        cases n <;> simp only [mildS] at hone <;> simp only [Oper.upon]
        case value u => exact hnext u _ hone.2 hone.1
        case skip =>
          obtain ⟨hd0, h1, h2⟩ := hone
          have h3 := hnext undef w'' (by rw [hd0]; exact h2) (by rw [hd0]; exact h1)
          exact h3
        case enter f' args =>
          refine hone.mono ?_
          rintro e w3 ⟨v, rfl, hv, hj⟩
          exact hnext v w3 hj hv
      | halt x w'' => simp only [mildS] at hone
    · replace hone := hone.2 (fun h => hw (hgd.2 h))
      simp only [hw]
      refine hnext undef w' ?_ ?_
      · have := hone.2
        cases hd : o.dst <;> exact this
      · cases o.dst <;> exact hone.1

/-- THE LAW: n operations, of which some change the world, then the end. -/
theorem wp_region_mixSI {id : Nat} {L : List Oper} {ds : List Nat} (n : Nat) (J : (Nat → Bool) → (Nat → Value) → World → Prop) (dl : List (Option Nat)) (Φ : List (Value → Prop)) (hdl : (L.take n).map (·.dst) = dl) (hds : dstsOf_ (L.take n) = ds) (hm : P.follows .mixedOrders = true)
    (hn : typedB (L.take n) a.tmps.size = true) (ht : tailB (L.take n) (L.drop n) = true) (hob : ∀ (i : Nat) (o : Oper), (L.take n)[i]? = some o → ObS P dl Φ ds a J i (Φ.getD i fun _ => True) o) (h0 : J (fun _ => false) (valOf dl fun t => a.tmps.getD t undef) w.drew)
    (hQ : ∀ f b w', (∀ i, i < (L.take n).length → b i = true) → J b (valOf dl f) w' → PostO f dl Φ → wpList P L.toArray Q (L.drop n) (fills ds f a) w') : (Code.region id L.toArray true).wp P Q a w := by
  subst hds
  refine wp_region_any hm ?_
  have hL : L.take n ++ L.drop n = L := List.take_append_drop n L
  have hf0 : (fun s => (Array.replicate L.length false).getD s false) = fun _ => false := by
    funext s
    rw [Array.getD_eq_getD_getElem?, Array.getElem?_replicate]; split <;> rfl
  have := mixS_aux (l2 := L.drop n) hdl hn ht hob (by rw [hL]; exact hQ) (L.take n).length (Array.replicate L.length false) (List.range (L.take n).length) (by simp) (by rw [hL]; simp) List.nodup_range (by
    intro i
    simp only [List.mem_range, Array.getD_eq_getD_getElem?]
    constructor
    · intro h; exact ⟨h, by
        have : i < L.length := by rw [List.length_take] at h; omega
        simp [this]⟩
    · exact fun h => h.1) (by
    intro i _ hi
    rw [hL] at hi
    simp [Array.getD_eq_getD_getElem?, hi]) (by
    intro i o _ hl
    exfalso
    simp [Array.getD_eq_getD_getElem?, Array.getElem?_replicate] at hl
    split at hl <;> simp at hl) (fun t => a.tmps.getD t undef) { w with drawn := w.drawn + 1 } (by rw [hf0]; exact h0) (by
    intro i hi h
    exfalso
    simp [Array.getD_eq_getD_getElem?, Array.getElem?_replicate] at h
    split at h <;> simp at h)
  rw [fills_self, hL] at this
  have hlen : (L.take n).length + (L.drop n).length = L.toArray.size := by rw [← List.length_append, hL]; simp
  rw [hlen] at this
  exact this
theorem wp_region_mixS {id : Nat} {L : List Oper} {ds : List Nat} (n : Nat) (J : (Nat → Bool) → (Nat → Value) → World → Prop) (dl : List (Option Nat)) (Φ : List (Value → Prop)) (hdl : (L.take n).map (·.dst) = dl) (hds : dstsOf_ (L.take n) = ds) (hm : P.follows .mixedOrders = true)
    (hn : typedB (L.take n) a.tmps.size = true) (ht : tailB (L.take n) (L.drop n) = true) (hob : ∀ (i : Nat) (o : Oper), (L.take n)[i]? = some o → ObS P dl Φ ds a J i (Φ.getD i fun _ => True) o) (h0 : ∀ v, J (fun _ => false) v w.drew)
    (hQ : ∀ f b w', (∀ i, i < (L.take n).length → b i = true) → J b (valOf dl f) w' → PostO f dl Φ → wpList P L.toArray Q (L.drop n) (fills ds f a) w') : (Code.region id L.toArray true).wp P Q a w := 
  wp_region_mixSI n J dl Φ hdl hds hm hn ht hob (h0 _) hQ
end

/-! ### one by one -/
def ObSAll (P : Program) (dl : List (Option Nat)) (Φ : List (Value → Prop)) (ds : List Nat) (a : Act) (J : (Nat → Bool) → (Nat → Value) → World → Prop) : Nat → List Oper → List (Value → Prop) → Prop
  | _, [], _ => True
  | _, _ :: _, [] => False
  | i, o :: os, ph :: phs => ObS P dl Φ ds a J i ph o ∧ ObSAll P dl Φ ds a J (i + 1) os phs
theorem obSAll_get {P : Program} {dl : List (Option Nat)} {Φ : List (Value → Prop)} {ds : List Nat} {a : Act} {J : (Nat → Bool) → (Nat → Value) → World → Prop} : ∀ (os : List Oper) (phs : List (Value → Prop)) (k : Nat), ObSAll P dl Φ ds a J k os phs →
    ∀ (i : Nat) (o : Oper), os[i]? = some o → ObS P dl Φ ds a J (k + i) (phs.getD i fun _ => True) o
  | [], _, _, _ => fun i o h => by simp at h
  | _ :: _, [], _, h => h.elim
  | x :: os, ph :: phs, k, h => fun i o ho => by
    cases i with
    | zero => obtain rfl : x = o := by simpa using ho
              exact h.1
    | succ i =>
      have := obSAll_get os phs (k + 1) h.2 i o (by simpa using ho)
      rw [show k + (i + 1) = k + 1 + i by omega]
      simpa using this
section
variable {P : Program} {dl : List (Option Nat)} {Φ : List (Value → Prop)} {ds : List Nat} {a : Act} {w : World} {i : Nat} {J : (Nat → Bool) → (Nat → Value) → World → Prop} {ph : Value → Prop} {o : Oper}
theorem obS_yes (h : ∀ f b w', J b (valOf dl f) w' → b i = false → (∀ e ∈ o.after.toList, Region.binds .any e = true → b e.on = true) → PreO dl Φ f o.after.toList → Gd dl f o.guard ∧ mildS P o.dst ph i J b (valOf dl f) ((execOp (evalF ds f a) o).run P w')) : ObS P dl Φ ds a J i ph o := by
  intro f b w' h1 h2 h3 h4
  have := h f b w' h1 h2 h3 h4
  exact ⟨fun _ => this.2, fun hn => absurd this.1 hn⟩
theorem mildS_val {d : Option Nat} {q : Value → Prop} {r : Result Next} {w' : World} {b : Nat → Bool} {vs : Nat → Value} (u : Value) (hr : r = .ok (.value u) w') (hq : q (dstVal d u)) (hj : J (fun s => if s = i then true else b s) (fun s => if s = i then dstVal d u else vs s) w') : mildS P d q i J b vs r := by
  subst hr
  exact ⟨hq, hj⟩
theorem mildS_skip {q : Value → Prop} {r : Result Next} {w' : World} {b : Nat → Bool} {vs : Nat → Value} (hr : r = .ok .skip w') (hq : q undef) (hj : J (fun s => if s = i then true else b s) (fun s => if s = i then undef else vs s) w') : mildS P none q i J b vs r := by
  subst hr
  exact ⟨rfl, hq, hj⟩
theorem mildS_ex {d : Option Nat} {q : Value → Prop} {r : Result Next} {b : Nat → Bool} {vs : Nat → Value} {A B : Value → World → Prop} (hr : ∃ v' w3, r = .ok (.value v') w3 ∧ A v' w3 ∧ B v' w3)
    (h : ∀ v' w3, A v' w3 → B v' w3 → q (dstVal d v') ∧ J (fun s => if s = i then true else b s) (fun s => if s = i then dstVal d v' else vs s) w3) : mildS P d q i J b vs r := by
  obtain ⟨v', w3, rfl, h1, h2⟩ := hr
  exact h v' w3 h1 h2
end
theorem wp_region_mixSL {P : Program} {a : Act} {w : World} {Q : Exit → Act → World → Prop} {id : Nat} {L : List Oper} {ds : List Nat} (n : Nat) (J : (Nat → Bool) → (Nat → Value) → World → Prop) (dl : List (Option Nat)) (Φ : List (Value → Prop)) (hdl : (L.take n).map (·.dst) = dl) (hds : dstsOf_ (L.take n) = ds) (hm : P.follows .mixedOrders = true)
    (hn : typedB (L.take n) a.tmps.size = true) (ht : tailB (L.take n) (L.drop n) = true) (hob : ObSAll P dl Φ ds a J 0 (L.take n) Φ) (h0 : ∀ v, J (fun _ => false) v w.drew)
    (hQ : ∀ f b w', (∀ i, i < (L.take n).length → b i = true) → J b (valOf dl f) w' → PostO f dl Φ → wpList P L.toArray Q (L.drop n) (fills ds f a) w') : (Code.region id L.toArray true).wp P Q a w :=
  wp_region_mixS n J dl Φ hdl hds hm hn ht (fun i o ho => by simpa using obSAll_get _ _ 0 hob i o ho) h0 hQ
end Go.Proofs.YtcffeepgfjpcaaaGreat

namespace Go.Proofs.YtcffeepgfjpcaaaGreat
set_option linter.unusedSimpArgs false
set_option linter.unusedVariables false

end Go.Proofs.YtcffeepgfjpcaaaGreat

namespace Go.Proofs.YtcffeepgfjpcaaaGreat
set_option linter.unusedSimpArgs false
set_option linter.unusedVariables false

structure GArc where
  to : UInt32
  wt : UInt32
deriving DecidableEq
def gsum (l : List GArc) : Nat := (l.map fun a => a.wt.toNat).sum
theorem gsum_append (a b : List GArc) : gsum (a ++ b) = gsum a + gsum b := by simp [gsum]
theorem gsum_one (a : GArc) : gsum [a] = a.wt.toNat := by simp [gsum]
theorem gsum_lt (l : List GArc) : gsum l ≤ l.length * 4294967295 := by
  induction l with
  | nil => simp [gsum]
  | cons a t ih =>
    have := u32_lt a.wt
    simp only [gsum, List.map_cons, List.sum_cons, List.length_cons] at *
    omega
theorem gsum_take_le (l : List GArc) (k : Nat) : gsum (l.take k) ≤ gsum l := by
  have h : gsum l = gsum (l.take k) + gsum (l.drop k) := by rw [← gsum_append, List.take_append_drop]
  omega
theorem gsum_snoc (l : List GArc) (k : Nat) (h : k < l.length) : gsum (l.take (k + 1)) = gsum (l.take k) + l[k].wt.toNat := by
  rw [List.take_succ_eq_append_getElem h, gsum_append, gsum_one]
/-- each weight is one at least, the ends rise -/
def rise : Option UInt32 → List GArc → Bool
  | _, [] => true
  | p, a :: t => a.wt != 0 && (match p with | none => true | some q => decide (q < a.to)) && rise (some a.to) t
def gmay (l : List GArc) : Bool := rise none l && decide (gsum l ≤ 2147483647)
/-- the k-th one is right behind its neighbour -/
def stepOk (l : List GArc) (k : Nat) (a : GArc) : Bool := a.wt != 0 && (k == 0 || match l[k - 1]? with | some b => decide (b.to < a.to) | none => true)
theorem rise_take : ∀ (l : List GArc) (p : Option UInt32) (k : Nat), rise p l = true → rise p (l.take k) = true
  | [], p, k, h => by simp [rise]
  | a :: t, p, 0, h => by simp [rise]
  | a :: t, p, k + 1, h => by
    simp only [rise, List.take_succ_cons, Bool.and_eq_true] at *
    exact ⟨h.1, rise_take t _ k h.2⟩
theorem rise_cons (p : Option UInt32) (a : GArc) (t : List GArc) : rise p (a :: t) = (a.wt != 0 && (match p with | none => true | some q => decide (q < a.to)) && rise (some a.to) t) := rfl
def lastTo : Option UInt32 → List GArc → Option UInt32
  | p, [] => p
  | _, a :: t => lastTo (some a.to) t
theorem lastTo_snoc : ∀ (l : List GArc) (p : Option UInt32) (a : GArc), lastTo p (l ++ [a]) = some a.to
  | [], _, _ => rfl
  | _ :: t, _, a => lastTo_snoc t _ a
theorem rise_append : ∀ (l m : List GArc) (p : Option UInt32), rise p (l ++ m) = (rise p l && rise (lastTo p l) m)
  | [], m, p => by simp [rise, lastTo]
  | a :: t, m, p => by
    have := rise_append t m (some a.to)
    rw [List.cons_append]
    rw [rise_cons, rise_cons, this, Bool.and_assoc, Bool.and_assoc, Bool.and_assoc]
    rfl
theorem take_last {α : Type} (l : List α) (k : Nat) (h0 : 0 < k) (h : k ≤ l.length) : l.take k = l.take (k - 1) ++ [l[k - 1]'(by omega)] := by
  have := List.take_succ_eq_append_getElem (l := l) (i := k - 1) (by omega)
  rwa [show k - 1 + 1 = k from by omega] at this
theorem rise_snoc (l : List GArc) (k : Nat) (h : k < l.length) : rise none (l.take (k + 1)) = (rise none (l.take k) && stepOk l k l[k]) := by
  rw [List.take_succ_eq_append_getElem h, rise_append]
  congr 1
  unfold stepOk
  rcases Nat.eq_zero_or_pos k with h0 | h0
  · subst h0
    simp [rise, lastTo]
  · rw [take_last l k h0 (by omega), lastTo_snoc, List.getElem?_eq_getElem (show k - 1 < l.length by omega)]
    have : (k == 0) = false := by simp; omega
    simp [rise, this]
theorem rise_stepOk (l : List GArc) (k : Nat) (h : k < l.length) (hr : rise none l = true) : stepOk l k l[k] = true := by
  have := rise_take l none (k + 1) hr
  rw [rise_snoc l k h] at this
  simp at this
  exact this.2
/-- what the next one can be at least -/
def nextOf (l : List GArc) (k : Nat) : Nat := if k = 0 then 0 else match l[k - 1]? with | some b => b.to.toNat + 1 | none => 0
theorem nextOf_succ (l : List GArc) (k : Nat) (h : k < l.length) : nextOf l (k + 1) = l[k].to.toNat + 1 := by
  unfold nextOf
  rw [if_neg (by omega), Nat.add_sub_cancel, List.getElem?_eq_getElem h]
theorem nextOf_le (l : List GArc) (k : Nat) (h : k < l.length) (hr : rise none l = true) : nextOf l k ≤ l[k].to.toNat := by
  have := rise_stepOk l k h hr
  unfold stepOk at this
  unfold nextOf
  split
  · omega
  · rename_i hk
    have hk' : (k == 0) = false := by simpa using hk
    rw [hk', List.getElem?_eq_getElem (show k - 1 < l.length by omega)] at this
    rw [List.getElem?_eq_getElem (show k - 1 < l.length by omega)]
    simp at this
    have := UInt32.lt_iff_toNat_lt.1 this.2
    simp only
    omega
end Go.Proofs.YtcffeepgfjpcaaaGreat

namespace Go.Proofs.YtcffeepgfjpcaaaGreat
set_option linter.unusedSimpArgs false
set_option linter.unusedVariables false
open Go.RowKit

end Go.Proofs.YtcffeepgfjpcaaaGreat

namespace Go.Proofs.YtcffeepgfjpcaaaGreat
set_option linter.unusedSimpArgs false
set_option linter.unusedVariables false
open Go.RowKit

end Go.Proofs.YtcffeepgfjpcaaaGreat

namespace Go.Proofs.YtcffeepgfjpcaaaGreat
set_option linter.unusedSimpArgs false
set_option linter.unusedVariables false
open Go.RowKit

def cArc : Cdc GArc := Cdc.flat 2 (fun a => [.int .u32 (a.to.toNat : Int), .int .u32 (a.wt.toNat : Int)]) (fun _ => True) (fun _ => rfl) (fun x u hu => by
  simp at hu
  rcases hu with rfl | rfl <;> rfl)
theorem infoArc : (Tryz.prog.info? 48).map (fun i => (i.zero, i.size, i.bytes)) = some (some (.agg #[.int .u32 0, .int .u32 0]), cArc.n, 8) := by kernel_rfl
theorem InC.arcs' {w : World} {cs : List Value} (h : InC w 45 cs) : ∃ v xs, cs = [v] ∧ RowOn cArc w (fun k => k < w.heap.size) (fun k => k < w.heap.size) v xs :=
  h.row (C := cArc) Tryz.underlying45 (by kernel_rfl) (by decide) fun cs hc => by
    obtain ⟨hl, hf⟩ := hc.fields Tryz.underlying48 (by kernel_rfl) (by kernel_rfl)
    obtain ⟨u0, h0, g0⟩ := hf 0 _ rfl
    obtain ⟨u1, h1, g1⟩ := hf 1 _ rfl
    obtain ⟨n0, e0, k0⟩ := InC.u32 (S := fun _ => True) Tryz.underlying24 g0
    obtain ⟨n1, e1, k1⟩ := InC.u32 (S := fun _ => True) Tryz.underlying24 g1
    simp at e0 e1
    subst e0; subst e1
    match cs, hl with
    | [c0, c1], _ =>
      injection h0 with h0
      injection h1 with h1
      subst h0; subst h1
      exact ⟨⟨n0, n1⟩, rfl, trivial⟩
/-- the value reads as these arcs, in blocks below B -/
abbrev ByA (w : World) (B : Nat) (v : Value) (l : List GArc) : Prop := RowOn cArc w (fun k => k < B) (fun _ => True) v l
theorem ByA.below {w w' : World} {B : Nat} {v : Value} {l : List GArc} (h : ByA w B v l) (hb : Below B w w') : ByA w' B v l := by
  obtain ⟨A, c, h1, h2, h3, h4⟩ := h
  refine ⟨A, c, h1, h2, h3, fun hn => ?_⟩
  obtain ⟨ad, e, hb', hc⟩ := h4 hn
  refine ⟨ad, e, hb', fun i x hx => ?_⟩
  obtain ⟨cs, ha, hcs⟩ := hc i x hx
  exact ⟨cs, ha, fun j u hu => (hb.cell (by rw [add_block]; exact hb')).trans (hcs j u hu)⟩
theorem ByA.more {w : World} {B B' : Nat} {v : Value} {l : List GArc} (h : ByA w B v l) (hB : B ≤ B') : ByA w B' v l := h.mono (fun _ hk => by omega) fun _ hk => hk
theorem ByA.step {w w' : World} {v : Value} {l : List GArc} (h : ByA w w.heap.size v l) (hb : Below w.heap.size w w') : ByA w' w'.heap.size v l := (h.below hb).more hb.size
theorem InC.arcs {w : World} {v : Value} (h : InC w 45 [v]) : ∃ l, ByA w w.heap.size v l := by
  obtain ⟨v', xs, e, hr⟩ := h.arcs'
  injection e with e
  subst e
  exact ⟨xs, hr.mono (fun _ hk => hk) (fun _ _ => trivial)⟩
/-- the two cells of the k-th arc -/
theorem ByA.cells {w : World} {B : Nat} {A : Option Addr} {n c : Nat} {l : List GArc} (h : ByA w B (.slice A n c) l) (k : Nat) (hk : k < l.length) :
    ∃ ad, A = some ad ∧ ad.block < B ∧ w.cell? (ad.add (k * 2)) = some (.int .u32 ((l[k]).to.toNat : Int)) ∧ w.cell? { block := (ad.add (k * 2)).block, off := (ad.add (k * 2)).off + 1 } = some (.int .u32 ((l[k]).wt.toNat : Int)) := by
  obtain ⟨ad, cs, e, hb, ⟨rfl, _⟩, hc⟩ := h.at_ k l[k] (List.getElem?_eq_getElem hk)
  refine ⟨ad, e, hb, hc 0 _ rfl, ?_⟩
  have := hc 1 _ rfl
  rw [← add_add] at this
  have e2 : (ad.add (k * cArc.n)).add 1 = { block := (ad.add (k * 2)).block, off := (ad.add (k * 2)).off + 1 } := by simp [Addr.add, cArc, Cdc.flat]
  rw [← e2]
  exact this

set_option maxRecDepth 100000 in
set_option maxHeartbeats 800000 in
theorem gsum_any (w : World) (B : Nat) (v : Value) (l : List GArc) (hl : l.length ≤ 4294967296) (h : ByA w B v l) (hB : B ≤ w.heap.size) :
    Calls Tryz.prog 50 #[v] w fun e w' => e = .returned (.int .u64 (gsum l : Nat)) ∧ Below w.heap.size w w' := by
  obtain ⟨A, c, rfl, hc1, hc2⟩ := h.form
  unfold maxLen at hc2
  have hlt := fun k => gsum_lt (l.take k)
  have Hlt := Lib.hid hlt
  clear hlt
  go_enter Tryz.func50, Tryz.ntmps50
  go_wp2_with fail
  go_loopw [3, 8] (fun x i wr => ∃ k : Nat, k ≤ l.length ∧ i = .int .i64 k ∧ x = .int .u64 (gsum (l.take k) : Nat) ∧ Below w.heap.size w wr) (fun _ i _ => l.length - (intOf i).toNat)
  case atStart => exact ⟨0, by omega, rfl, rfl, Below.refl _ _⟩
  case round =>
    obtain ⟨k, hk, rfl, rfl, hbl⟩ := hrel
    by_cases hlt : k < l.length
    · obtain ⟨ad, rfl, hab, hx0, hx1⟩ := (h.below (hbl.mono hB)).cells k hlt
      have hsn := gsum_snoc l k hlt
      have h1 := Hlt.out k
      have h2 : (l.take k).length ≤ 4294967296 := by simp; omega
      have h3 : gsum (l.take k) ≤ 18446744069414584320 := by
        have := Nat.mul_le_mul_right 4294967295 h2
        omega
      have Hsn := Lib.hid hsn
      have hwt := u32_lt (l[k]).wt
      clear hsn h1 h2
      generalize l[k] = a at *
      generalize gsum (l.take k) = S at *
      go_wp2_with fail
      go_roundw
      case rel => exact ⟨k + 1, by omega, by go_num, by rw [Hsn.out]; go_num, hbl.trans ((balloc _ _).mono hbl.size)⟩
      case measure => simp [intOf]; omega
    · obtain rfl : k = l.length := by omega
      rw [List.take_length]
      go_wp2_with fail
      go_ret
      exact ⟨rfl, hbl⟩
end Go.Proofs.YtcffeepgfjpcaaaGreat

namespace Go.Proofs.YtcffeepgfjpcaaaGreat
set_option linter.unusedSimpArgs false
set_option linter.unusedVariables false
open Go.RowKit

theorem OwnR.chgT {w w' : World} {P : Nat → Prop} {α : Type} {E : TypeId} {C : Cdc α} {base : Nat} {S : Nat → Prop} {v : Value} {xs : List α} (h : OwnR E C w base S v xs) (hc : Chg P w w') (hv : ∀ k, v.ownBlock = some k → ¬ P k) (hS : ∀ k, S k → ¬ P k) : OwnR E C w' base S v xs := by
  have hb := h.blk
  obtain ⟨css, hl, ⟨h1, h2⟩, h3, h4⟩ := h
  refine ⟨css, hl, ⟨h1, ?_⟩, fun i cs x hcs hx => C.keep (h3 i cs x hcs hx) fun p hp => World.cell?_of_block (hc.block p.block (h4 _ hp).1 (hS _ hp)), fun k hk => ⟨Nat.lt_of_lt_of_le (h4 k hk).1 hc.size, (h4 k hk).2⟩⟩
  rcases h2 with h2 | ⟨g, cap, cur, e, hg, h5, r⟩
  · exact .inl h2
  · have hk := hb g (by rw [e]; rfl)
    exact .inr ⟨g, cap, cur, e, hg, (hc.block g hk.2 (hv g (by rw [e]; rfl))).trans h5, r⟩
theorem ownR_ne_boxT {α : Type} {E T : TypeId} {C : Cdc α} {w : World} {base : Nat} {S : Nat → Prop} {v : Value} {xs : List α} {g : Nat} {cs : List Value} (hET : E ≠ T) (h : OwnR E C w base S v xs) (hb : BoxAt T w g cs) : ∀ k, v.ownBlock = some k → k ≠ g := by
  obtain ⟨_, _, ⟨_, h2⟩, _⟩ := h
  intro k hk e
  subst e
  rcases h2 with ⟨rfl, _⟩ | ⟨g', cap, cur, rfl, _, h3, _⟩
  · cases hk
  · injection hk with hk
    subst hk
    have := h3.symm.trans hb
    injection this with this
    injection this with _ h _
    exact hET h
theorem ownR_ne_ownT {α β : Type} {E T : TypeId} {C : Cdc α} {D : Cdc β} {w : World} {base base2 : Nat} {S S2 : Nat → Prop} {v v2 : Value} {xs : List α} {ys : List β} (hET : E ≠ T) (h : OwnR E C w base S v xs) (hb : OwnR T D w base2 S2 v2 ys) : ∀ k, v.ownBlock = some k → v2.ownBlock ≠ some k := by
  obtain ⟨_, _, ⟨_, h2⟩, _⟩ := h
  obtain ⟨_, _, ⟨_, h4⟩, _⟩ := hb
  intro k hk e
  rcases h2 with ⟨rfl, _⟩ | ⟨g', cap, cur, rfl, _, h3, _⟩
  · cases hk
  · rcases h4 with ⟨rfl, _⟩ | ⟨g2, cap2, cur2, rfl, _, h5, _⟩
    · cases e
    · injection hk with hk
      injection e with e
      have := h3.symm.trans ((congrArg (w.heap[·]?) (hk.trans e.symm)).trans h5)
      injection this with this
      injection this with _ h _
      exact hET h
theorem ownKeptT {α β : Type} {E T : TypeId} {C : Cdc α} {D : Cdc β} {w w' : World} {base base2 : Nat} {v v2 v' : Value} {xs : List α} {ys : List β} (hET : E ≠ T) (h : OwnF E C w base v xs) (hb : OwnF T D w base2 v2 ys) (hx : Ext w w' v v') : OwnF T D w' base2 v2 ys := by
  refine hb.keep hx.gr ?_ (fun _ h => h.elim)
  cases hv : v2.ownBlock with
  | none => exact .inl rfl
  | some k => exact .inr fun e => ownR_ne_ownT hET h hb k e.symm hv
theorem rowOfBoxT {α : Type} {C : Cdc α} {W : World} {S : Nat → Prop} {T : TypeId} {g : Nat} {cs : List Value} {y : α} (h : BoxAt T W g cs) (hy : C.at_ W S cs y) : RowOn C W (fun _ => True) S (.slice (some ⟨g, 0, none⟩) 1 1) [y] :=
  ⟨_, 1, rfl, Nat.le_refl _, by simp [maxLen], fun _ => ⟨_, rfl, trivial, fun i x hi => by
    match i, hi with
    | 0, hi =>
      injection hi with hi
      subst hi
      exact ⟨cs, hy, fun j u hu => by
        have := h.cell j u hu
        rcases j with _ | j <;> simpa [Addr.add] using this⟩
    | i + 1, hi => simp at hi⟩⟩
def TmpT (T : TypeId) (cs : List Value) (W : World) (b1 b2 : Bool) (v : Value) : Prop := b1 = true → b2 = false → ∃ g, v = .slice (some ⟨g, 0, none⟩) 1 1 ∧ BoxAt T W g cs
section
variable {W W' : World} {c base : Nat} {v : Value} {b1 b2 : Bool} {cs : List Value} {T E : TypeId}
theorem TmpT.below (h : TmpT T cs W b1 b2 v) (hb : Below W.heap.size W W') : TmpT T cs W' b1 b2 v := fun h1 h2 => by
  obtain ⟨g, e, hx⟩ := h h1 h2
  exact ⟨g, e, hx.below hx.lt hb⟩
theorem boxKeptT {α : Type} {C : Cdc α} {g : Nat} {xs : List α} {v' : Value} (hET : E ≠ T) (ho : OwnF E C W base v xs) (hx : Ext W W' v v') (h : BoxAt T W g cs) : BoxAt T W' g cs := h.grown hx.gr (fun e => ownR_ne_boxT hET ho h _ e rfl)
theorem TmpT.kept {α : Type} {C : Cdc α} {xs : List α} {v2 v' : Value} (hET : E ≠ T) (ho : OwnF E C W base v xs) (hx : Ext W W' v v') (h : TmpT T cs W b1 b2 v2) : TmpT T cs W' b1 b2 v2 := fun h1 h2 => by
  obtain ⟨g, e, hx2⟩ := h h1 h2
  exact ⟨g, e, boxKeptT hET ho hx hx2⟩
theorem ownSetT {α : Type} {C : Cdc α} {xs : List α} {ds : List Value} (hET : E ≠ T) (ho : OwnF E C W base v xs) (h : BoxAt T W c ds) (j : Nat) (u : Value) : OwnF E C (W.setCell ⟨c, j, none⟩ u) base v xs :=
  OwnR.chgT ho (Chg.set (P := fun k => k = c) W ⟨c, j, none⟩ u rfl) (fun k hk e => ownR_ne_boxT hET ho h k hk e) (fun _ h => h.elim)
theorem TmpT.set {ds : List Value} {T2 : TypeId} (hT : T ≠ T2) (h : TmpT T cs W b1 b2 v) (hb : BoxAt T2 W c ds) (j : Nat) (u : Value) : TmpT T cs (W.setCell ⟨c, j, none⟩ u) b1 b2 v := fun h1 h2 => by
  obtain ⟨g, e, hx⟩ := h h1 h2
  refine ⟨g, e, hx.other _ _ (fun e => ?_)⟩
  simp only at e
  subst e
  have := hx.symm.trans hb
  injection this with this
  injection this with _ e _
  exact hT e
end
theorem run_slice_arcT (w : World) (a b : Int) : (Instr.buildSlice 45 1 #[(0, .agg #[.int .u32 a, .int .u32 b])]).run Tryz.prog w =
    .ok (.slice (some ⟨w.heap.size, 0, none⟩) 1 1) (w.alloc (.cells #[.int .u32 a, .int .u32 b] 48)) := by
  obtain ⟨it, hit, hz0, hz1, hby⟩ := info_parts infoArc
  refine run_buildSlice w _ _ 1 _ _ it _ Tryz.underlying45 hit hz0 (by rw [hz1]; decide) (by rw [hz1]; decide) ?_
  rw [hz1, show cArc.n = 2 from rfl]
  exact fill_whole 2 _ [.int .u32 a, .int .u32 b] (by first | rfl | simp) (by first | rfl | simp)
end Go.Proofs.YtcffeepgfjpcaaaGreat

namespace Go.Proofs.YtcffeepgfjpcaaaGreat
set_option linter.unusedSimpArgs false
set_option linter.unusedVariables false
open Go.RowKit

section
variable {P : Program} {dl : List (Option Nat)} {Φ : List (Value → Prop)} {ds : List Nat} {a : Act} {w : World} {s i : Nat} {J : Bool → Value → World → Prop} {ph : Value → Prop} {o : Oper}
end
end Go.Proofs.YtcffeepgfjpcaaaGreat

namespace Go.Proofs.YtcffeepgfjpcaaaGreat
set_option linter.unusedSimpArgs false
set_option linter.unusedVariables false
open Go.RowKit

theorem gmay_take (l : List GArc) (k : Nat) (h : k < l.length) (hk : stepOk l k l[k] = false) : gmay l = false := by
  rcases hg : gmay l with _ | _
  · rfl
  · unfold gmay at hg
    simp at hg
    have := rise_stepOk l k h hg.1
    rw [hk] at this
    cases this

set_option maxRecDepth 100000 in
set_option maxHeartbeats 1600000 in
theorem gmay_any (w : World) (B : Nat) (v : Value) (l : List GArc) (hl : l.length ≤ 4294967296) (h : ByA w B v l) (hB : B ≤ w.heap.size) :
    Calls Tryz.prog 45 #[v] w fun e w' => e = .returned (.bool (gmay l)) ∧ Below w.heap.size w w' := by
  obtain ⟨A, c, rfl, hc1, hc2⟩ := h.form
  unfold maxLen at hc2
  have hsum := fun W (h : ByA W B (.slice A l.length c) l) hW => gsum_any W B (.slice A l.length c) l hl h hW
  have hgm : gmay l = (rise none l && decide (gsum l ≤ 2147483647)) := rfl
  have hno := fun k h hk => gmay_take l k h hk
  have Hsum := Lib.hid hsum
  have Hno := Lib.hid hno
  have Hgm := Lib.hid hgm
  clear hsum hno hgm
  go_enter Tryz.func45, Tryz.ntmps45
  go_wp2_with fail
  go_loopw [7] (fun i wr => ∃ k : Nat, k ≤ l.length ∧ i = .int .i64 k ∧ rise none (l.take k) = true ∧ Below w.heap.size w wr) (fun i _ => l.length - (intOf i).toNat)
  case atStart => exact ⟨0, by omega, rfl, rfl, Below.refl _ _⟩
  case round =>
    obtain ⟨k, hk, rfl, hri, hbl⟩ := hrel
    by_cases hlt : k < l.length
    · obtain ⟨ad, rfl, hab, hx0, hx1⟩ := (h.below (hbl.mono hB)).cells k hlt
      have hstep := rise_snoc l k hlt
      rw [hri, Bool.true_and] at hstep
      have hno := Hno.out k hlt
      have hst : stepOk l k l[k] = ((l[k]).wt != 0 && (k == 0 || match l[k - 1]? with | some b => decide (b.to < (l[k]).to) | none => true)) := rfl
      have hbz := hbl.size
      by_cases hw0 : (l[k]).wt = 0
      · rw [hw0] at hst
        simp at hst
        have hf := hno hst
        have Hf := Lib.hid hf
        have hwt : (((l[k]).wt.toNat : Nat) : Int) = 0 := by rw [hw0]; rfl
        rw [hwt] at hx1
        clear hst hf hno hstep hwt hw0
        generalize l[k] = a at *
        go_wp2_with fail
        go_quiet (fail)
        go_wp2_with fail
        go_ret
        rw [Hf.out]
        exact ⟨rfl, bdrewN (hbl.trans ((balloc _ _).mono hbl.size)) _⟩
      · have hwn : ((((l[k]).wt.toNat : Nat) : Int) == 0) = false := beq_eq_false_iff_ne.2 (fun e => hw0 (UInt32.toNat_inj.1 (by simpa using e)))
        have hwn' : ((l[k]).wt != 0) = true := by simpa using hw0
        rw [hwn', Bool.true_and] at hst
        rcases Nat.eq_zero_or_pos k with hk0 | hk0
        · have h0' : (k == 0) = true := by simpa using hk0
          rw [h0', Bool.true_or] at hst
          rw [hst] at hstep
          have hk0i : decide (0 < k) = false := by simp; omega
          have Hstep := Lib.hid hstep
          have Hk0 := Lib.hid hk0
          clear hst hstep hno hwn' hw0 h0' hk0
          generalize l[k] = a at *
          go_wp2_with fail
          go_quiet (fail)
          go_wp2_with fail
          go_roundw
          case rel => exact ⟨k + 1, by omega, by go_num, Hstep.out, bdrewN (hbl.trans ((balloc _ _).mono hbl.size)) _⟩
          case measure => simp [intOf]; omega
        · obtain ⟨m, rfl⟩ : ∃ m, k = m + 1 := ⟨k - 1, by omega⟩
          have h0' : (m + 1 == 0) = false := by simp
          have hm : m < l.length := by omega
          rw [h0', Bool.false_or, Nat.add_sub_cancel, List.getElem?_eq_getElem hm] at hst
          obtain ⟨ad', e, _, hy0, hy1⟩ := (h.below (hbl.mono hB)).cells m hm
          injection e with e
          subst e
          simp only at hst
          rw [hst] at hstep hno
          have Hstep := Lib.hid hstep
          have Hno1 := Lib.hid hno
          clear hst hstep hno hwn' hw0 h0'
          generalize l[m + 1] = a at *
          generalize l[m] = b at *
          have hx0' := World.cell?_alloc_lt wr (.cells #[.int .u32 (a.to.toNat : Int), .int .u32 (a.wt.toNat : Int)] 48) (ad.add (m * 2)) (by rw [add_block]; omega)
          rw [hy0] at hx0'
          by_cases hlo : b.to < a.to
          · have hle : decide ((a.to.toNat : Int) ≤ (b.to.toNat : Int)) = false := by
              have := UInt32.lt_iff_toNat_lt.1 hlo
              simp; omega
            have hle' : decide (a.to.toNat ≤ b.to.toNat) = false := by
              have := UInt32.lt_iff_toNat_lt.1 hlo
              simp; omega
            have hlt' : (decide (b.to < a.to)) = true := by simpa using hlo
            rw [hlt'] at Hstep
            clear hlo hlt' Hno1
            go_wp2_with fail
            go_quiet (fail)
            go_wp2_with fail
            go_roundw
            case rel => exact ⟨m + 1 + 1, by omega, by go_num, Hstep.out, bdrewN (hbl.trans ((balloc _ _).mono hbl.size)) _⟩
            case measure => simp [intOf]; omega
          · have hle : decide ((a.to.toNat : Int) ≤ (b.to.toNat : Int)) = true := by
              have : ¬ b.to.toNat < a.to.toNat := fun h => hlo (UInt32.lt_iff_toNat_lt.2 h)
              simp; omega
            have hle' : decide (a.to.toNat ≤ b.to.toNat) = true := by
              have : ¬ b.to.toNat < a.to.toNat := fun h => hlo (UInt32.lt_iff_toNat_lt.2 h)
              simp; omega
            have hf := Hno1.out (by simpa using hlo)
            have Hf := Lib.hid hf
            clear hlo hf Hstep Hno1
            go_wp2_with fail
            go_quiet (fail)
            go_wp2_with fail
            go_ret
            rw [Hf.out]
            exact ⟨rfl, bdrewN (hbl.trans ((balloc _ _).mono hbl.size)) _⟩
    · obtain rfl : k = l.length := by omega
      rw [List.take_length] at hri
      have hs := Hsum.out wr (h.below (hbl.mono hB)) (Nat.le_trans hB hbl.size)
      have hgm := Hgm.out
      rw [hri, Bool.true_and] at hgm
      have HG := Lib.hid hgm
      clear hgm Hgm
      generalize gsum l = S at *
      have Hs := Lib.hid hs
      clear hs
      go_wp2_with fail
      refine Hs.out.mono ?_
      rintro _ w1 ⟨rfl, hb1⟩
      go_wp2_with fail
      go_ret
      rw [HG.out]
      refine ⟨?_, bstep hbl hb1⟩
      exact congrArg (fun b => Ending.returned (Value.bool b)) (decide_eq_decide.2 (by omega))

theorem Ext.ne {w w' : World} {v v' : Value} (h : Ext w w' v v') {g : Nat} (hg : g < w.heap.size) (hv : v.ownBlock ≠ some g) : v'.ownBlock ≠ some g := by
  rcases h.at_ with h1 | h1
  · rw [h1]; exact hv
  · intro e; have := h1 g e; omega
end Go.Proofs.YtcffeepgfjpcaaaGreat

namespace Go.Proofs.YtcffeepgfjpcaaaGreat
set_option linter.unusedSimpArgs false
set_option linter.unusedVariables false
open Go.RowKit

end Go.Proofs.YtcffeepgfjpcaaaGreat

namespace Go.Proofs.YtcffeepgfjpcaaaGreat
set_option linter.unusedSimpArgs false
set_option linter.unusedVariables false
open Go.RowKit

end Go.Proofs.YtcffeepgfjpcaaaGreat

namespace Go.Proofs.YtcffeepgfjpcaaaGreat
set_option linter.unusedSimpArgs false
set_option linter.unusedVariables false
open Go.RowKit

end Go.Proofs.YtcffeepgfjpcaaaGreat

namespace Go.Proofs.YtcffeepgfjpcaaaGreat
set_option linter.unusedSimpArgs false
set_option linter.unusedVariables false
open Go.RowKit

end Go.Proofs.YtcffeepgfjpcaaaGreat

namespace Go.Proofs.YtcffeepgfjpcaaaGreat
set_option linter.unusedSimpArgs false
set_option linter.unusedVariables false
open Go.RowKit

end Go.Proofs.YtcffeepgfjpcaaaGreat

namespace Go.Proofs.YtcffeepgfjpcaaaGreat
set_option linter.unusedSimpArgs false
set_option linter.unusedVariables false
open Go.RowKit

end Go.Proofs.YtcffeepgfjpcaaaGreat

namespace Go.Proofs.YtcffeepgfjpcaaaGreat
set_option linter.unusedSimpArgs false
set_option linter.unusedVariables false
open Go.RowKit

end Go.Proofs.YtcffeepgfjpcaaaGreat

namespace Go.Proofs.YtcffeepgfjpcaaaGreat
set_option linter.unusedSimpArgs false
set_option linter.unusedVariables false
open Go.RowKit
end Go.Proofs.YtcffeepgfjpcaaaGreat

namespace Go.Proofs.YtcffeepgfjpcaaaGreat
set_option linter.unusedSimpArgs false
set_option linter.unusedVariables false
open Go.RowKit

end Go.Proofs.YtcffeepgfjpcaaaGreat

namespace Go.Proofs.YtcffeepgfjpcaaaGreat
set_option linter.unusedSimpArgs false
set_option linter.unusedVariables false
open Go.RowKit

theorem OwnA.new_ (w : World) (l : List GArc) (hm : l.length ≤ maxLen) :
    OwnF 48 cArc (w.alloc (.cells ((l.map fun a => [Value.int .u32 (a.to.toNat : Int), .int .u32 (a.wt.toNat : Int)]).flatten.toArray) 48)) w.heap.size (.slice (some ⟨w.heap.size, 0, none⟩) l.length l.length) l :=
  OwnR.new_ w _ (by simp) hm (fun i cs x hc hx => by
    rw [List.getElem?_map, hx] at hc
    injection hc with hc
    exact ⟨hc.symm, trivial⟩) fun _ h => h.elim
theorem OwnF.byA {w : World} {base : Nat} {v : Value} {l : List GArc} (h : OwnF 48 cArc w base v l) : ByA w w.heap.size v l := h.row.mono (fun _ hk => hk.2) fun _ h => h.elim

end Go.Proofs.YtcffeepgfjpcaaaGreat

namespace Go.Proofs.YtcffeepgfjpcaaaGreat
set_option linter.unusedSimpArgs false
set_option linter.unusedVariables false
open Go.RowKit

structure GCell where
  cut : UInt64
  oth : UInt32
deriving DecidableEq
def cCell : Cdc GCell := Cdc.flat 2 (fun a => [.int .u64 (a.cut.toNat : Int), .int .u32 (a.oth.toNat : Int)]) (fun _ => True) (fun _ => rfl) (fun x u hu => by
  simp at hu
  rcases hu with rfl | rfl <;> rfl)
/-- the value reads as these cells, in blocks below B -/
abbrev ByC (w : World) (B : Nat) (v : Value) (l : List GCell) : Prop := RowOn cCell w (fun k => k < B) (fun _ => True) v l
theorem ByC.below {w w' : World} {B : Nat} {v : Value} {l : List GCell} (h : ByC w B v l) (hb : Below B w w') : ByC w' B v l := by
  obtain ⟨A, c, h1, h2, h3, h4⟩ := h
  refine ⟨A, c, h1, h2, h3, fun hn => ?_⟩
  obtain ⟨ad, e, hb', hc⟩ := h4 hn
  refine ⟨ad, e, hb', fun i x hx => ?_⟩
  obtain ⟨cs, ha, hcs⟩ := hc i x hx
  exact ⟨cs, ha, fun j u hu => (hb.cell (by rw [add_block]; exact hb')).trans (hcs j u hu)⟩
theorem ByC.more {w : World} {B B' : Nat} {v : Value} {l : List GCell} (h : ByC w B v l) (hB : B ≤ B') : ByC w B' v l := h.mono (fun _ hk => by omega) fun _ hk => hk
theorem ByC.step {w w' : World} {v : Value} {l : List GCell} (h : ByC w w.heap.size v l) (hb : Below w.heap.size w w') : ByC w' w'.heap.size v l := (h.below hb).more hb.size
theorem ByC.cells {w : World} {B : Nat} {A : Option Addr} {n c : Nat} {l : List GCell} (h : ByC w B (.slice A n c) l) (k : Nat) (hk : k < l.length) :
    ∃ ad, A = some ad ∧ ad.block < B ∧ w.cell? (ad.add (k * 2)) = some (.int .u64 ((l[k]).cut.toNat : Int)) ∧ w.cell? { block := (ad.add (k * 2)).block, off := (ad.add (k * 2)).off + 1 } = some (.int .u32 ((l[k]).oth.toNat : Int)) := by
  obtain ⟨ad, cs, e, hb, ⟨rfl, _⟩, hc⟩ := h.at_ k l[k] (List.getElem?_eq_getElem hk)
  refine ⟨ad, e, hb, hc 0 _ rfl, ?_⟩
  have := hc 1 _ rfl
  rw [← add_add] at this
  have e2 : (ad.add (k * cCell.n)).add 1 = { block := (ad.add (k * 2)).block, off := (ad.add (k * 2)).off + 1 } := by simp [Addr.add, cCell, Cdc.flat]
  rw [← e2]
  exact this

/-! ### how many draws come to a neighbour -/
def cstep (W : Nat) (to : Int) (i : Nat) (c : GCell) (n : Nat) : Nat :=
  let cut := if W < c.cut.toNat then W else c.cut.toNat
  let n1 := if (i : Int) = to then (n + cut) % 18446744073709551616 else n
  if (c.oth.toNat : Int) = to then (n1 + (W - cut)) % 18446744073709551616 else n1
def cntK (W : Nat) (to : Int) (l : List GCell) : Nat → Nat
  | 0 => 0
  | k + 1 => match l[k]? with
    | some c => cstep W to k c (cntK W to l k)
    | none => cntK W to l k
def cnt (W : Nat) (to : Int) (l : List GCell) : Nat := cntK W to l l.length
theorem cntK_succ (W : Nat) (to : Int) (l : List GCell) (k : Nat) (hk : k < l.length) : cntK W to l (k + 1) = cstep W to k l[k] (cntK W to l k) := by
  rw [cntK, List.getElem?_eq_getElem hk]
theorem cstep_lt {W : Nat} {to : Int} {i : Nat} {c : GCell} {n : Nat} (hn : n < 18446744073709551616) : cstep W to i c n < 18446744073709551616 := by
  unfold cstep
  simp only
  split
  · exact Nat.mod_lt _ (by decide)
  · split
    · exact Nat.mod_lt _ (by decide)
    · exact hn
theorem cntK_lt (W : Nat) (to : Int) (l : List GCell) : ∀ k, cntK W to l k < 18446744073709551616
  | 0 => by simp [cntK]
  | k + 1 => by
    rw [cntK]
    split
    · exact cstep_lt (cntK_lt W to l k)
    · exact cntK_lt W to l k

end Go.Proofs.YtcffeepgfjpcaaaGreat

namespace Go.Proofs.YtcffeepgfjpcaaaGreat
set_option linter.unusedSimpArgs false
set_option linter.unusedVariables false
open Go.RowKit

end Go.Proofs.YtcffeepgfjpcaaaGreat

namespace Go.Proofs.YtcffeepgfjpcaaaGreat
set_option linter.unusedSimpArgs false
set_option linter.unusedVariables false
open Go.Shelf
def lays225_ren : Go.Shelf.Ren := ⟨fun | 25 => 77 | 31 => 105 | 32 => 106 | 37 => 121 | n => n, fun | 22 => 102 | 3 => 3 | 4 => 4 | 40 => 124 | 0 => 0 | n => n, fun | n => n⟩
theorem lays225 : Go.Proofs.Lays2.n25 Tryz.prog lays225_ren := {
  mixed := by kernel_rfl
  f25 := Tryz.func77.trans (congrArg some (by kernel_rfl))
  f31 := Tryz.func105.trans (congrArg some (by kernel_rfl))
  f32 := Tryz.func106.trans (congrArg some (by kernel_rfl))
  f37 := Tryz.func121.trans (congrArg some (by kernel_rfl))
  t0 := Tryz.underlying0
  a0 := Tryz.isAgg0
  z0 := Tryz.sizeOf0
  v0 := Tryz.zeroValue0
  t3 := Tryz.underlying3
  a3 := Tryz.isAgg3
  z3 := Tryz.sizeOf3
  v3 := Tryz.zeroValue3
  t4 := Tryz.underlying4
  a4 := Tryz.isAgg4
  z4 := Tryz.sizeOf4
  v4 := Tryz.zeroValue4
  t22 := Tryz.underlying102
  a22 := Tryz.isAgg102
  z22 := Tryz.sizeOf102
  v22 := Tryz.zeroValue102
  t40 := Tryz.underlying124
  a40 := Tryz.isAgg124
  z40 := Tryz.sizeOf124
  v40 := Tryz.zeroValue124 }
def lays221_ren : Go.Shelf.Ren := ⟨fun | 21 => 78 | 27 => 107 | 28 => 108 | 35 => 122 | 39 => 131 | n => n, fun | 22 => 102 | 3 => 3 | 4 => 4 | 0 => 0 | n => n, fun | n => n⟩
theorem lays221 : Go.Proofs.Lays2.n21 Tryz.prog lays221_ren := {
  mixed := by kernel_rfl
  f21 := Tryz.func78.trans (congrArg some (by kernel_rfl))
  f27 := Tryz.func107.trans (congrArg some (by kernel_rfl))
  f28 := Tryz.func108.trans (congrArg some (by kernel_rfl))
  f35 := Tryz.func122.trans (congrArg some (by kernel_rfl))
  f39 := Tryz.func131.trans (congrArg some (by kernel_rfl))
  t0 := Tryz.underlying0
  a0 := Tryz.isAgg0
  z0 := Tryz.sizeOf0
  v0 := Tryz.zeroValue0
  t3 := Tryz.underlying3
  a3 := Tryz.isAgg3
  z3 := Tryz.sizeOf3
  v3 := Tryz.zeroValue3
  t4 := Tryz.underlying4
  a4 := Tryz.isAgg4
  z4 := Tryz.sizeOf4
  v4 := Tryz.zeroValue4
  t22 := Tryz.underlying102
  a22 := Tryz.isAgg102
  z22 := Tryz.sizeOf102
  v22 := Tryz.zeroValue102
  i3 := by kernel_rfl }
end Go.Proofs.YtcffeepgfjpcaaaGreat

namespace Go.Proofs.YtcffeepgfjpcaaaGreat
set_option linter.unusedSimpArgs false
set_option linter.unusedVariables false
open Go.RowKit

set_option maxRecDepth 100000 in
set_option maxHeartbeats 3200000 in
theorem acount_any (w : World) (B : Nat) (v : Value) (l : List GCell) (W : Nat) (hW : W < 18446744073709551616) (to : Int) (hl : l.length ≤ 4294967296) (h : ByC w B v l) (hB : B ≤ w.heap.size) :
    Calls Tryz.prog 22 #[v, .int .u64 (W : Int), .int .i64 to] w fun e w' => e = .returned (.int .u64 (cnt W to l : Nat)) ∧ Below w.heap.size w w' := by
  obtain ⟨A, c, rfl, hc1, hc2⟩ := h.form
  unfold maxLen at hc2
  have hlt := cntK_lt W to l
  have Hlt := Lib.hid hlt
  clear hlt
  go_enter Tryz.func22, Tryz.ntmps22
  go_wp2_with fail
  go_loopw [7, 13] (fun x i wr => ∃ k : Nat, k ≤ l.length ∧ i = .int .i64 k ∧ x = .int .u64 (cntK W to l k : Nat) ∧ Below w.heap.size w wr) (fun _ i _ => l.length - (intOf i).toNat)
  case atStart => exact ⟨0, by omega, rfl, rfl, Below.refl _ _⟩
  case round =>
    obtain ⟨k, hk, rfl, rfl, hbl⟩ := hrel
    have hbz := hbl.size
    by_cases hlt : k < l.length
    · obtain ⟨ad, rfl, hab, hx0, hx1⟩ := (h.below (hbl.mono hB)).cells k hlt
      have hsn := cntK_succ W to l k hlt
      have h1 := Hlt.out k
      have hcu := u64_lt (l[k]).cut
      have hot := u32_lt (l[k]).oth
      have hst : ∀ n, cstep W to k l[k] n = cstep W to k ⟨l[k].cut, l[k].oth⟩ n := fun _ => rfl
      rw [hst] at hsn
      unfold cstep at hsn
      simp only at hsn
      generalize (l[k]).cut.toNat = cut at *
      generalize (l[k]).oth.toNat = oth at *
      generalize cntK W to l k = n at *
      clear hst
      have e1 : W < cut ∨ cut ≤ W := by omega
      have e2 : ((k : Int) == to) = true ∨ ((k : Int) == to) = false := by cases ((k : Int) == to) <;> simp
      have e3 : ((oth : Int) == to) = true ∨ ((oth : Int) == to) = false := by cases ((oth : Int) == to) <;> simp
      have hmin : min (cut : Int) (W : Int) = ((if W < cut then W else cut : Nat) : Int) := by split <;> omega
      rcases e1 with h5 | h5 <;> rcases e2 with h6 | h6 <;> rcases e3 with h7 | h7
      all_goals
        have h6' := h6
        have h7' := h7
        simp at h6' h7'
        simp only [h5, h6', h7', if_true, if_false, Nat.not_lt.2 h5] at hsn hmin
        have Hsn := Lib.hid hsn
        have H5 := Lib.hid h5
        clear hsn h6' h7'
        go_wp2_with fail
        go_roundw
        case rel => exact ⟨k + 1, by omega, by go_num, by rw [Hsn.out]; first | done | (go_num; done) | (have := H5.out; simp only [wrap_u64]; first | omega | (congr 1; omega) | (congr 1; congr 1; omega)), hbl.trans ((balloc _ _).mono hbz)⟩
        case measure => simp [intOf]; omega
    · obtain rfl : k = l.length := by omega
      go_wp2_with fail
      go_ret
      exact ⟨rfl, hbl⟩
end Go.Proofs.YtcffeepgfjpcaaaGreat

namespace Go.Proofs.YtcffeepgfjpcaaaGreat
set_option linter.unusedSimpArgs false
set_option linter.unusedVariables false
open Go.RowKit

/-- is each cell right? -/
def cgood (W n : Nat) (l : List GCell) : Bool := l.all fun c => decide (c.cut.toNat ≤ W) && decide (c.oth.toNat < n)
/-- how many draws come to each of n, by the first k cells -/
def cntRow (W : Nat) (l : List GCell) (n k : Nat) : List Value := (List.range n).map fun (j : Nat) => Value.int .u64 ((cntK W (j : Int) l k : Nat) : Int)
theorem cntRow_get (W : Nat) (l : List GCell) (n k j : Nat) (hj : j < n) : (cntRow W l n k)[j]? = some (.int .u64 ((cntK W (j : Int) l k : Nat) : Int)) := by
  simp [cntRow, List.getElem?_range hj]
theorem cntRow_len (W : Nat) (l : List GCell) (n k : Nat) : (cntRow W l n k).length = n := by simp [cntRow]
theorem made64 (n : Nat) (l : List GCell) (W : Nat) : madeCells (Value.cells (.int .u64 0)) n = (cntRow W l n 0).toArray := by
  apply Array.ext
  · simp [madeCells, Value.cells, cntRow]
  · intro i h1 h2
    simp [madeCells, Value.cells, cntRow, cntK, Nat.mod_one]
theorem info64 : (Tryz.prog.info? 23).map (fun i => (i.zero, i.size, i.bytes)) = some (some (.int .u64 0), 1, 8) := by kernel_rfl
theorem make64 (l : List GCell) (W n : Nat) (hn : n ≤ 4294967296) : ∀ w : World, (Instr.makeSlice 101 (.int .i64 (n : Int)) (.int .i64 (n : Int))).run Tryz.prog w = .ok (.slice (some ⟨w.heap.size, 0, none⟩) n n) (w.alloc (.cells (cntRow W l n 0).toArray 23)) := fun w => by
  obtain ⟨i, hi, hz0, hz1, hz2⟩ := info_parts info64
  have hr := run_make (P := Tryz.prog) w 101 23 i (.int .u64 0) Tryz.underlying101 hi hz0 .i64 .i64 (n : Int) (n : Int) (by omega) (by omega) (by rw [hz2]; omega) (by omega)
  rw [Int.toNat_natCast, hz1, Nat.mul_one, made64 n l W] at hr
  exact hr
/-- a cell that is right is added -/
theorem cntRow_step (W : Nat) (l : List GCell) (n k : Nat) (hk : k < l.length) (hkn : k < n) (cut oth : Nat) (hc : (l[k]).cut.toNat = cut) (ho : (l[k]).oth.toNat = oth) (hcW : cut ≤ W) (hon : oth < n) (x : Nat)
    (hx : x = if oth = k then (cntK W (k : Int) l k + cut) % 18446744073709551616 else cntK W (oth : Int) l k) :
    ((cntRow W l n k).set k (.int .u64 (((cntK W (k : Int) l k + cut) % 18446744073709551616 : Nat) : Int))).set oth (.int .u64 (((x + (W - cut)) % 18446744073709551616 : Nat) : Int)) = cntRow W l n (k + 1) := by
  apply List.ext_getElem?
  intro j
  rcases Nat.lt_or_ge j n with hj | hj
  · rw [cntRow_get W l n (k + 1) j hj, cntK_succ W j l k hk, List.getElem?_set, List.getElem?_set, cntRow_get W l n k j hj]
    unfold cstep
    simp only [hc, ho, Nat.not_lt.2 hcW, if_false, List.length_set, cntRow_len, hon, hkn, if_true]
    subst hx
    by_cases h1 : oth = j
    · subst h1
      by_cases h2 : oth = k
      · subst h2; simp
      · have : ¬ k = oth := fun e => h2 e.symm
        have h3 : ¬ (k : Int) = (oth : Int) := by omega
        simp [this, h2, h3]
    · have h4 : ¬ (oth : Int) = (j : Int) := by omega
      rw [if_neg h1, if_neg h4]
      by_cases h2 : k = j
      · subst h2; simp
      · have h3 : ¬ (k : Int) = (j : Int) := by omega
        rw [if_neg h2, if_neg h3]
  · rw [List.getElem?_eq_none (by simp [cntRow_len]; omega), List.getElem?_eq_none (by rw [cntRow_len]; omega)]
theorem cgood_snoc (W n : Nat) (l : List GCell) (k : Nat) (hk : k < l.length) : cgood W n (l.take (k + 1)) = (cgood W n (l.take k) && (decide ((l[k]).cut.toNat ≤ W) && decide ((l[k]).oth.toNat < n))) := by
  unfold cgood
  rw [List.take_add_one, List.all_append, List.getElem?_eq_getElem hk]
  simp
theorem cgood_no (W n : Nat) (l : List GCell) (k : Nat) (hk : k < l.length) (h : ¬ ((l[k]).cut.toNat ≤ W ∧ (l[k]).oth.toNat < n)) : cgood W n l = false := by
  unfold cgood
  rw [Bool.eq_false_iff]
  intro hc
  have := List.all_eq_true.1 hc _ (List.getElem_mem hk)
  simp at this
  exact h this

set_option maxRecDepth 100000 in
set_option maxHeartbeats 3200000 in
theorem counts_any (w : World) (B : Nat) (v : Value) (l : List GCell) (W : Nat) (hW : W < 18446744073709551616) (hl : l.length ≤ 4294967296) (h : ByC w B v l) (hB : B ≤ w.heap.size) :
    Calls Tryz.prog 80 #[v, .int .u64 (W : Int)] w fun e w' => ∃ vo, e = .returned (.tuple #[vo, .bool (cgood W l.length l)]) ∧ (cgood W l.length l = true → vo = .slice (some ⟨w.heap.size, 0, none⟩) l.length l.length ∧ BoxAt 23 w' w.heap.size (cntRow W l l.length l.length)) ∧ Below w.heap.size w w' := by
  obtain ⟨A, c, rfl, hc1, hc2⟩ := h.form
  unfold maxLen at hc2
  have hlt := fun j => cntK_lt W j l
  have hno := fun k hk => cgood_no W l.length l k hk
  have hmk := make64 l W l.length hl
  have Hlt := Lib.hid hlt
  have Hno := Lib.hid hno
  clear hlt hno
  go_enter Tryz.func80, Tryz.ntmps80
  go_wp2_with fail
  have hbx0 := BoxAt.new_ 23 w (cntRow W l l.length 0)
  clear hmk
  go_loopw [14] (fun i wr => ∃ k : Nat, k ≤ l.length ∧ i = .int .i64 k ∧ BoxAt 23 wr w.heap.size (cntRow W l l.length k) ∧ cgood W l.length (l.take k) = true ∧ Below w.heap.size w wr) (fun i _ => l.length - (intOf i).toNat)
  case atStart => exact ⟨0, by omega, rfl, hbx0, rfl, balloc _ _⟩
  case round =>
    obtain ⟨k, hk, rfl, hbx, hgk, hbl⟩ := hrel
    have hbz := hbl.size
    have hblt := hbx.lt
    by_cases hlt : k < l.length
    · obtain ⟨ad, rfl, hab, hx0, hx1⟩ := (h.below (hbl.mono hB)).cells k hlt
      have hcu := u64_lt (l[k]).cut
      have hot := u32_lt (l[k]).oth
      have hgs := cgood_snoc W l.length l k hlt
      rw [hgk, Bool.true_and] at hgs
      have hno := Hno.out k hlt
      by_cases hgd : (l[k]).cut.toNat ≤ W ∧ (l[k]).oth.toNat < l.length
      · have hgg : cgood W l.length (l.take (k + 1)) = true := by rw [hgs]; simp [hgd.1, hgd.2]
        have hstp := cntRow_step W l l.length k hlt hlt _ _ rfl rfl hgd.1 hgd.2
        have hy0 := hbx.cell k _ (cntRow_get W l _ k k hlt)
        have hy1 := hbx.cell _ _ (cntRow_get W l _ k _ hgd.2)
        have hn0 := Hlt.out k k
        have hn1 := Hlt.out (l[k]).oth.toNat k
        obtain ⟨hg1, hg2⟩ := hgd
        clear hgs hno
        have Hgg := Lib.hid hgg
        have Hstp := Lib.hid hstp
        have hbw := Lib.hid hbx
        clear hgg hstp hgk
        generalize (l[k]).cut.toNat = cut at *
        generalize (l[k]).oth.toNat = oth at *
        have hd1 : decide (W < cut) = false := decide_eq_false (by omega)
        have hd2 : decide (l.length ≤ oth) = false := decide_eq_false (by omega)
        go_wp2_with fail
        have hbxA := hbx.alloc (.cells #[.int .u64 (cut : Int), .int .u32 (oth : Int)] 106)
        have hcA := BoxAt.new_ 106 wr [.int .u64 (cut : Int), .int .u32 (oth : Int)]
        have ha0 := hbxA.cell k _ (cntRow_get W l _ k k hlt)
        have haf := hbxA.frozen k
        have hc0 := hcA.cell 0 _ rfl
        have hc1 := hcA.cell 1 _ rfl
        have Hbx := Lib.hid hbxA
        have HcA := Lib.hid hcA
        have HbA := Lib.hid (hbl.trans ((balloc wr (.cells #[.int .u64 (cut : Int), .int .u32 (oth : Int)] 106)).mono hbz))
        have e1 : IntKind.u64.wrap (((cntK W (k : Int) l k : Nat) : Int) + (cut : Int)) = (((cntK W (k : Int) l k + cut) % 18446744073709551616 : Nat) : Int) := by rw [wrap_u64]; omega
        obtain ⟨x, hx⟩ : ∃ x, x = if oth = k then (cntK W (k : Int) l k + cut) % 18446744073709551616 else cntK W (oth : Int) l k := ⟨_, rfl⟩
        have hstp2 := Hstp.out x hx
        have hxlt : x < 18446744073709551616 := by rw [hx]; split <;> omega
        have hget : ((cntRow W l l.length k).set k (.int .u64 (((cntK W (k : Int) l k + cut) % 18446744073709551616 : Nat) : Int)))[oth]? = some (.int .u64 (x : Int)) := by
          rw [List.getElem?_set, cntRow_get W l _ k _ hg2, cntRow_len, hx]
          by_cases hko : oth = k
          · subst hko; simp [hlt]
          · rw [if_neg (fun e => hko e.symm), if_neg hko]
        have Hget := Lib.hid hget
        have Hstp2 := Lib.hid hstp2
        have E1 := Lib.hid e1
        clear hbxA hcA hbx hy0 hy1 hbl hx0 hx1 hbw Hstp hx hget hstp2 e1
        generalize cntK W (k : Int) l k = n at *
        generalize cntK W (oth : Int) l k = m at *
        generalize wr.alloc (.cells #[.int .u64 (cut : Int), .int .u32 (oth : Int)] 106) = wa at *
        generalize wr.heap.size = gc at *
        go_region
        rw [E1.out]
        have hbx1 := Hbx.out.put k (.int .u64 (((n + cut) % 18446744073709551616 : Nat) : Int))
        have hcA1 := HcA.out.other ⟨w.heap.size, k, none⟩ (.int .u64 (((n + cut) % 18446744073709551616 : Nat) : Int)) (by show w.heap.size ≠ gc; omega)
        have hb1 : Below w.heap.size w (wa.setCell ⟨w.heap.size, k, none⟩ (.int .u64 (((n + cut) % 18446744073709551616 : Nat) : Int))).drew := (HbA.out.setCell (p := ⟨w.heap.size, k, none⟩) (Nat.le_refl _) _).drew
        clear ha0 haf hc0 hc1
        generalize (n + cut) % 18446744073709551616 = nc at *
        replace hbx1 : BoxAt 23 (wa.setCell ⟨w.heap.size, k, none⟩ (.int .u64 (nc : Int))).drew w.heap.size _ := hbx1
        replace hcA1 : BoxAt 106 (wa.setCell ⟨w.heap.size, k, none⟩ (.int .u64 (nc : Int))).drew gc _ := hcA1
        generalize (wa.setCell ⟨w.heap.size, k, none⟩ (.int .u64 (nc : Int))).drew = wb at *
        have ha0 := hbx1.cell oth _ Hget.out
        have haf := hbx1.frozen oth
        have hc0 := hcA1.cell 0 _ rfl
        have hc1 := hcA1.cell 1 _ rfl
        have Hbx1 := Lib.hid hbx1
        have Hb1 := Lib.hid hb1
        have e2 : IntKind.u64.wrap ((x : Int) + ((W : Int) - (cut : Int))) = (((x + (W - cut)) % 18446744073709551616 : Nat) : Int) := by rw [wrap_u64]; omega
        have E2 := Lib.hid e2
        clear hbx1 hcA1 hb1 Hbx HcA HbA Hget e2
        go_wp2_with fail
        go_region
        rw [E2.out]
        go_wp2_with fail
        go_roundw
        case rel => exact ⟨k + 1, by omega, by go_num, by rw [← Hstp2.out]; exact Hbx1.out.put oth _, Hgg.out, (Hb1.out.setCell (p := ⟨w.heap.size, oth, none⟩) (Nat.le_refl _) _).drew⟩
        case measure => simp [intOf]; omega
      · have hf := Lib.hid (hno hgd)
        clear hno hgs hgk hbx
        generalize (l[k]).cut.toNat = cut at *
        generalize (l[k]).oth.toNat = oth at *
        have hcs : decide (W < cut) = true ∨ (decide (W < cut) = false ∧ decide (l.length ≤ oth) = true) := by
          by_cases h1 : W < cut
          · left; exact decide_eq_true h1
          · right; exact ⟨decide_eq_false h1, decide_eq_true (by omega)⟩
        clear hgd
        rcases hcs with h1 | ⟨h1, h2⟩
        all_goals
          go_wp2_with fail
          go_ret2
          rw [hf.out]
          exact ⟨_, rfl, fun e => by simp at e, hbl.trans ((balloc _ _).mono hbz)⟩
    · obtain rfl : k = l.length := by omega
      rw [List.take_length] at hgk
      go_wp2_with fail
      go_ret2
      rw [hgk]
      exact ⟨_, rfl, fun _ => ⟨rfl, hbx⟩, hbl⟩
end Go.Proofs.YtcffeepgfjpcaaaGreat

namespace Go.Proofs.YtcffeepgfjpcaaaGreat
set_option linter.unusedSimpArgs false
set_option linter.unusedVariables false
open Go.RowKit

def nbrs (l : List GArc) : Bool := decide (0 < l.length) && gmay l
/-- is a table right? -/
def mayOk (l : List GArc) (t : List GCell) : Bool :=
  nbrs l && (decide (l.length = t.length) && (cgood (gsum l) t.length t && (List.range l.length).all fun i => decide (cnt (gsum l) (i : Int) t = l.length * ((l[i]?).getD ⟨0, 0⟩).wt.toNat)))

theorem mayOk_no1 {l : List GArc} {t : List GCell} (h : nbrs l = false) : mayOk l t = false := by simp [mayOk, h]
theorem mayOk_no2 {l : List GArc} {t : List GCell} (h : l.length ≠ t.length) : mayOk l t = false := by simp [mayOk, h]
theorem mayOk_no3 {l : List GArc} {t : List GCell} (h : cgood (gsum l) t.length t = false) : mayOk l t = false := by simp [mayOk, h]
theorem mayOk_no4 {l : List GArc} {t : List GCell} (k : Nat) (hk : k < l.length) (h : cnt (gsum l) (k : Int) t ≠ l.length * (l[k]).wt.toNat) : mayOk l t = false := by
  unfold mayOk
  have : ((List.range l.length).all fun i => decide (cnt (gsum l) (i : Int) t = l.length * ((l[i]?).getD ⟨0, 0⟩).wt.toNat)) = false := by
    rw [Bool.eq_false_iff]
    intro hc
    have := List.all_eq_true.1 hc k (List.mem_range.2 hk)
    rw [List.getElem?_eq_getElem hk] at this
    simp at this
    exact h this
  rw [this]
  simp
theorem mayOk_yes {l : List GArc} {t : List GCell} (h1 : nbrs l = true) (h2 : l.length = t.length) (h3 : cgood (gsum l) t.length t = true) (h4 : ∀ k (hk : k < l.length), cnt (gsum l) (k : Int) t = l.length * (l[k]).wt.toNat) : mayOk l t = true := by
  unfold mayOk
  rw [h1, h3, decide_eq_true h2]
  simp only [Bool.true_and, List.all_eq_true, List.mem_range, decide_eq_true_eq]
  intro i hi
  rw [List.getElem?_eq_getElem hi]
  exact h4 i hi

end Go.Proofs.YtcffeepgfjpcaaaGreat

namespace Go.Proofs.YtcffeepgfjpcaaaGreat
set_option linter.unusedSimpArgs false
set_option linter.unusedVariables false
open Go.RowKit

set_option maxRecDepth 100000 in
set_option maxHeartbeats 3200000 in
theorem amay_any (w : World) (B B2 : Nat) (v v2 : Value) (l : List GArc) (t : List GCell) (hl : l.length ≤ 4294967296) (ht : t.length ≤ 4294967296) (h : ByA w B v l) (h2 : ByC w B2 v2 t) (hB : B ≤ w.heap.size) (hB2 : B2 ≤ w.heap.size) :
    Calls Tryz.prog 51 #[v, v2] w fun e w' => e = .returned (.bool (mayOk l t)) ∧ Below w.heap.size w w' := by
  obtain ⟨A, c, rfl, hc1, hc2⟩ := h.form
  obtain ⟨A2, c2, rfl, hd1, hd2⟩ := h2.form
  unfold maxLen at hc2 hd2
  have hmy := gmay_any w B _ l hl h hB
  have hS := gsum_lt l
  have hSS : gsum l < 18446744073709551616 := by omega
  have hsum := fun W h hW => gsum_any W B (.slice A l.length c) l hl h hW
  have hcn := fun W h hW => counts_any W B2 (.slice A2 t.length c2) t (gsum l) hSS ht h hW
  have hno1 := @mayOk_no1 l t
  have hno2 := @mayOk_no2 l t
  have hno3 := @mayOk_no3 l t
  have hno4 := @mayOk_no4 l t
  have hyes := @mayOk_yes l t
  have hcl := fun j => cntK_lt (gsum l) j t t.length
  have Hmy := Lib.hid hmy
  have Hsum := Lib.hid hsum
  have Hcn := Lib.hid hcn
  have Hno1 := Lib.hid hno1
  have Hno2 := Lib.hid hno2
  have Hno3 := Lib.hid hno3
  have Hno4 := Lib.hid hno4
  have Hyes := Lib.hid hyes
  have Hcl := Lib.hid hcl
  clear hmy hsum hcn hno1 hno2 hno3 hno4 hyes hS hcl
  by_cases h0 : 0 < l.length
  · have hz1 : ((l.length : Int) == 0) = false := beq_eq_false_iff_ne.2 (by omega)
    have hz2 : (l.length == 0) = false := beq_eq_false_iff_ne.2 (by omega)
    have Hz := Lib.hid h0
    clear h0
    by_cases hlt : l.length = t.length
    · have Hlt := Lib.hid hlt
      have hle2 : ((l.length : Int) != (t.length : Int)) = false := by simp [hlt]
      have hle1 : ((l.length : Int) == (t.length : Int)) = true := by simp [hlt]
      clear hlt
      go_enter Tryz.func51, Tryz.ntmps51
      go_wp2_with fail
      refine Hmy.out.mono ?_
      rintro _ w1 ⟨rfl, hb1⟩
      cases hm : gmay l with
      | false =>
        have hf := Lib.hid (Hno1.out (by unfold nbrs; rw [hm, Bool.and_false]))
        clear hm
        go_wp2_with fail
        go_ret
        rw [hf.out]
        exact ⟨rfl, hb1⟩
      | true =>
        have Hnb : nbrs l = true := by unfold nbrs; rw [hm, decide_eq_true Hz.out]; rfl
        have hnb := Lib.hid Hnb
        clear hm Hnb
        go_wp2_with fail
        refine (Hsum.out w1 (h.below (hb1.mono hB)) (Nat.le_trans hB hb1.size)).mono ?_
        rintro _ w2 ⟨rfl, hb2⟩
        have hb02 := bstep hb1 hb2
        go_wp2_with fail
        refine (Hcn.out w2 (ByC.below h2 (hb02.mono hB2)) (Nat.le_trans hB2 hb02.size)).mono ?_
        rintro _ w3 ⟨vo, rfl, hvo, hb3⟩
        have hb03 := bstep hb02 hb3
        cases hg : cgood (gsum l) t.length t with
        | false =>
          have hf := Lib.hid (Hno3.out hg)
          clear hg hvo
          go_wp2_with fail
          go_loopw [6, 7] (fun o i wr => o = .bool false ∧ i = .int .i64 0 ∧ wr = w3) (fun _ _ _ => 0)
          case atStart => exact ⟨rfl, rfl, rfl⟩
          case round =>
            obtain ⟨rfl, rfl, rfl⟩ := hrel
            go_wp2_with fail
            go_ret
            rw [hf.out]
            exact ⟨rfl, hb03⟩
        | true =>
          obtain ⟨rfl, hbx⟩ := hvo hg
          have Hgk := Lib.hid hg
          clear hg hvo
          go_wp2_with fail
          go_loopw [6, 7] (fun o i wr => ∃ (k : Nat) (ob : Bool), k ≤ l.length ∧ o = .bool ob ∧ i = .int .i64 k ∧ (if ob = true then (∀ j (hj : j < k) (hl : j < l.length), cnt (gsum l) (j : Int) t = l.length * (l[j]).wt.toNat) else mayOk l t = false) ∧ ∃ q, wr = w3.drewN q) (fun _ i _ => l.length - (intOf i).toNat)
          case atStart => exact ⟨0, true, by omega, rfl, rfl, fun j hj => absurd hj (Nat.not_lt_zero _), 0, rfl⟩
          case round =>
            obtain ⟨k, ob, hk, rfl, rfl, hall, q, rfl⟩ := hrel
            cases ob with
            | false =>
              have hf := Lib.hid (show mayOk l t = false by simpa using hall)
              clear hall
              go_wp2_with fail
              go_ret
              rw [hf.out]
              exact ⟨rfl, bdrewN hb03 q⟩
            | true =>
              rw [if_pos rfl] at hall
              have Hall := Lib.hid hall
              clear hall
              by_cases hkl : k < l.length
              · obtain ⟨ad, rfl, hab, hx0, hx1⟩ := ByA.cells (h.below (hb03.mono hB)) k hkl
                have hwt := u32_lt (l[k]).wt
                have hno := Hno4.out k hkl
                have hkt : k < t.length := by have := Hlt.out; omega
                have hcnk : cnt (gsum l) (k : Int) t < 18446744073709551616 := Hcl.out k
                have hmb : l.length * (l[k]).wt.toNat ≤ 4294967296 * 4294967295 := Nat.mul_le_mul hl (by omega)
                have hmul : IntKind.u64.wrap ((l.length : Int) * ((l[k]).wt.toNat : Int)) = ((l.length * (l[k]).wt.toNat : Nat) : Int) := by
                  rw [← Int.natCast_mul, wrap_u64]; omega
                have hrd : w3.cell? { block := w2.heap.size, off := k } = some (.int .u64 ((cnt (gsum l) (k : Int) t : Nat) : Int)) := hbx.cell k _ (cntRow_get (gsum l) t _ t.length k hkt)
                have hbd : decide ((k : Int) < (t.length : Int)) = true := by simp; omega
                by_cases he : cnt (gsum l) (k : Int) t = l.length * (l[k]).wt.toNat
                · have hn2 : (((cnt (gsum l) (k : Int) t : Nat) : Int) == ((l.length * (l[k]).wt.toNat : Nat) : Int)) = true := by rw [he]; simp
                  have hrel2 : ∀ j (hj : j < k + 1) (hl : j < l.length), cnt (gsum l) (j : Int) t = l.length * (l[j]).wt.toNat := fun j hj hl => by
                    rcases Nat.lt_or_ge j k with h | h
                    · exact Hall.out j h hl
                    · obtain rfl : j = k := by omega
                      exact he
                  have Hrel2 := Lib.hid hrel2
                  clear hno he hrel2
                  generalize (l[k]).wt.toNat = wt at *
                  generalize hpp : l.length * wt = p at *
                  generalize hcc : cnt (gsum l) (k : Int) t = cv at *
                  clear hpp hcc
                  go_wp2_with fail
                  go_quiet (fail)
                  go_wp2_with fail
                  go_roundw
                  case rel => exact ⟨k + 1, true, by omega, rfl, by go_num, Hrel2.out, q + nq, by simp⟩
                  case measure => simp [intOf]; omega
                · have hf := Lib.hid (hno he)
                  have hn2 : (((cnt (gsum l) (k : Int) t : Nat) : Int) == ((l.length * (l[k]).wt.toNat : Nat) : Int)) = false := by simp; omega
                  clear hno he
                  generalize (l[k]).wt.toNat = wt at *
                  generalize hpp : l.length * wt = p at *
                  generalize hcc : cnt (gsum l) (k : Int) t = cv at *
                  clear hpp hcc
                  go_wp2_with fail
                  go_quiet (fail)
                  go_wp2_with fail
                  go_roundw
                  case rel => exact ⟨k + 1, false, by omega, rfl, by go_num, by simpa using hf.out, q + nq, by simp⟩
                  case measure => simp [intOf]; omega
              · obtain rfl : k = l.length := by omega
                have hf := Lib.hid (Hyes.out hnb.out Hlt.out Hgk.out (fun j hj => Hall.out j hj hj))
                go_wp2_with fail
                go_ret
                rw [hf.out]
                exact ⟨rfl, bdrewN hb03 q⟩
    · have hf := Lib.hid (Hno2.out hlt)
      have hle1 : ((l.length : Int) == (t.length : Int)) = false := beq_eq_false_iff_ne.2 (by omega)
      have hle2 : ((l.length : Int) != (t.length : Int)) = true := by simp; omega
      clear hlt
      go_enter Tryz.func51, Tryz.ntmps51
      go_wp2_with fail
      go_ret
      rw [hf.out]
      exact ⟨rfl, Below.refl _ _⟩
  · have hz : l.length = 0 := by omega
    have hf := Lib.hid (Hno1.out (by unfold nbrs; rw [hz]; rfl))
    have hz1 : ((l.length : Int) == 0) = true := by simp [hz]
    have hz2 : (l.length == 0) = true := by simp [hz]
    clear h0 hz
    go_enter Tryz.func51, Tryz.ntmps51
    go_wp2_with fail
    go_ret
    rw [hf.out]
    exact ⟨rfl, Below.refl _ _⟩
end Go.Proofs.YtcffeepgfjpcaaaGreat

namespace Go.Proofs.YtcffeepgfjpcaaaGreat
set_option linter.unusedSimpArgs false
set_option linter.unusedVariables false
open Go.RowKit
section
variable {α : Type} {E : TypeId} {C : Cdc α} {w w' : World} {base : Nat} {O S S' : Nat → Prop} {v : Value} {xs : List α}
theorem wp_appR {o : Oper} {a : Act} {K : Act → World → Prop} {Q : Exit → Act → World → Prop} (s x : Operand) (t : TypeId)
    (ho : o.op = .call { callee := .builtin .append, args := #[s, x], argTypes := #[t, t] })
    (ht : Tryz.prog.underlying t = some (.slice E)) {z : Value} {bytes : Nat} (hinfo : (Tryz.prog.info? E).map (fun i => (i.zero, i.size, i.bytes)) = some (some z, C.n, bytes)) (hz2 : z.cells.size = C.n) (hn0 : 0 < C.n) (hb0 : bytes ≤ 256)
    {v2 : Value} {ys : List α} (hown : OwnR E C w base S v xs) (hrd : RowOn C w O S v2 ys) (hs : a.eval s = v) (hx : a.eval x = v2)
    (hsz : xs.length + ys.length ≤ 549755813888) (hbase : base ≤ w.heap.size)
    (h : ∀ v' w', OwnR E C w' base S v' (xs ++ ys) → Ext w w' v v' → K (a.put o.dst v') w') : Oper.wp Tryz.prog o a w K Q := by
  obtain ⟨i, hi, hz0, hz1, hby⟩ := info_parts hinfo
  obtain ⟨css, hl, h2, h3, h4⟩ := hown
  have hcl := OwnR.clen hl h3
  obtain ⟨A, c, rfl, hc1, hc2, hcell⟩ := hrd
  -- the cells of the source
  obtain ⟨dss, hdl, hd3, hdr⟩ : ∃ dss : List (List Value), dss.length = ys.length ∧ (∀ (i : Nat) (cs : List Value) (y : α), dss[i]? = some cs → ys[i]? = some y → C.at_ w S cs y) ∧
      ∃ B, Rd w B C.n A ys.length dss.flatten := by
    rcases Nat.eq_zero_or_pos ys.length with h0 | h0
    · have : ys = [] := List.eq_nil_of_length_eq_zero h0
      subst this
      exact ⟨[], rfl, fun i cs y h => by simp at h, 0, by simp [Rd]⟩
    · obtain ⟨ad, rfl, _, hc⟩ := hcell h0
      have hex : ∀ i : Fin ys.length, ∃ cs, C.at_ w S cs (ys[i.1]'i.2) ∧ ∀ (j : Nat) (u : Value), cs[j]? = some u → w.cell? (ad.add (i.1 * C.n + j)) = some u := fun i => hc i.1 _ (List.getElem?_eq_getElem i.2)
      refine ⟨List.ofFn fun i => (hex i).choose, by simp, ?_, ad.block + 1, ?_⟩
      · intro i cs y hcs hy
        obtain ⟨hi', rfl⟩ := List.getElem?_eq_some_iff.1 hy
        rw [List.getElem?_ofFn, dif_pos hi'] at hcs
        injection hcs with hcs
        rw [← hcs]
        exact (hex ⟨i, hi'⟩).choose_spec.1
      · have hcl2 : ∀ cs ∈ (List.ofFn fun i => (hex i).choose), cs.length = C.n := by
          intro cs hcs
          obtain ⟨i, rfl⟩ := List.mem_ofFn.1 hcs
          exact C.len (hex i).choose_spec.1
        refine ⟨by rw [flat_len C.n _ hcl2]; simp, fun _ => ⟨ad, rfl, Nat.lt_succ_self _, fun j u hu => ?_⟩⟩
        have hj : j < ys.length * C.n := by
          have := (List.getElem?_eq_some_iff.1 hu).1
          rw [flat_len C.n _ hcl2] at this
          simpa using this
        have hi' : j / C.n < ys.length := Nat.div_lt_of_lt_mul (by rw [Nat.mul_comm]; exact hj)
        have hj2 : j % C.n < C.n := Nat.mod_lt _ hn0
        have hdm : j / C.n * C.n + j % C.n = j := by rw [Nat.mul_comm]; exact Nat.div_add_mod j C.n
        have := flat_get C.n _ hcl2 (j / C.n) (hex ⟨j / C.n, hi'⟩).choose (j % C.n) (by rw [List.getElem?_ofFn, dif_pos hi']) hj2
        rw [hdm, hu] at this
        have := (hex ⟨j / C.n, hi'⟩).choose_spec.2 (j % C.n) u this.symm
        rwa [hdm] at this
  obtain ⟨B, hrd⟩ := hdr
  have hcl2 := OwnR.clen hdl hd3
  obtain ⟨v', w', hr, g2, g3, g5⟩ := run_append_rd (P := Tryz.prog) w base t o.type E i z C.n bytes ht hi hz0 hz1 hby hz2 hn0 v xs.length css.flatten h2 B A ys.length c dss.flatten hrd (by
      intro u hu
      obtain ⟨cs, hcs, hu⟩ := List.mem_flatten.1 hu
      obtain ⟨i, hi', rfl⟩ := List.mem_iff_getElem.1 hcs
      exact C.one (hd3 i _ (ys[i]'(by omega)) (List.getElem?_eq_getElem hi') (List.getElem?_eq_getElem (by omega))) u hu)
    (by unfold maxLen; omega) (by
      calc (xs.length + ys.length) * bytes ≤ 549755813888 * 256 := Nat.mul_le_mul hsz hb0
        _ ≤ _ := by decide) hbase
  unfold Oper.wp execOp
  simp only [ho, resolve, invoke, builtin, Sem.run_bind, Sem.run_pure, Result.andThen_ok, List.map_toArray, List.map_cons, List.map_nil, hs, hx, hr]
  have hSame : ∀ p : Addr, S p.block → w'.cell? p = w.cell? p := fun p hp => World.cell?_of_block (g3.block p.block (h4 _ hp).1 (fun e => (h4 _ hp).2 e.symm))
  refine (h v' w' ⟨css ++ dss, by simp [hl, hdl], by rw [List.length_append, List.flatten_append]; exact g2, ?_, ?_⟩ ⟨g3, ?_⟩)
  · intro j cs x hc hx'
    refine C.keep ?_ hSame
    rcases Nat.lt_or_ge j xs.length with hj | hj
    · rw [List.getElem?_append_left (by omega)] at hc
      rw [List.getElem?_append_left hj] at hx'
      exact h3 j cs x hc hx'
    · rw [List.getElem?_append_right (by omega)] at hc
      rw [List.getElem?_append_right hj, ← hl] at hx'
      exact hd3 _ cs x hc hx'
  · intro k hk
    refine ⟨Nat.lt_of_lt_of_le (h4 k hk).1 g3.size, ?_⟩
    rcases g5 with g5 | g5
    · rw [g5]; exact (h4 k hk).2
    · rw [g5]; intro e; injection e with e; have := (h4 k hk).1; omega
  · rcases g5 with g5 | g5
    · exact .inl g5
    · exact .inr fun k hk => by rw [g5] at hk; injection hk with hk; omega


end
/-- append(s, y), y in a block of its own, at a step -/
theorem step_app1R {α : Type} {E : TypeId} {C : Cdc α} {S : Nat → Prop} {ops : Array Oper} {o : Oper} {a : Act} {w : World} {K : Act → World → Prop} {Q : Exit → Act → World → Prop} {E0 : Prop} (hgd : o.guard = none) (s x : Operand) (t : TypeId)
    (ho : o.op = .call { callee := .builtin .append, args := #[s, x], argTypes := #[t, t] })
    (ht : Tryz.prog.underlying t = some (.slice E)) {z : Value} {bytes : Nat} (hinfo : (Tryz.prog.info? E).map (fun i => (i.zero, i.size, i.bytes)) = some (some z, C.n, bytes)) (hz2 : z.cells.size = C.n) (hn0 : 0 < C.n) (hb0 : bytes ≤ 256)
    {base g : Nat} {v : Value} {xs : List α} {y : α} (cs : List Value) (hown : OwnR E C w base S v xs) (hy : C.at_ w S cs y) (hg : BoxAt E w g cs) (hs : a.eval s = v) (hx : a.eval x = .slice (some ⟨g, 0, none⟩) 1 1)
    (hsz : xs.length ≤ 549755813887) (hbase : base ≤ w.heap.size)
    (h : ∀ v' w', OwnR E C w' base S v' (xs ++ [y]) → Ext w w' v v' → K (a.put o.dst v') w') :
    if Region.wanted o (yielded ops a.tmps) = true then Oper.wp Tryz.prog o a w K Q else E0 := by
  have hw : Region.wanted o (yielded ops a.tmps) = true := by simp [Region.wanted, hgd]
  rw [if_pos hw]
  have hrow : RowOn C w (fun k => k < w.heap.size) S (.slice (some ⟨g, 0, none⟩) 1 1) [y] := by
    refine ⟨_, 1, rfl, Nat.le_refl _, by simp [maxLen], fun _ => ⟨_, rfl, hg.lt, fun i y' hi => ?_⟩⟩
    match i, hi with
    | 0, hi =>
      injection hi with hi
      subst hi
      refine ⟨cs, hy, fun j u hu => ?_⟩
      rw [Nat.zero_mul, Nat.zero_add]
      exact hg.cells j u hu
    | i + 1, hi => simp at hi
  exact wp_appR s x t ho ht hinfo hz2 hn0 hb0 hown hrow hs hx (by simp; omega) hbase h
end Go.Proofs.YtcffeepgfjpcaaaGreat
