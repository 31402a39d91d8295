/- pick.fronts: an iterator over neighbours; what a round keeps -/
import Derived.Test.YteakeefocnjlhaaPick2
import Derived.RangeFuncNested
import Derived.RangeFuncBound
import Derived.RangeFuncCalls
import Derived.RangeFuncLeaves
import Derived.RangeFuncBox
import Derived.Shelf.Abstract
import Derived.Shelf.RegionOpen
import Derived.WalkKit
import Derived.OwnWalkIn
import Derived.TacticsInMore
import Derived.LoopNIn
import Derived.LoopIn
namespace Go.Proofs.Yteakeefocnjlhaa
set_option linter.unusedSimpArgs false
set_option linter.unusedVariables false
open Go.RowKit Go.Shelf
attribute [local go_sem] Oper.semAt_some

/-- what a round keeps: each block of cells, but those of B -/
structure Kp (B : Nat → Prop) (W W' : World) : Prop where
  size : W.heap.size ≤ W'.heap.size
  same : ∀ (k : Nat) (o : Obj), ¬ B k → W.heap[k]? = some o → o.isCells = true → W'.heap[k]? = some o
section
variable {B : Nat → Prop} {W W' W'' : World}
theorem Kp.refl (B : Nat → Prop) (W : World) : Kp B W W := ⟨Nat.le_refl _, fun _ _ _ h _ => h⟩
theorem Kp.trans (h : Kp B W W') (k : Kp B W' W'') : Kp B W W'' := ⟨Nat.le_trans h.size k.size, fun i o hi h1 h2 => k.same i o hi (h.same i o hi h1 h2) h2⟩
theorem Kp.putObj (B : Nat → Prop) (m : Nat) (W : World) (l : Nat) (o o' : Obj) (_ : m ≤ l) (ho : W.heap[l]? = some o) (hc : o.isCells = false) (_ : o.isWalk = false) : Kp B W (W.putObj l o') :=
  ⟨(grownBy_putObj' W l o').size, fun k q _ hk hq => by
    have hne : k ≠ l := fun e => by subst e; rw [ho] at hk; injection hk with hk; subst hk; rw [hc] at hq; cases hq
    exact ((grownBy_putObj' W l o').block k (Array.getElem?_eq_some_iff.1 hk).1 (fun e => hne (by injection e))).trans hk⟩
theorem Kp.ofGrown {row : Option Nat} (h : W.grownBy W' row) (hr : ∀ k, row = some k → B k) : Kp B W W' :=
  ⟨h.size, fun k o hb hk _ => (h.block k (Array.getElem?_eq_some_iff.1 hk).1 (fun e => hb (hr k e.symm))).trans hk⟩
theorem Kp.set (W : World) (p : Addr) (u : Value) (h : B p.block) : Kp B W (W.setCell p u) := Kp.ofGrown (gset W p u) fun k e => by injection e with e; rw [← e]; exact h
theorem Kp.alloc (B : Nat → Prop) (W : World) (o : Obj) : Kp B W (W.alloc o) := Kp.ofGrown (gbelow (balloc W o) none) fun _ e => by cases e
theorem Kp.drew (B : Nat → Prop) (W : World) : Kp B W W.drew := ⟨Nat.le_refl _, fun _ _ _ h _ => h⟩
theorem Kp.drewN (B : Nat → Prop) (W : World) (n : Nat) : Kp B W (W.drewN n) := ⟨Nat.le_refl _, fun _ _ _ h _ => h⟩
theorem Kp.ofBelow (h : Below W.heap.size W W') : Kp B W W' := Kp.ofGrown (gbelow h none) fun _ e => by cases e
theorem Kp.cell (h : Kp B W W') {p : Addr} {v : Value} (hp : W.cell? p = some v) (hb : ¬ B p.block) : W'.cell? p = some v := by
  cases ho : W.heap[p.block]? with
  | none => simp [World.cell?, ho] at hp
  | some o =>
    cases o with
    | cells c e fr =>
      have := h.same _ _ hb ho rfl
      simp only [World.cell?, ho] at hp
      simp only [World.cell?, this]
      exact hp
    | _ => simp [World.cell?, ho] at hp
theorem Kp.row {α : Type} {C : Cdc α} {B0 : Nat} {v : Value} {l : List α} (hC : ∀ w cs x, C.at_ w (fun _ => True) cs x → C.at_ W' (fun _ => True) cs x) (hk : Kp B W W') (hB : ∀ k, B k → B0 ≤ k) (h : RowOn C W (fun k => k < B0) (fun _ => True) v l) : RowOn C W' (fun k => k < B0) (fun _ => True) v l := by
  obtain ⟨A, c, h1, h2, h3, h4⟩ := h
  refine ⟨A, c, h1, h2, h3, fun hn => ?_⟩
  obtain ⟨ad, e, hb', hc⟩ := h4 hn
  refine ⟨ad, e, hb', fun i x hx => ?_⟩
  obtain ⟨cs, ha, hcs⟩ := hc i x hx
  exact ⟨cs, hC _ _ _ ha, fun j u hu => hk.cell (hcs j u hu) fun hb => by have := hB _ hb; rw [add_block] at this; omega⟩
theorem Kp.byA {B0 : Nat} {v : Value} {l : List GArc} (hk : Kp B W W') (hB : ∀ k, B k → B0 ≤ k) (h : ByA W B0 v l) : ByA W' B0 v l := Kp.row (fun _ _ _ h => h) hk hB h
theorem Kp.byC {B0 : Nat} {v : Value} {l : List GCell} (hk : Kp B W W') (hB : ∀ k, B k → B0 ≤ k) (h : ByC W B0 v l) : ByC W' B0 v l := Kp.row (fun _ _ _ h => h) hk hB h
theorem Kp.box {T : TypeId} {g : Nat} {cs : List Value} (hk : Kp B W W') (hb : ¬ B g) (h : BoxAt T W g cs) : BoxAt T W' g cs := hk.same g _ hb h rfl
end

/-- what has come when k rounds are over -/
def upto {α : Type} (f : Nat → α) (k : Nat) : List α := (List.range k).map f
theorem upto_succ {α : Type} (f : Nat → α) (k : Nat) : upto f (k + 1) = upto f k ++ [f k] := by simp [upto, List.range_succ]
theorem upto_length {α : Type} (f : Nat → α) (k : Nat) : (upto f k).length = k := by simp [upto]
theorem upto_mem {α : Type} (f : Nat → α) (k : Nat) (x : α) : x ∈ upto f k ↔ ∃ j, j < k ∧ f j = x := by simp [upto]

/-- a neighbour, and where its interval begins -/
def frontAt (l : List GArc) (k : Nat) : Nat := l.length * gsum (l.take k)
def frontP (l : List GArc) (k : Nat) : Nat × Nat := (k, frontAt l k)
theorem frontAt_succ (l : List GArc) (k : Nat) (hk : k < l.length) : frontAt l (k + 1) = frontAt l k + l.length * (l[k]).wt.toNat := by
  unfold frontAt; rw [gsum_snoc l k hk, Nat.mul_add]

set_option maxRecDepth 100000 in
set_option maxHeartbeats 1000000 in
theorem fronts_in (F : Fence) (n : Nat) (h1 : F.fn 79) (hro : F.round = none) (A : Option Addr) (len cap : Nat) (w : World) :
    CallsIn F n Try.prog 79 #[.slice A len cap] w fun e w' => e = .returned (.func (.func 87) #[] #[.pointer (some ⟨w.heap.size, 0, none⟩)]) ∧ w' = w.alloc (.cells #[.slice A len cap] 32) := by
  refine callsIn_of_wp Try.func79 rfl h1 ?_ hro
  simp only [Try.ntmps79, List.size_toArray, List.length_cons, List.length_nil, Nat.reduceAdd, Nat.reduceSub, Array.replicate_succ, Array.replicate_zero, List.push_toArray, List.append_toArray, List.nil_append, List.cons_append]
  gi_wp2
  go_ret
  exact ⟨rfl, rfl⟩

set_option maxRecDepth 100000 in
set_option maxHeartbeats 3200000 in
theorem fronts1_in (F : Fence) (n : Nat) (h7 : F.fn 87) (hro : F.round = none) (hn : 1 ≤ n) (l Bs B0 : Nat) (B : Nat → Prop) (A : Option Addr) (cap : Nat) (xs : List GArc) (hl : xs.length ≤ 1048576) (hs : gsum xs ≤ 2147483647) (J Jx : List (Nat × Nat) → World → Prop)
    (hBs : ¬ B Bs) (hBB : ∀ k, B k → B0 ≤ k)
    (hY : ∀ pre x W, J pre W → pre.length < xs.length → YieldAt F (n - 1) Try.prog l #[.int .i64 (x.1 : Int), .int .u64 (x.2 : Int)] W fun e W' =>
      (e = .returned (.bool true) ∧ J (pre ++ [x]) W' ∧ Kp B W W') ∨ (e = .returned (.bool false) ∧ Jx (pre ++ [x]) W'))
    (W : World) (hBW : ∀ k, B k → k < W.heap.size) (hJ : AbidesFrom W.heap.size J) (hc : W.cell? ⟨Bs, 0, none⟩ = some (.slice A xs.length cap)) (hrow : ByA W B0 (.slice A xs.length cap) xs) (h0 : J [] W) :
    CallsIn F n Try.prog 87 #[.func (.yield l) #[] #[], .pointer (some ⟨Bs, 0, none⟩)] W fun e W' => (∃ v, e = .returned v) ∧
      ((∃ ys, ys = upto (frontP xs) xs.length ∧ J ys W') ∨ (∃ pre, (∃ k, k ≤ xs.length ∧ pre = upto (frontP xs) k) ∧ Jx pre W')) := by
  obtain ⟨_, hc1, hc2⟩ := hrow.len_
  unfold maxLen at hc2
  have hfs := frontAt_succ xs
  have hft : ∀ k, frontAt xs k ≤ 1048576 * 2147483647 := fun k => Nat.mul_le_mul hl (Nat.le_trans (gsum_take_le xs k) hs)
  have Hfs := Lib.hid hfs
  have Hft := Lib.hid hft
  clear hfs hft
  refine callsIn_of_wp Try.func87 rfl h7 ?_ hro
  simp only [Try.ntmps87, List.size_toArray, List.length_cons, List.length_nil, Nat.reduceAdd, Nat.reduceSub, Array.replicate_succ, Array.replicate_zero, List.push_toArray, List.append_toArray, List.nil_append, List.cons_append]
  gi_wp2
  gi_loopw [3, 8] (fun a i wr => ∃ k : Nat, k ≤ xs.length ∧ i = .int .i64 k ∧ a = .int .u64 (frontAt xs k : Nat) ∧ J (upto (frontP xs) k) wr ∧ Kp B W wr ∧ W.heap.size ≤ wr.heap.size)
    (fun _ i _ => xs.length - (intOf i).toNat)
  case atStart => exact ⟨0, Nat.zero_le _, rfl, by simp [frontAt, gsum], h0, Kp.refl _ _, Nat.le_refl _⟩
  case round =>
    obtain ⟨k, hk, rfl, rfl, hJs, hkp, hsz⟩ := hrel
    have Hkp := Lib.hid hkp
    by_cases hlt : k < xs.length
    · obtain ⟨ad, rfl, hab, hx0, hx1⟩ := (hkp.byA hBB hrow).cells k hlt
      have hto := u32_lt (xs[k]).to
      have hwt := u32_lt (xs[k]).wt
      have hf1 := Hfs.out k hlt
      have hf2 := Hft.out k
      have hf3 := Hft.out (k + 1)
      have hm2 : xs.length * (xs[k]).wt.toNat ≤ 1048576 * 4294967295 := Nat.mul_le_mul hl (by omega)
      have hmul : IntKind.u64.wrap ((xs.length : Int) * ((xs[k]).wt.toNat : Int)) = ((xs.length * (xs[k]).wt.toNat : Nat) : Int) := by
        rw [← Int.natCast_mul, wrap_u64]; omega
      generalize (xs[k]).to.toNat = to at *
      generalize (xs[k]).wt.toNat = wt at *
      generalize xs.length * wt = p at *
      have hJ1 : J (upto (frontP xs) k) (wr.alloc (.cells #[.int .u32 (to : Int), .int .u32 (wt : Int)] 38)) := hJ _ _ _ none hJs (World.grownBy_alloc wr _ none) (fun r e => by cases e)
      obtain ⟨fn, tmps, assign, body, hy, hR⟩ := hY _ (frontP xs k) _ hJ1 (by rw [upto_length]; exact hlt)
      dsimp only [frontP] at hy
      have Hf1 := Lib.hid hf1
      have hbx := BoxAt.new_ 38 wr [.int .u32 (to : Int), .int .u32 (wt : Int)]
      have Hbx := Lib.hid hbx
      have hcs := hkp.cell hc hBs
      clear hf1 hbx hkp
      gi_wp2
      refine hR.mono ?_
      rintro e W3 (⟨rfl, hJ3, hk3⟩ | ⟨rfl, hJx3⟩)
      · have hbx3 := hk3.box (fun hb => by have := hBW _ hb; omega) Hbx.out
        have hw1 := hbx3.cell 1 _ rfl
        have hcs3 := ((Kp.alloc B wr (.cells #[.int .u32 (to : Int), .int .u32 (wt : Int)] 38)).trans hk3).cell hcs hBs
        have Hk3 := Lib.hid (Hkp.out.trans ((Kp.alloc B wr (.cells #[.int .u32 (to : Int), .int .u32 (wt : Int)] 38)).trans hk3))
        have hJ3' : J (upto (frontP xs) (k + 1)) W3 := by rw [upto_succ]; exact hJ3
        have HJ3 := Lib.hid hJ3'
        have hsz3 : W.heap.size ≤ W3.heap.size := Hk3.out.size
        have hfa : frontAt xs k + p = frontAt xs (k + 1) := Hf1.out.symm
        clear hbx3 hk3 hJ3 hJ3' hR hx0 hx1 hy
        gi_wp2
        go_roundw
        case rel => exact ⟨k + 1, by omega, by go_num, by first | (rw [← hfa]; go_num; done) | (rw [← hfa]; simp), HJ3.out, Hk3.out, hsz3⟩
        case measure => simp [intOf]; omega
      · gi_wp2
        refine bodyPost_ret (results_none rfl _ _ _) rfl ?_
        exact ⟨⟨_, rfl⟩, .inr ⟨_, ⟨k + 1, by omega, (upto_succ _ _).symm⟩, hJx3⟩⟩
    · obtain rfl : k = xs.length := by omega
      clear hkp
      gi_wp2
      go_end0
      exact ⟨⟨_, rfl⟩, .inl ⟨_, rfl, hJs⟩⟩

theorem fronts_stops (F : Fence) (n : Nat) (h7 : F.fn 87) (hro : F.round = none) (hn : 1 ≤ n) (Bs B0 : Nat) (B : Nat → Prop) (A : Option Addr) (cap : Nat) (xs : List GArc) (hl : xs.length ≤ 1048576) (hs : gsum xs ≤ 2147483647) (w : World)
    (hBs : Bs < w.heap.size) (hnB : ¬ B Bs) (hBB : ∀ k, B k → B0 ≤ k) (hBW : ∀ k, B k → k < w.heap.size) (hB0 : B0 ≤ w.heap.size)
    (hc : w.cell? ⟨Bs, 0, none⟩ = some (.slice A xs.length cap)) (hrow : ByA w B0 (.slice A xs.length cap) xs) :
    SeqStopsK F n Try.prog 87 #[.pointer (some ⟨Bs, 0, none⟩)] (fun x : Nat × Nat => #[Value.int .i64 (x.1 : Int), Value.int .u64 (x.2 : Int)]) (Kp B) (fun ys => ys = upto (frontP xs) xs.length)
      (fun pre => ∃ k, k ≤ xs.length ∧ pre = upto (frontP xs) k) xs.length w := fun l J Jx W hW hJ _ hY h0 =>
  fronts1_in F n h7 hro hn l Bs B0 B A cap xs hl hs J Jx hnB hBB hY W (fun k hk => Nat.lt_of_lt_of_le (hBW k hk) hW.size) hJ ((hW.cell (p := ⟨Bs, 0, none⟩) hBs).trans hc) (hrow.below (hW.mono hB0)) h0
end Go.Proofs.Yteakeefocnjlhaa
