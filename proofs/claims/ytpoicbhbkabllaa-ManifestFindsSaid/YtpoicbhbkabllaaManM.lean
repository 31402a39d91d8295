/- Sets (maps to struct{}); manifest.right (printed by wip/gen/manm.py) -/
import Derived.Test.YtpoicbhbkabllaaManY
import Derived.Maps.OwnSet
namespace Go.Proofs.Ytpoicbhbkabllaa
set_option linter.unusedSimpArgs false
set_option linter.unusedVariables false
open Go.RowKit Go.Maps

/-- block b is a set of at most n numbers: those of S -/
def MSet (k : TypeId) (q : IntKind) (w : World) (b n : Nat) (S : List Int) : Prop :=
  ∃ D : DataW Unit, w.ownsMap Try.prog k unitElem b n D ∧ ∀ x, (Lit.int q x).wf = true → Maps.has D (.int q x) = decide (x ∈ S)
theorem MSet.lt {k : TypeId} {q : IntKind} {w : World} {b n : Nat} {S : List Int} (h : MSet k q w b n S) : b < w.heap.size := by obtain ⟨D, h, _⟩ := h; exact h.lt
theorem MSet.congr {k : TypeId} {q : IntKind} {w : World} {b n : Nat} {S S' : List Int} (h : MSet k q w b n S) (hS : ∀ x, x ∈ S ↔ x ∈ S') : MSet k q w b n S' := by
  obtain ⟨D, h, hh⟩ := h
  exact ⟨D, h, fun x hx => (hh x hx).trans (decide_eq_decide.2 (hS x))⟩
theorem MSet.kept {k : TypeId} {q : IntKind} {w w' : World} {b n : Nat} {S : List Int} (h : MSet k q w b n S) {row : Option Nat} (hg : w.grownBy w' row) (hne : some b ≠ row) : MSet k q w' b n S := by
  obtain ⟨D, h, hh⟩ := h
  exact ⟨D, h.kept hg hne, hh⟩
theorem MSet.blw {k : TypeId} {q : IntKind} {w w' : World} {b n : Nat} {S : List Int} (h : MSet k q w b n S) (hb : Below w.heap.size w w') : MSet k q w' b n S :=
  h.kept (row := none) ⟨hb.os, hb.tape, hb.output, hb.size, fun i hi _ => hb.block i hi⟩ (by simp)
theorem MSet.mono {k : TypeId} {q : IntKind} {w : World} {b n n' : Nat} {S : List Int} (h : MSet k q w b n S) (hn : n ≤ n') : MSet k q w b n' S := by
  obtain ⟨D, h, hh⟩ := h
  exact ⟨D, h.mono hn, hh⟩
theorem MSet.new_ (k : TypeId) (q : IntKind) (w : World) : MSet k q (w.alloc (.map #[] 0)) w.heap.size 0 [] :=
  ⟨.map [], World.ownsMap_made _ _ _ _, fun x _ => by simp [Maps.has]⟩
theorem zero_none (w : World) : (zeroValue 152).run Try.prog w = .ok (.agg #[]) w := by kernel_rfl
theorem wpList_setLook {ops : Array Oper} {rest : List Oper} {o : Oper} {a : Act} {w : World} {Q : Exit → Act → World → Prop} (hg : o.guard = none) (m x : Operand) (t k : TypeId) (q : IntKind) (hop : o.op = .lookup t m x true)
    (hk : Try.prog.underlying k = some (.int q)) (ht : Try.prog.underlying t = some (.map k 152)) (b n : Nat) (S : List Int) (hm : a.eval m = .map (some b)) (hs : MSet k q w b n S) (y : Int) (hy : (Lit.int q y).wf = true)
    (hx : a.eval x = .int q y) (h : wpList Try.prog ops Q rest (a.put o.dst (.tuple #[.agg #[], .bool (decide (y ∈ S))])) w) : wpList Try.prog ops Q (o :: rest) a w := by
  obtain ⟨D, hD, hh⟩ := hs
  refine wpList_lookup_own_unit _ hg m x t hop k _ (int_keyed hk) ht (zero_none _) b n D hm hD _ _ hx (keyOf_int_mk hk hy) ?_
  rw [hh y hy]
  exact h
theorem wpList_setPut {ops : Array Oper} {rest : List Oper} {o : Oper} {a : Act} {w : World} {Q : Exit → Act → World → Prop} (hg : o.guard = none) (m x v : Operand) (t k : TypeId) (q : IntKind) (hop : o.op = .mapUpdate t m x v)
    (hk : Try.prog.underlying k = some (.int q)) (ht : Try.prog.underlying t = some (.map k 152)) (b n : Nat) (S : List Int) (hm : a.eval m = .map (some b)) (hs : MSet k q w b n S) (hn : n < maxLen) (y : Int) (hy : (Lit.int q y).wf = true)
    (hx : a.eval x = .int q y) (hv : a.eval v = .agg #[]) (h : ∀ w', MSet k q w' b (n + 1) (y :: S) → w.grownBy w' (some b) → wpList Try.prog ops Q rest (a.put o.dst undef) w') : wpList Try.prog ops Q (o :: rest) a w := by
  obtain ⟨D, hD, hh⟩ := hs
  refine wpList_mapUpdate_own _ hg m x v t hop k _ (int_keyed hk) ht unitElem b n D hm hD hn _ _ _ hx hv (keyOf_int_mk hk hy) _ [] unitElem_mk ?_
  intro w' h1 h2
  refine h w' ⟨_, h1, fun z hz => ?_⟩ h2
  by_cases he : z = y
  · subst he
    rw [Maps.has_put_same hD.isMap (by simp [WideAt.IsKeyLit])]
    simp
  · rw [Maps.has_put_other (by simpa using he), hh z hz]
    simp [he]
/-- all but the blocks m1, m2 stay -/
structure Bt (m1 m2 : Nat) (w w' : World) : Prop where
  os : w'.os = w.os
  tape : w'.tape = w.tape
  output : w'.output = w.output
  size : w.heap.size ≤ w'.heap.size
  block : ∀ k, k < w.heap.size → k ≠ m1 → k ≠ m2 → w'.heap[k]? = w.heap[k]?
theorem Bt.of {m1 m2 : Nat} {w w' : World} (h : Below w.heap.size w w') : Bt m1 m2 w w' := ⟨h.os, h.tape, h.output, h.size, fun k hk _ _ => h.block k hk⟩
theorem Bt.trans {m1 m2 : Nat} {a b c : World} (h : Bt m1 m2 a b) (k : Bt m1 m2 b c) : Bt m1 m2 a c :=
  ⟨k.os.trans h.os, k.tape.trans h.tape, k.output.trans h.output, Nat.le_trans h.size k.size, fun i hi h1 h2 => (k.block i (Nat.lt_of_lt_of_le hi h.size) h1 h2).trans (h.block i hi h1 h2)⟩
theorem Bt.grown {m1 m2 m : Nat} {a b c : World} (h : Bt m1 m2 a b) (hg : b.grownBy c (some m)) (hm : m = m1 ∨ m = m2) : Bt m1 m2 a c :=
  h.trans ⟨hg.os, hg.tape, hg.output, hg.size, fun k hk h1 h2 => hg.block k hk (fun e => by injection e with e; rcases hm with hm | hm <;> omega)⟩
theorem Bt.step {m1 m2 : Nat} {a b c : World} (h : Bt m1 m2 a b) (hb : Below b.heap.size b c) : Bt m1 m2 a c := h.trans (Bt.of hb)
theorem Bt.low {m1 m2 B : Nat} {w w' : World} (h : Bt m1 m2 w w') (h1 : B ≤ m1) (h2 : B ≤ m2) (hB : B ≤ w.heap.size) : Below B w w' :=
  ⟨h.os, h.tape, h.output, h.size, fun k hk => h.block k (by omega) (by omega) (by omega)⟩
theorem Bt.box {m1 m2 g : Nat} {T : TypeId} {cs : List Value} {w w' : World} (h : Bt m1 m2 w w') (hx : BoxAt T w g cs) (h1 : g ≠ m1) (h2 : g ≠ m2) : BoxAt T w' g cs := (h.block g hx.lt h1 h2).trans hx
def blkC (S2 : List Int) (l : List Int) (a : Nat) : Bool := !(decide (l.getD a 0 ∈ l.take a ++ S2) || decide (l.getD a 0 < 32) || decide (65536 ≤ l.getD a 0))
def blksC (S2 : List Int) (l : List Int) (n : Nat) : Bool := (List.range n).all (blkC S2 l)
/-- manifest.right's answer -/
def rightC (next : UInt32) (S1 S2 : List Int) (f : MFile) : Bool := basicF next f && !(decide ((f.id.toNat : Int) ∈ S1)) && blksC S2 f.blocks f.blocks.length
theorem blksC_succ (S2 l : List Int) (a : Nat) : blksC S2 l (a + 1) = (blksC S2 l a && blkC S2 l a) := by
  unfold blksC
  rw [List.range_succ, List.all_append]
  simp
theorem blksC_false (S2 l : List Int) (a : Nat) (h : blksC S2 l (a + 1) = false) (n : Nat) (ha : a < n) : blksC S2 l n = false := by
  unfold blksC at h ⊢
  rw [List.all_eq_false] at h ⊢
  obtain ⟨x, hx, hx2⟩ := h
  exact ⟨x, by simp at hx ⊢; omega, hx2⟩
theorem blkC_eq (S2 l : List Int) (a : Nat) (ha : a < l.length) : blkC S2 l a = !(decide (l[a] ∈ l.take a ++ S2) || decide (l[a] < 32) || decide (65536 ≤ l[a])) := by
  unfold blkC
  rw [List.getD_eq_getElem?_getD, List.getElem?_eq_getElem ha]
  rfl
theorem mem_snocL {x y : Int} {a b : List Int} : y ∈ x :: (a ++ b) ↔ y ∈ a ++ [x] ++ b := by
  rw [List.mem_cons, List.mem_append, List.mem_append, List.mem_append, List.mem_singleton]
  constructor
  · rintro (h | h | h)
    · exact .inl (.inr h)
    · exact .inl (.inl h)
    · exact .inr h
  · rintro ((h | h) | h)
    · exact .inr (.inl h)
    · exact .inl h
    · exact .inr (.inr h)
theorem wf_u32 (x : UInt32) : (Lit.int .u32 (x.toNat : Int)).wf = true := by
  have := u32_lt x
  have e1 : IntKind.u32.min = 0 := by decide
  have e2 : IntKind.u32.max = 4294967295 := by decide
  simp [Lit.wf, e1, e2]
  omega
theorem wf_i64 (x : Int) (h1 : -9223372036854775808 ≤ x) (h2 : x ≤ 9223372036854775807) : (Lit.int .i64 x).wf = true := by
  have e1 : IntKind.i64.min = -9223372036854775808 := by decide
  have e2 : IntKind.i64.max = 9223372036854775807 := by decide
  simp [Lit.wf, e1, e2]
  omega
theorem info_none0 : (Try.prog.info? 152).map (fun i => (i.zero, i.size, i.bytes)) = some (some (.agg #[]), 0, 0) := by kernel_rfl

set_option maxRecDepth 100000 in
set_option maxHeartbeats 6400000 in
theorem right_any (w : World) (B : Nat) (hBw : B ≤ w.heap.size) (fl : MFile) (v : Value) (next : UInt32) (m1 m2 n1 n2 : Nat) (S1 S2 : List Int) (hI : ByI w B v fl.blocks) (hfo : fileOk fl)
    (h1 : MSet 53 .u32 w m1 n1 S1) (h2 : MSet 3 .i64 w m2 n2 S2) (hne : m1 ≠ m2) (hB1 : B ≤ m1) (hB2 : B ≤ m2) (hn1 : n1 < 1000000000) (hn2 : n2 + fl.blocks.length < 1000000000) :
    Calls Try.prog 79 #[.agg (encF fl v).toArray, .int .u32 (next.toNat : Int), .map (some m1), .map (some m2)] w fun e w' =>
      e = .returned (.bool (rightC next S1 S2 fl)) ∧ (rightC next S1 S2 fl = true → MSet 53 .u32 w' m1 (n1 + 1) ((fl.id.toNat : Int) :: S1) ∧ MSet 3 .i64 w' m2 (n2 + fl.blocks.length) (fl.blocks ++ S2)) ∧ Bt m1 m2 w w' := by
  obtain ⟨Ab, cb, rfl, hcb1, hcb2⟩ := hI.form
  unfold maxLen at hcb2
  have hnl := hfo.1
  unfold maxLen at hnl
  have hid := u32_lt fl.id
  have hnx := u32_lt next
  have hsz : (bst fl.name).size = fl.name.length := rfl
  have hm1 := h1.lt
  have hm2 := h2.lt
  obtain ⟨wf, hwf⟩ : ∃ wf, wf = w.alloc (.cells (encF fl (.slice Ab fl.blocks.length cb)).toArray 62) := ⟨_, rfl⟩
  have hbf : Below w.heap.size w wf := by rw [hwf]; exact balloc w _
  have hxf : BoxAt 62 wf w.heap.size (encF fl (.slice Ab fl.blocks.length cb)) := by rw [hwf]; exact BoxAt.new_ _ _ _
  have hzf : wf.heap.size = w.heap.size + 1 := by rw [hwf]; simp
  have Hwf := Lib.hid hwf
  have Xf := Lib.hid hxf
  have HI := Lib.hid hI
  have Hb := Lib.hid hbf
  have H1 := Lib.hid h1
  have H2 := Lib.hid h2
  have Hne := Lib.hid hne
  clear hwf hxf hI hbf h1 h2 hne
  go_enter Try.func79, Try.ntmps79
  go_upto_region 1 with (fail)
  rw [← Hwf.out]
  clear Hwf
  have hbas : basicF next fl = !(decide (fl.name.length < 1) || decide (32 < fl.name.length) || decide (next.toNat ≤ fl.id.toNat) || decide (fl.size < 0) || decide (manyOf fl.size ≠ (fl.blocks.length : Int))) := rfl
  obtain ⟨b1, hb1⟩ : ∃ b, b = decide (fl.name.length < 1) := ⟨_, rfl⟩
  obtain ⟨b2, hq2⟩ : ∃ b, b = decide (32 < fl.name.length) := ⟨_, rfl⟩
  obtain ⟨b3, hb3⟩ : ∃ b, b = decide (next.toNat ≤ fl.id.toNat) := ⟨_, rfl⟩
  obtain ⟨b4, hb4⟩ : ∃ b, b = decide (fl.size < 0) := ⟨_, rfl⟩
  obtain ⟨b5, hb5⟩ : ∃ b, b = decide (manyOf fl.size ≠ (fl.blocks.length : Int)) := ⟨_, rfl⟩
  rw [← hb1, ← hq2, ← hb3, ← hb4, ← hb5] at hbas
  have B1 := Lib.hid hb1
  have B2 := Lib.hid hq2
  have B3 := Lib.hid hb3
  have B4 := Lib.hid hb4
  have B5 := Lib.hid hb5
  have Hbas := Lib.hid hbas
  clear hb1 hq2 hb3 hb4 hb5 hbas
  refine wp_region_typed [some 15, some 16, some 17, some 18, some 19, some 20, some 21, some 22, some 23, some 24, some 25, some 26, some 27, some 28, some 29, some 30, some 31, some 32, some 33, some 34, some 35, some 36, some 37, some 38, some 39, some 40, some 41, some 42, some 43, some 44] [15, 16, 17, 18, 19, 20, 21, 22, 23, 24, 25, 26, 27, 28, 29, 30, 31, 32, 33, 34, 35, 36, 37, 38, 39, 40, 41, 42, 43, 44]
    [Ph.is (.pointer (some ⟨w.heap.size, 0, none⟩)),
      Ph.is (.string (bst fl.name)),
      Ph.is (.int .i64 (fl.name.length : Int)),
      Ph.is (.bool b1),
      Ph.is (.bool (b1)),
      Ph.is (bif b1 then undef else .pointer (some ⟨w.heap.size, 0, none⟩)),
      Ph.is (bif b1 then undef else .string (bst fl.name)),
      Ph.is (bif b1 then undef else .int .i64 (fl.name.length : Int)),
      Ph.is (bif b1 then undef else .bool b2),
      Ph.is (.bool (b1 || b2)),
      Ph.is (.bool ((b1 || b2))),
      Ph.is (bif (b1 || b2) then undef else .pointer (some ⟨w.heap.size, 1, none⟩)),
      Ph.is (bif (b1 || b2) then undef else .int .u32 (fl.id.toNat : Int)),
      Ph.is (bif (b1 || b2) then undef else .int .u32 (next.toNat : Int)),
      Ph.is (bif (b1 || b2) then undef else .bool b3),
      Ph.is (.bool (b1 || b2 || b3)),
      Ph.is (.bool ((b1 || b2 || b3))),
      Ph.is (bif (b1 || b2 || b3) then undef else .pointer (some ⟨w.heap.size, 2, none⟩)),
      Ph.is (bif (b1 || b2 || b3) then undef else .int .i64 fl.size),
      Ph.is (bif (b1 || b2 || b3) then undef else .bool b4),
      Ph.is (.bool (b1 || b2 || b3 || b4)),
      Ph.is (.bool ((b1 || b2 || b3 || b4))),
      Ph.is (bif (b1 || b2 || b3 || b4) then undef else .pointer (some ⟨w.heap.size, 2, none⟩)),
      Ph.is (bif (b1 || b2 || b3 || b4) then undef else .int .i64 fl.size),
      Ph.is (bif (b1 || b2 || b3 || b4) then undef else .int .i64 (manyOf fl.size)),
      Ph.is (bif (b1 || b2 || b3 || b4) then undef else .pointer (some ⟨w.heap.size, 3, none⟩)),
      Ph.is (bif (b1 || b2 || b3 || b4) then undef else .slice Ab fl.blocks.length cb),
      Ph.is (bif (b1 || b2 || b3 || b4) then undef else .int .i64 (fl.blocks.length : Int)),
      Ph.is (bif (b1 || b2 || b3 || b4) then undef else .bool b5),
      Ph.is (.bool (b1 || b2 || b3 || b4 || b5))] rfl rfl (by kernel_rfl) (by kernel_rfl) ?_ ?_
  · refine ⟨?_, ?_, ?_, ?_, ?_, ?_, ?_, ?_, ?_, ?_, ?_, ?_, ?_, ?_, ?_, ?_, ?_, ?_, ?_, ?_, ?_, ?_, ?_, ?_, ?_, ?_, ?_, ?_, ?_, ?_, trivial⟩
    · -- 0: slot 15 := Op.fieldAddr 62 t4 0
      refine ob_yes fun f w' hb hp => ?_
      simp [PreOf, factOf, valOf, Ph.is, Ph.any, Region.binds] at hp
      refine ⟨by simp [Gd, valOf, hp], ?_⟩
      refine mild_val (.pointer (some ⟨w.heap.size, 0, none⟩)) ?_ (by simp [Ph.is])
      simp [execOp, evalF, hp, go_sem]
    · -- 1: slot 16 := Op.load 9 t15
      refine ob_yes fun f w' hb hp => ?_
      simp [PreOf, factOf, valOf, Ph.is, Ph.any, Region.binds] at hp
      refine ⟨by simp [Gd, valOf, hp], ?_⟩
      have hc := (Xf.out.blwM hb).cell 0 _ rfl
      refine mild_val (.string (bst fl.name)) ?_ (by simp [Ph.is])
      simp [execOp, evalF, hp, hc, go_sem]
    · -- 2: slot 17 := Op.call   builtin len, args := #[t16], argTypes := #[9]  
      refine ob_yes fun f w' hb hp => ?_
      simp [PreOf, factOf, valOf, Ph.is, Ph.any, Region.binds] at hp
      refine ⟨by simp [Gd, valOf, hp], ?_⟩
      refine mild_val (.int .i64 (fl.name.length : Int)) ?_ (by simp [Ph.is])
      simp [execOp, evalF, hp, go_sem, hsz]
    · -- 3: slot 18 := Op.binOp BinOp.eql 3 t17 (const (0:i64)) 3
      refine ob_yes fun f w' hb hp => ?_
      simp [PreOf, factOf, valOf, Ph.is, Ph.any, Region.binds] at hp
      refine ⟨by simp [Gd, valOf, hp], ?_⟩
      refine mild_val (.bool b1) ?_ (by simp [Ph.is])
      simp [execOp, evalF, hp, go_sem]
      first | done | (rw [B1.out]; try first | rfl | exact decide_eq_decide.2 (by omega) | (simp; done) | (simp <;> omega) | (simp <;> rfl))
    · -- 4: slot 19 := Op.move t18
      refine ob_yes fun f w' hb hp => ?_
      simp [PreOf, factOf, valOf, Ph.is, Ph.any, Region.binds] at hp
      refine ⟨by simp [Gd, valOf, hp], ?_⟩
      refine mild_val (.bool (b1)) ?_ (by simp [Ph.is])
      simp [execOp, evalF, hp, go_sem]
    · -- 5: slot 20 := Op.fieldAddr 62 t4 0
      cases hG : (b1) with
      | true =>
        refine ob_no fun f w' hb hp => ?_
        simp [PreOf, factOf, valOf, Ph.is, Ph.any, Region.binds, hG] at hp
        exact ⟨by simp [Gd, valOf, hp], by simp [Ph.is]⟩
      | false =>
        refine ob_yes fun f w' hb hp => ?_
        simp [PreOf, factOf, valOf, Ph.is, Ph.any, Region.binds, hG] at hp
        refine ⟨by simp [Gd, valOf, hp], ?_⟩
        refine mild_val (.pointer (some ⟨w.heap.size, 0, none⟩)) ?_ (by simp [Ph.is, hG])
        simp [execOp, evalF, hp, go_sem, hG]
    · -- 6: slot 21 := Op.load 9 t20
      cases hG : (b1) with
      | true =>
        refine ob_no fun f w' hb hp => ?_
        simp [PreOf, factOf, valOf, Ph.is, Ph.any, Region.binds, hG] at hp
        exact ⟨by simp [Gd, valOf, hp], by simp [Ph.is]⟩
      | false =>
        refine ob_yes fun f w' hb hp => ?_
        simp [PreOf, factOf, valOf, Ph.is, Ph.any, Region.binds, hG] at hp
        refine ⟨by simp [Gd, valOf, hp], ?_⟩
        have hc := (Xf.out.blwM hb).cell 0 _ rfl
        refine mild_val (.string (bst fl.name)) ?_ (by simp [Ph.is, hG])
        simp [execOp, evalF, hp, hc, go_sem, hG]
    · -- 7: slot 22 := Op.call   builtin len, args := #[t21], argTypes := #[9]  
      cases hG : (b1) with
      | true =>
        refine ob_no fun f w' hb hp => ?_
        simp [PreOf, factOf, valOf, Ph.is, Ph.any, Region.binds, hG] at hp
        exact ⟨by simp [Gd, valOf, hp], by simp [Ph.is]⟩
      | false =>
        refine ob_yes fun f w' hb hp => ?_
        simp [PreOf, factOf, valOf, Ph.is, Ph.any, Region.binds, hG] at hp
        refine ⟨by simp [Gd, valOf, hp], ?_⟩
        refine mild_val (.int .i64 (fl.name.length : Int)) ?_ (by simp [Ph.is, hG])
        simp [execOp, evalF, hp, go_sem, hsz, hG]
    · -- 8: slot 23 := Op.binOp BinOp.gtr 3 t22 (const (32:i64)) 3
      cases hG : (b1) with
      | true =>
        refine ob_no fun f w' hb hp => ?_
        simp [PreOf, factOf, valOf, Ph.is, Ph.any, Region.binds, hG] at hp
        exact ⟨by simp [Gd, valOf, hp], by simp [Ph.is]⟩
      | false =>
        refine ob_yes fun f w' hb hp => ?_
        simp [PreOf, factOf, valOf, Ph.is, Ph.any, Region.binds, hG] at hp
        refine ⟨by simp [Gd, valOf, hp], ?_⟩
        refine mild_val (.bool b2) ?_ (by simp [Ph.is, hG])
        simp [execOp, evalF, hp, go_sem, hG]
        first | done | (rw [B2.out]; try first | rfl | exact decide_eq_decide.2 (by omega) | (simp; done) | (simp <;> omega) | (simp <;> rfl))
    · -- 9: slot 24 := Op.pick t19 (const (Value.bool true)) t23
      cases hG : (b1) with
      | true =>
        refine ob_yes fun f w' hb hp => ?_
        simp [PreOf, factOf, valOf, Ph.is, Ph.any, Region.binds, hG] at hp
        refine ⟨by simp [Gd, valOf, hp], ?_⟩
        refine mild_val (.bool (b1 || b2)) ?_ (by simp [Ph.is, hG])
        simp [execOp, evalF, hp, go_sem, hG]
      | false =>
        refine ob_yes fun f w' hb hp => ?_
        simp [PreOf, factOf, valOf, Ph.is, Ph.any, Region.binds, hG] at hp
        refine ⟨by simp [Gd, valOf, hp], ?_⟩
        refine mild_val (.bool (b1 || b2)) ?_ (by simp [Ph.is, hG])
        simp [execOp, evalF, hp, go_sem, hG]
    · -- 10: slot 25 := Op.move t24
      refine ob_yes fun f w' hb hp => ?_
      simp [PreOf, factOf, valOf, Ph.is, Ph.any, Region.binds] at hp
      refine ⟨by simp [Gd, valOf, hp], ?_⟩
      refine mild_val (.bool ((b1 || b2))) ?_ (by simp [Ph.is])
      simp [execOp, evalF, hp, go_sem]
    · -- 11: slot 26 := Op.fieldAddr 62 t4 1
      cases hG : ((b1 || b2)) with
      | true =>
        refine ob_no fun f w' hb hp => ?_
        simp [PreOf, factOf, valOf, Ph.is, Ph.any, Region.binds, hG] at hp
        exact ⟨by simp [Gd, valOf, hp], by simp [Ph.is]⟩
      | false =>
        refine ob_yes fun f w' hb hp => ?_
        simp [PreOf, factOf, valOf, Ph.is, Ph.any, Region.binds, hG] at hp
        refine ⟨by simp [Gd, valOf, hp], ?_⟩
        refine mild_val (.pointer (some ⟨w.heap.size, 1, none⟩)) ?_ (by simp [Ph.is, hG])
        simp [execOp, evalF, hp, go_sem, hG]
    · -- 12: slot 27 := Op.load 53 t26
      cases hG : ((b1 || b2)) with
      | true =>
        refine ob_no fun f w' hb hp => ?_
        simp [PreOf, factOf, valOf, Ph.is, Ph.any, Region.binds, hG] at hp
        exact ⟨by simp [Gd, valOf, hp], by simp [Ph.is]⟩
      | false =>
        refine ob_yes fun f w' hb hp => ?_
        simp [PreOf, factOf, valOf, Ph.is, Ph.any, Region.binds, hG] at hp
        refine ⟨by simp [Gd, valOf, hp], ?_⟩
        have hc := (Xf.out.blwM hb).cell 1 _ rfl
        refine mild_val (.int .u32 (fl.id.toNat : Int)) ?_ (by simp [Ph.is, hG])
        simp [execOp, evalF, hp, hc, go_sem, hG]
    · -- 13: slot 28 := Op.move t1
      cases hG : ((b1 || b2)) with
      | true =>
        refine ob_no fun f w' hb hp => ?_
        simp [PreOf, factOf, valOf, Ph.is, Ph.any, Region.binds, hG] at hp
        exact ⟨by simp [Gd, valOf, hp], by simp [Ph.is]⟩
      | false =>
        refine ob_yes fun f w' hb hp => ?_
        simp [PreOf, factOf, valOf, Ph.is, Ph.any, Region.binds, hG] at hp
        refine ⟨by simp [Gd, valOf, hp], ?_⟩
        refine mild_val (.int .u32 (next.toNat : Int)) ?_ (by simp [Ph.is, hG])
        simp [execOp, evalF, hp, go_sem, hG]
    · -- 14: slot 29 := Op.binOp BinOp.geq 53 t27 t28 53
      cases hG : ((b1 || b2)) with
      | true =>
        refine ob_no fun f w' hb hp => ?_
        simp [PreOf, factOf, valOf, Ph.is, Ph.any, Region.binds, hG] at hp
        exact ⟨by simp [Gd, valOf, hp], by simp [Ph.is]⟩
      | false =>
        refine ob_yes fun f w' hb hp => ?_
        simp [PreOf, factOf, valOf, Ph.is, Ph.any, Region.binds, hG] at hp
        refine ⟨by simp [Gd, valOf, hp], ?_⟩
        refine mild_val (.bool b3) ?_ (by simp [Ph.is, hG])
        simp [execOp, evalF, hp, go_sem, hG]
        first | done | (rw [B3.out]; try first | rfl | exact decide_eq_decide.2 (by omega) | (simp; done) | (simp <;> omega) | (simp <;> rfl))
    · -- 15: slot 30 := Op.pick t25 (const (Value.bool true)) t29
      cases hG : ((b1 || b2)) with
      | true =>
        refine ob_yes fun f w' hb hp => ?_
        simp [PreOf, factOf, valOf, Ph.is, Ph.any, Region.binds, hG] at hp
        refine ⟨by simp [Gd, valOf, hp], ?_⟩
        refine mild_val (.bool (b1 || b2 || b3)) ?_ (by simp [Ph.is, hG])
        simp [execOp, evalF, hp, go_sem, hG]
      | false =>
        refine ob_yes fun f w' hb hp => ?_
        simp [PreOf, factOf, valOf, Ph.is, Ph.any, Region.binds, hG] at hp
        refine ⟨by simp [Gd, valOf, hp], ?_⟩
        refine mild_val (.bool (b1 || b2 || b3)) ?_ (by simp [Ph.is, hG])
        simp [execOp, evalF, hp, go_sem, hG]
    · -- 16: slot 31 := Op.move t30
      refine ob_yes fun f w' hb hp => ?_
      simp [PreOf, factOf, valOf, Ph.is, Ph.any, Region.binds] at hp
      refine ⟨by simp [Gd, valOf, hp], ?_⟩
      refine mild_val (.bool ((b1 || b2 || b3))) ?_ (by simp [Ph.is])
      simp [execOp, evalF, hp, go_sem]
    · -- 17: slot 32 := Op.fieldAddr 62 t4 2
      cases hG : ((b1 || b2 || b3)) with
      | true =>
        refine ob_no fun f w' hb hp => ?_
        simp [PreOf, factOf, valOf, Ph.is, Ph.any, Region.binds, hG] at hp
        exact ⟨by simp [Gd, valOf, hp], by simp [Ph.is]⟩
      | false =>
        refine ob_yes fun f w' hb hp => ?_
        simp [PreOf, factOf, valOf, Ph.is, Ph.any, Region.binds, hG] at hp
        refine ⟨by simp [Gd, valOf, hp], ?_⟩
        refine mild_val (.pointer (some ⟨w.heap.size, 2, none⟩)) ?_ (by simp [Ph.is, hG])
        simp [execOp, evalF, hp, go_sem, hG]
    · -- 18: slot 33 := Op.load 3 t32
      cases hG : ((b1 || b2 || b3)) with
      | true =>
        refine ob_no fun f w' hb hp => ?_
        simp [PreOf, factOf, valOf, Ph.is, Ph.any, Region.binds, hG] at hp
        exact ⟨by simp [Gd, valOf, hp], by simp [Ph.is]⟩
      | false =>
        refine ob_yes fun f w' hb hp => ?_
        simp [PreOf, factOf, valOf, Ph.is, Ph.any, Region.binds, hG] at hp
        refine ⟨by simp [Gd, valOf, hp], ?_⟩
        have hc := (Xf.out.blwM hb).cell 2 _ rfl
        refine mild_val (.int .i64 fl.size) ?_ (by simp [Ph.is, hG])
        simp [execOp, evalF, hp, hc, go_sem, hG]
    · -- 19: slot 34 := Op.binOp BinOp.lss 3 t33 (const (0:i64)) 3
      cases hG : ((b1 || b2 || b3)) with
      | true =>
        refine ob_no fun f w' hb hp => ?_
        simp [PreOf, factOf, valOf, Ph.is, Ph.any, Region.binds, hG] at hp
        exact ⟨by simp [Gd, valOf, hp], by simp [Ph.is]⟩
      | false =>
        refine ob_yes fun f w' hb hp => ?_
        simp [PreOf, factOf, valOf, Ph.is, Ph.any, Region.binds, hG] at hp
        refine ⟨by simp [Gd, valOf, hp], ?_⟩
        refine mild_val (.bool b4) ?_ (by simp [Ph.is, hG])
        simp [execOp, evalF, hp, go_sem, hG]
        first | done | (rw [B4.out]; try first | rfl | exact decide_eq_decide.2 (by omega) | (simp; done) | (simp <;> omega) | (simp <;> rfl))
    · -- 20: slot 35 := Op.pick t31 (const (Value.bool true)) t34
      cases hG : ((b1 || b2 || b3)) with
      | true =>
        refine ob_yes fun f w' hb hp => ?_
        simp [PreOf, factOf, valOf, Ph.is, Ph.any, Region.binds, hG] at hp
        refine ⟨by simp [Gd, valOf, hp], ?_⟩
        refine mild_val (.bool (b1 || b2 || b3 || b4)) ?_ (by simp [Ph.is, hG])
        simp [execOp, evalF, hp, go_sem, hG]
      | false =>
        refine ob_yes fun f w' hb hp => ?_
        simp [PreOf, factOf, valOf, Ph.is, Ph.any, Region.binds, hG] at hp
        refine ⟨by simp [Gd, valOf, hp], ?_⟩
        refine mild_val (.bool (b1 || b2 || b3 || b4)) ?_ (by simp [Ph.is, hG])
        simp [execOp, evalF, hp, go_sem, hG]
    · -- 21: slot 36 := Op.move t35
      refine ob_yes fun f w' hb hp => ?_
      simp [PreOf, factOf, valOf, Ph.is, Ph.any, Region.binds] at hp
      refine ⟨by simp [Gd, valOf, hp], ?_⟩
      refine mild_val (.bool ((b1 || b2 || b3 || b4))) ?_ (by simp [Ph.is])
      simp [execOp, evalF, hp, go_sem]
    · -- 22: slot 37 := Op.fieldAddr 62 t4 2
      cases hG : ((b1 || b2 || b3 || b4)) with
      | true =>
        refine ob_no fun f w' hb hp => ?_
        simp [PreOf, factOf, valOf, Ph.is, Ph.any, Region.binds, hG] at hp
        exact ⟨by simp [Gd, valOf, hp], by simp [Ph.is]⟩
      | false =>
        refine ob_yes fun f w' hb hp => ?_
        simp [PreOf, factOf, valOf, Ph.is, Ph.any, Region.binds, hG] at hp
        refine ⟨by simp [Gd, valOf, hp], ?_⟩
        refine mild_val (.pointer (some ⟨w.heap.size, 2, none⟩)) ?_ (by simp [Ph.is, hG])
        simp [execOp, evalF, hp, go_sem, hG]
    · -- 23: slot 38 := Op.load 3 t37
      cases hG : ((b1 || b2 || b3 || b4)) with
      | true =>
        refine ob_no fun f w' hb hp => ?_
        simp [PreOf, factOf, valOf, Ph.is, Ph.any, Region.binds, hG] at hp
        exact ⟨by simp [Gd, valOf, hp], by simp [Ph.is]⟩
      | false =>
        refine ob_yes fun f w' hb hp => ?_
        simp [PreOf, factOf, valOf, Ph.is, Ph.any, Region.binds, hG] at hp
        refine ⟨by simp [Gd, valOf, hp], ?_⟩
        have hc := (Xf.out.blwM hb).cell 2 _ rfl
        refine mild_val (.int .i64 fl.size) ?_ (by simp [Ph.is, hG])
        simp [execOp, evalF, hp, hc, go_sem, hG]
    · -- 24: slot 39 := Op.call   value (Operand.func 86), args := #[t38], argTypes := #[3]  
      cases hG : ((b1 || b2 || b3 || b4)) with
      | true =>
        refine ob_no fun f w' hb hp => ?_
        simp [PreOf, factOf, valOf, Ph.is, Ph.any, Region.binds, hG] at hp
        exact ⟨by simp [Gd, valOf, hp], by simp [Ph.is]⟩
      | false =>
        refine ob_yes fun f w' hb hp => ?_
        simp [PreOf, factOf, valOf, Ph.is, Ph.any, Region.binds, hG] at hp
        refine ⟨by simp [Gd, valOf, hp], ?_⟩
        refine mild_call 86 _ _ Try.f86 Try.func86 (by kernel_rfl) (by kernel_rfl) rfl ?_
        simp [evalF, hp, Ph.is, Ph.any, hG]
        refine (many_any w' fl.size hfo.2.1 hfo.2.2).mono fun ev w2 h => ?_
        obtain ⟨rfl, rfl⟩ := h
        first | exact ⟨_, rfl, Below.refl _ _, rfl⟩ | exact ⟨rfl, Below.refl _ _⟩ | exact Below.refl _ _ | simpa using Below.refl _ _
    · -- 25: slot 40 := Op.fieldAddr 62 t4 3
      cases hG : ((b1 || b2 || b3 || b4)) with
      | true =>
        refine ob_no fun f w' hb hp => ?_
        simp [PreOf, factOf, valOf, Ph.is, Ph.any, Region.binds, hG] at hp
        exact ⟨by simp [Gd, valOf, hp], by simp [Ph.is]⟩
      | false =>
        refine ob_yes fun f w' hb hp => ?_
        simp [PreOf, factOf, valOf, Ph.is, Ph.any, Region.binds, hG] at hp
        refine ⟨by simp [Gd, valOf, hp], ?_⟩
        refine mild_val (.pointer (some ⟨w.heap.size, 3, none⟩)) ?_ (by simp [Ph.is, hG])
        simp [execOp, evalF, hp, go_sem, hG]
    · -- 26: slot 41 := Op.load 60 t40
      cases hG : ((b1 || b2 || b3 || b4)) with
      | true =>
        refine ob_no fun f w' hb hp => ?_
        simp [PreOf, factOf, valOf, Ph.is, Ph.any, Region.binds, hG] at hp
        exact ⟨by simp [Gd, valOf, hp], by simp [Ph.is]⟩
      | false =>
        refine ob_yes fun f w' hb hp => ?_
        simp [PreOf, factOf, valOf, Ph.is, Ph.any, Region.binds, hG] at hp
        refine ⟨by simp [Gd, valOf, hp], ?_⟩
        have hc := (Xf.out.blwM hb).cell 3 _ rfl
        refine mild_val (.slice Ab fl.blocks.length cb) ?_ (by simp [Ph.is, hG])
        simp [execOp, evalF, hp, hc, go_sem, hG]
    · -- 27: slot 42 := Op.call   builtin len, args := #[t41], argTypes := #[60]  
      cases hG : ((b1 || b2 || b3 || b4)) with
      | true =>
        refine ob_no fun f w' hb hp => ?_
        simp [PreOf, factOf, valOf, Ph.is, Ph.any, Region.binds, hG] at hp
        exact ⟨by simp [Gd, valOf, hp], by simp [Ph.is]⟩
      | false =>
        refine ob_yes fun f w' hb hp => ?_
        simp [PreOf, factOf, valOf, Ph.is, Ph.any, Region.binds, hG] at hp
        refine ⟨by simp [Gd, valOf, hp], ?_⟩
        refine mild_val (.int .i64 (fl.blocks.length : Int)) ?_ (by simp [Ph.is, hG])
        simp [execOp, evalF, hp, go_sem, hG]
    · -- 28: slot 43 := Op.binOp BinOp.neq 3 t39 t42 3
      cases hG : ((b1 || b2 || b3 || b4)) with
      | true =>
        refine ob_no fun f w' hb hp => ?_
        simp [PreOf, factOf, valOf, Ph.is, Ph.any, Region.binds, hG] at hp
        exact ⟨by simp [Gd, valOf, hp], by simp [Ph.is]⟩
      | false =>
        refine ob_yes fun f w' hb hp => ?_
        simp [PreOf, factOf, valOf, Ph.is, Ph.any, Region.binds, hG] at hp
        refine ⟨by simp [Gd, valOf, hp], ?_⟩
        refine mild_val (.bool b5) ?_ (by simp [Ph.is, hG])
        simp [execOp, evalF, hp, go_sem, hG]
        first | done | (rw [B5.out]; try first | rfl | exact decide_eq_decide.2 (by omega) | (simp; done) | (simp <;> omega) | (simp <;> rfl))
    · -- 29: slot 44 := Op.pick t36 (const (Value.bool true)) t43
      cases hG : ((b1 || b2 || b3 || b4)) with
      | true =>
        refine ob_yes fun f w' hb hp => ?_
        simp [PreOf, factOf, valOf, Ph.is, Ph.any, Region.binds, hG] at hp
        refine ⟨by simp [Gd, valOf, hp], ?_⟩
        refine mild_val (.bool (b1 || b2 || b3 || b4 || b5)) ?_ (by simp [Ph.is, hG])
        simp [execOp, evalF, hp, go_sem, hG]
      | false =>
        refine ob_yes fun f w' hb hp => ?_
        simp [PreOf, factOf, valOf, Ph.is, Ph.any, Region.binds, hG] at hp
        refine ⟨by simp [Gd, valOf, hp], ?_⟩
        refine mild_val (.bool (b1 || b2 || b3 || b4 || b5)) ?_ (by simp [Ph.is, hG])
        simp [execOp, evalF, hp, go_sem, hG]
  · intro f w2 hb2 hp
    simp only [PostOf, Ph.is, Ph.any] at hp
    obtain ⟨h0, h1, h2, h3, h4, h5, h6, h7, h8, h9, h10, h11, h12, h13, h14, h15, h16, h17, h18, h19, h20, h21, h22, h23, h24, h25, h26, h27, h28, h29, _⟩ := hp
    simp only [fills, List.foldl_cons, List.foldl_nil, Act.put, List.setIfInBounds_toArray, List.set_cons_zero, List.set_cons_succ, h0, h1, h2, h3, h4, h9, h10, h15, h16, h20, h21, h29]
    clear h0 h1 h2 h3 h4 h9 h10 h15 h16 h20 h21 h29 h5 h6 h7 h8 h11 h12 h13 h14 h17 h18 h19 h22 h23 h24 h25 h26 h27 h28
    generalize f 20 = v20
    generalize f 21 = v21
    generalize f 22 = v22
    generalize f 23 = v23
    generalize f 26 = v26
    generalize f 27 = v27
    generalize f 28 = v28
    generalize f 29 = v29
    generalize f 32 = v32
    generalize f 33 = v33
    generalize f 34 = v34
    generalize f 37 = v37
    generalize f 38 = v38
    generalize f 39 = v39
    generalize f 40 = v40
    generalize f 41 = v41
    generalize f 42 = v42
    generalize f 43 = v43
    have hb0 := bstep Hb.out (hb2.mono (by omega))
    have Hb0 : Hid (Bt m1 m2 w w2) := Lib.hid (Bt.of hb0)
    have Xf2 := Lib.hid (Xf.out.blwM hb2)
    have K1 := Lib.hid (H1.out.blw hb0)
    have K2 := Lib.hid (H2.out.blw hb0)
    have hs0 := hb0.size
    have hs1 := hb2.size
    clear hb0 hb2
    cases hB : (b1 || b2 || b3 || b4 || b5) with
    | true =>
      have hr : rightC next S1 S2 fl = false := by unfold rightC; rw [Hbas.out, hB]; rfl
      have Hr := Lib.hid hr
      clear hr
      go_wp2_with fail
      go_ret
      refine ⟨by rw [Hr.out]; rfl, fun h => ?_, Hb0.out⟩
      rw [Hr.out] at h
      cases h
    | false =>
      rw [hB] at Hbas
      clear B1 B2 B3 B4 B5
      have hc1 := Xf2.out.cell 1 _ rfl
      go_upto_region 4 with (first
        | (at_lookup; refine wpList_setLook rfl (.tmp 46) (.tmp 48) _ 53 .u32 rfl Try.underlying53 Try.underlying135 m1 n1 S1 rfl K1.out _ (wf_u32 fl.id) rfl ?_)
        | (refine wpList_alloc_z rfl 152 rfl info_none0 [] rfl ?_)
        | (refine wpList_store_new rfl 152 (.tmp 9) (.tmp 50) rfl [] [] rfl rfl info_none0 rfl (by simp) ?_))
      obtain ⟨w3, hw3⟩ : ∃ w3, w3 = w2.alloc (.cells #[] 152) := ⟨_, rfl⟩
      rw [← hw3]
      have hb3 : Below w2.heap.size w2 w3 := by rw [hw3]; exact balloc w2 _
      have hs3 := hb3.size
      have Hb3 := Lib.hid (Hb0.out.step hb3)
      have X3 := Lib.hid (Xf2.out.blwM hb3)
      have L1 := Lib.hid (K1.out.blw hb3)
      have L2 := Lib.hid (K2.out.blw hb3)
      clear hw3 hb3 hc1 K1 K2 Xf2 Hb0
      cases hD : decide ((fl.id.toNat : Int) ∈ S1) with
      | true =>
        have hr : rightC next S1 S2 fl = false := by unfold rightC; rw [hD]; simp
        have Hr := Lib.hid hr
        clear hr
        go_wp2_with fail
        go_ret
        refine ⟨by rw [Hr.out]; rfl, fun h => ?_, Hb3.out⟩
        rw [Hr.out] at h
        cases h
      | false =>
        have hr : rightC next S1 S2 fl = blksC S2 fl.blocks fl.blocks.length := by unfold rightC; rw [Hbas.out, hD]; rfl
        have Hr := Lib.hid hr
        have hc1 := X3.out.cell 1 _ rfl
        clear hr
        go_upto_region 7 with ((at_mapUpdate; refine wpList_setPut rfl (.tmp 53) (.tmp 55) (.tmp 56) _ 53 .u32 rfl Try.underlying53 Try.underlying135 m1 n1 S1 rfl L1.out (by unfold maxLen; omega) _ (wf_u32 fl.id) rfl rfl ?_; intro w4 M1 hg4))
        have hs4 := hg4.size
        have Hb4 := Lib.hid (Hb3.out.grown hg4 (.inl rfl))
        have X4 := Lib.hid (X3.out.grown hg4 (by simp; omega))
        have M2 := Lib.hid (L2.out.kept hg4 (fun e => Hne.out (by injection e with e; exact e.symm)))
        replace M1 := Lib.hid M1
        have hc3 := X4.out.cell 3 _ rfl
        clear hg4 hc1 L1 L2 X3 Hb3
        go_wp2_with fail
        go_loopw [60] (fun iv wr => ∃ k : Nat, k ≤ fl.blocks.length ∧ iv = .int .i64 k ∧ blksC S2 fl.blocks k = true ∧ w4.heap.size ≤ wr.heap.size ∧ Bt m1 m2 w wr ∧
          MSet 53 .u32 wr m1 (n1 + 1) ((fl.id.toNat : Int) :: S1) ∧ MSet 3 .i64 wr m2 (n2 + k) (fl.blocks.take k ++ S2)) (fun i _ => fl.blocks.length - (intOf i).toNat)
        case atStart => exact ⟨0, by omega, rfl, rfl, Nat.le_refl _, Hb4.out, M1.out, M2.out⟩
        case round =>
          obtain ⟨k, hk, rfl, hbk, hsr, hbr, hr1, hr2⟩ := hrel
          have Hbr := Lib.hid hbr
          have R1 := Lib.hid hr1
          have R2 := Lib.hid hr2
          have Hbk := Lib.hid hbk
          clear hbr hr1 hr2 hbk hc3
          by_cases hlt : k < fl.blocks.length
          · obtain ⟨_, ad, rfl, hab, hcell, hx1, hx2⟩ := (HI.out.below (Hbr.out.low hB1 hB2 hBw)).cells k hlt
            have hbs := blksC_succ S2 fl.blocks k
            rw [Hbk.out, Bool.true_and, blkC_eq S2 _ k hlt] at hbs
            have hbf := fun h => blksC_false S2 fl.blocks k h fl.blocks.length hlt
            have htk : fl.blocks.take (k + 1) = fl.blocks.take k ++ [fl.blocks[k]] := by rw [List.take_add_one, List.getElem?_eq_getElem hlt]; rfl
            generalize fl.blocks[k] = x at *
            obtain ⟨d1, hd1⟩ : ∃ b, b = decide (x ∈ fl.blocks.take k ++ S2) := ⟨_, rfl⟩
            obtain ⟨d2, hd2⟩ : ∃ b, b = decide (x < 32) := ⟨_, rfl⟩
            obtain ⟨d3, hd3⟩ : ∃ b, b = decide (65536 ≤ x) := ⟨_, rfl⟩
            rw [← hd1, ← hd2, ← hd3] at hbs
            have D1 := Lib.hid hd1
            have D2 := Lib.hid hd2
            have D3 := Lib.hid hd3
            have Hbs := Lib.hid hbs
            have Hbf := Lib.hid hbf
            have Htk := Lib.hid htk
            have Hx := Lib.hid (wf_i64 x hx1 hx2)
            clear hd1 hd2 hd3 hbs hbf htk
            go_upto_region 11 with (first
              | (at_lookup; refine wpList_setLook rfl (.tmp 65) (.tmp 66) _ 3 .i64 rfl Try.underlying3 Try.underlying136 m2 (n2 + k) (fl.blocks.take k ++ S2) rfl R2.out x Hx.out rfl ?_; rw [← D1.out])
              | (refine wpList_alloc_z rfl 152 rfl info_none0 [] rfl ?_)
              | (refine wpList_store_new rfl 152 (.tmp 13) (.tmp 68) rfl [] [] rfl rfl info_none0 rfl (by simp) ?_))
            obtain ⟨w5, hw5⟩ : ∃ w5, w5 = wr.alloc (.cells #[] 152) := ⟨_, rfl⟩
            rw [← hw5]
            have hb5 : Below wr.heap.size wr w5 := by rw [hw5]; exact balloc wr _
            have hs5 := hb5.size
            have Hb5 := Lib.hid (Hbr.out.step hb5)
            have Q1 := Lib.hid (R1.out.blw hb5)
            have Q2 := Lib.hid (R2.out.blw hb5)
            clear hw5 hb5 R1 R2 hcell
            have hbad : (d1 || d2 || d3) = true → rightC next S1 S2 fl = false := fun h => by rw [Hr.out]; exact Hbf.out (by rw [Hbs.out, h]; rfl)
            have Hbad := Lib.hid hbad
            clear hbad
            cases hd1 : d1 with
            | true =>
              subst hd1
              go_wp2_with fail
              go_ret
              have hr := Hbad.out rfl
              refine ⟨by rw [hr]; rfl, fun h => ?_, Hb5.out⟩
              rw [hr] at h
              cases h
            | false =>
              subst hd1
              cases hd2 : d2 with
              | true =>
                subst hd2
                have hd := D2.out.symm
                go_wp2_with fail
                go_ret
                have hr := Hbad.out rfl
                refine ⟨by rw [hr]; rfl, fun h => ?_, Hb5.out⟩
                rw [hr] at h
                cases h
              | false =>
                subst hd2
                have hd := D2.out.symm
                cases hd3 : d3 with
                | true =>
                  subst hd3
                  have hd' := D3.out.symm
                  go_wp2_with fail
                  go_ret
                  have hr := Hbad.out rfl
                  refine ⟨by rw [hr]; rfl, fun h => ?_, Hb5.out⟩
                  rw [hr] at h
                  cases h
                | false =>
                  subst hd3
                  have hd' := D3.out.symm
                  go_wp2_with ((at_mapUpdate; refine wpList_setPut rfl (.tmp 79) (.tmp 80) (.tmp 81) _ 3 .i64 rfl Try.underlying3 Try.underlying136 m2 (n2 + k) (fl.blocks.take k ++ S2) rfl Q2.out (by unfold maxLen; omega) x Hx.out rfl rfl ?_; intro w6 P2 hg6))
                  have hs6 := hg6.size
                  go_roundw
                  case rel => exact ⟨k + 1, by omega, by go_num, Hbs.out, by omega, Hb5.out.grown hg6 (.inr rfl), Q1.out.kept hg6 (fun e => Hne.out (by injection e)), P2.congr (fun y => by rw [Htk.out]; exact mem_snocL)⟩
                  case measure => simp [intOf]; omega
          · obtain rfl : k = fl.blocks.length := by omega
            have Hr2 := Lib.hid (Hr.out.trans Hbk.out)
            rw [List.take_length] at R2
            go_wp2_with fail
            go_ret
            exact ⟨by rw [Hr2.out]; rfl, fun _ => ⟨R1.out, R2.out⟩, Hbr.out⟩
end Go.Proofs.Ytpoicbhbkabllaa
