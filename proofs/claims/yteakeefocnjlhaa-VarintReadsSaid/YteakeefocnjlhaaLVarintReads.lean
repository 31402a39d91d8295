/- The law 'VarintReads' returns true for every input, and each argument reads behind the call as it read before. No condition. -/
import Derived.Test.YteakeefocnjlhaaRows
import Derived.Test.YteakeefocnjlhaaIn
import Derived.Test.YteakeefocnjlhaaVarNil
import Derived.Test.YteakeefocnjlhaaVarRefMore
import Derived.Test.YteakeefocnjlhaaTail
import Derived.WalkKit
import Derived.ProofKit
import Derived.OpenShut
import Derived.ShutString
import Derived.ChangeOld
import Derived.Below
namespace Go.Proofs.Yteakeefocnjlhaa.varintReads
open Go.Proofs.Yteakeefocnjlhaa
open Go.ChangeShapes Go.WideShapes Go.ChangeAt Go.RowKit
set_option linter.unusedVariables false
set_option linter.unusedSimpArgs false

theorem own : ownKnob Try.prog.godebug = none := by kernel_rfl
theorem laidOut : laidOutB Try.prog = true := by kernel_rfl

structure Act where
  kind : Int
  num : Int
  most : UInt64
def okI (n : Int) : Prop := -9223372036854775808 ≤ n ∧ n ≤ 9223372036854775807
def cAct : Cdc Act := Cdc.flat 3 (fun a => [.int .i64 a.kind, .int .i64 a.num, .int .u64 (a.most.toNat : Int)]) (fun a => okI a.kind ∧ okI a.num) (fun _ => rfl) (fun x u hu => by
  simp at hu
  rcases hu with rfl | rfl | rfl <;> rfl)
theorem acts_of {w : World} {v : Value} (h : InC w 44 [v]) : ∃ xs, RowOn cAct w (fun k => k < w.heap.size) (fun k => k < w.heap.size) v xs := by
  obtain ⟨v', xs, e, hr⟩ := h.row (C := cAct) Try.underlying44 (by kernel_rfl) (by decide) fun cs hc => by
    obtain ⟨hl, hf⟩ := hc.fields Try.underlying48 (by kernel_rfl) (by kernel_rfl)
    obtain ⟨u0, h0, g0⟩ := hf 0 _ rfl
    obtain ⟨u1, h1, g1⟩ := hf 1 _ rfl
    obtain ⟨u2, h2, g2⟩ := hf 2 _ rfl
    obtain ⟨n0, e0, k0⟩ := InC.i64 (S := fun _ => True) Try.underlying3 g0
    obtain ⟨n1, e1, k1⟩ := InC.i64 (S := fun _ => True) Try.underlying3 g1
    obtain ⟨n2, e2, _⟩ := InC.u64 (S := fun _ => True) Try.underlying26 g2
    simp at e0 e1 e2
    subst e0; subst e1; subst e2
    match cs, hl with
    | [c0, c1, c2], _ =>
      injection h0 with h0
      injection h1 with h1
      injection h2 with h2
      subst h0; subst h1; subst h2
      exact ⟨⟨n0, n1, n2⟩, rfl, k0, k1⟩
  injection e with e
  subst e
  exact ⟨xs, hr⟩

def Ph.numR (B n : Nat) (s : List UInt8) (e : Int) : Ph :=
  ⟨fun v w => ∃ u, v = .tuple #[.int .u64 (n : Int), .agg #[u, .int .i64 e]] ∧ By w B u s ∧ B ≤ w.heap.size, fun _ _ _ ⟨u, h1, h2, h3⟩ hb => ⟨u, h1, h2.below (hb.mono h3), Nat.le_trans h3 hb.size⟩⟩
def Ph.bytesR (B : Nat) (bs s : List UInt8) (e : Int) : Ph :=
  ⟨fun v w => ∃ u0 u, v = .tuple #[u0, .agg #[u, .int .i64 e]] ∧ By w B u0 bs ∧ By w B u s ∧ B ≤ w.heap.size, fun _ _ _ ⟨u0, u, h1, h0, h2, h3⟩ hb => ⟨u0, u, h1, h0.below (hb.mono h3), h2.below (hb.mono h3), Nat.le_trans h3 hb.size⟩⟩
def Ph.byB (B : Nat) (bs : List UInt8) : Ph :=
  ⟨fun v w => By w B v bs ∧ B ≤ w.heap.size, fun _ _ _ ⟨h1, h2⟩ hb => ⟨h1.below (hb.mono h2), Nat.le_trans h2 hb.size⟩⟩
def Ph.rd (B : Nat) (s : List UInt8) (e : Int) : Ph :=
  ⟨fun v w => ∃ u, v = .agg #[u, .int .i64 e] ∧ By w B u s ∧ B ≤ w.heap.size, fun _ _ _ ⟨u, h1, h2, h3⟩ hb => ⟨u, h1, h2.below (hb.mono h3), Nat.le_trans h3 hb.size⟩⟩
def Ph.box (T : TypeId) (B : Nat) (cs : List Value) : Ph :=
  ⟨fun v w => ∃ g, v = .pointer (some ⟨g, 0, none⟩) ∧ B ≤ g ∧ BoxAt T w g cs, fun _ _ _ ⟨g, h1, h2, h3⟩ hb => ⟨g, h1, h2, h3.below h3.lt hb⟩⟩
theorem zeroR (w : World) : (zeroValue 46).run Try.prog w = .ok (.agg #[.slice none 0 0, .int .i64 0]) w := by kernel_rfl

theorem rdSet {w : World} {g : Nat} {l : List UInt8} {e : Int} (h : RdrAt w g l e) (p : Addr) (u : Value) (hp : g < p.block) : RdrAt (w.setCell p u) g l e :=
  h.grown (gset w p u) (fun k hk => by injection hk with hk; omega)
theorem bytesS_err (n : Int) (s : List UInt8) (e : Int) : (bytesS n s e).2.2 ≠ 0 → (bytesS n s e).2.1 = [] := by
  unfold bytesS
  split
  · simp
  · split
    · simp
    · split <;> simp
theorem bytesS_len (n : Int) (s : List UInt8) (e : Int) : (bytesS n s e).2.1.length ≤ s.length := by
  unfold bytesS
  split
  · simp
  · split
    · simp
    · split <;> simp
/-- the state behind an act -/
def actS (a : Act) (s : List UInt8) (e : Int) : List UInt8 × Int :=
  if a.kind = 0 then (numS a.most.toNat s e).2 else if a.kind = 1 then (numS 18446744073709551615 s e).2 else if a.kind = 2 then (badL s e a.num, badE e a.num) else (bytesS a.num s e).2
/-- the model's block, the reader's -/
def St (W0 gR gM : Nat) (w : World) (s : List UInt8) (e : Int) : Prop :=
  RdrAt w gR s e ∧ (∃ vm, BoxAt 46 w gM [vm, .int .i64 e] ∧ By w W0 vm s) ∧ W0 ≤ w.heap.size ∧ W0 ≤ gR ∧ gR < gM ∧ s.length ≤ 1000 ∧ (e ≠ 0 → s = [])

set_option maxRecDepth 100000 in
set_option maxHeartbeats 4000000 in
theorem walk (v0 v1 : Value) (w : World) (h0 : InC w 22 [v0]) (h1 : InC w 44 [v1]) :
    Calls Try.prog 6 #[v0, v1] w fun e w' => e = .returned (.bool true) ∧ Below w.heap.size w w' := by
  obtain ⟨l, hby⟩ := h0.bytes
  obtain ⟨acts, hacts⟩ := acts_of h1
  clear h0 h1
  obtain ⟨A, c, rfl, hc1, hc2, _⟩ := id hby
  obtain ⟨Aa, ca, rfl, ha1, ha2⟩ := hacts.form
  unfold maxLen at hc2 ha2
  by_cases hbig : 1000 < l.length
  · go_enter Try.func6, Try.ntmps6
    go_wp2_with (go_at_call 20; refine (awake03 _).mono ?_; rintro e wa ⟨rfl, hba⟩)
    go_ret
    exact ⟨rfl, hba⟩
  by_cases hbig2 : 100 < acts.length
  · go_enter Try.func6, Try.ntmps6
    go_wp2_with (go_at_call 20; refine (awake03 _).mono ?_; rintro e wa ⟨rfl, hba⟩)
    go_ret
    exact ⟨rfl, hba⟩
  go_enter Try.func6, Try.ntmps6
  go_wp2_with (at_builtin
               refine wpList_app8 rfl (.tmp 27) (.tmp 28) rfl (Ow.new_ w [] (Nat.zero_le _)) (hby.below (balloc _ _)) rfl rfl (by simp; omega) (by simp) ?_
               intro v1 w1 hown1 hext1
               rw [List.nil_append] at hown1)
  have hb01 : Below w.heap.size w w1 := (balloc w _).trans (hext1.below (by simp) (by simp [Value.ownBlock]))
  have hw1 := hb01.size
  obtain ⟨A1, c1, rfl, _, _, _⟩ := hown1.form_
  have hrd := RdrAt.new_ hown1.by_
  refine (vnew_any w1 A1 l.length c1).mono ?_
  rintro _ w2 ⟨rfl, rfl⟩
  clear hext1 hown1
  have hby3 : By (w1.alloc (.cells #[.slice A1 l.length c1, .int .i64 0] 95)) w.heap.size (.slice A l.length c) l := hby.below (hb01.trans ((balloc _ _).mono hw1))
  go_wp2_with fail
  have hbx2 := BoxAt.new_ 46 (w1.alloc (.cells #[.slice A1 l.length c1, .int .i64 0] 95)) [.slice A l.length c, .int .i64 0]
  have hrd2 := hrd.below hrd.lt (balloc _ (.cells #[.slice A l.length c, .int .i64 0] 46))
  have hb2 := (bstep (balloc w1 (.cells #[.slice A1 l.length c1, .int .i64 0] 95)) (balloc _ (.cells #[.slice A l.length c, .int .i64 0] 46)))
  have hb02 := bstep hb01 hb2
  have hby2 := hby.below hb02
  have hst : St w.heap.size w1.heap.size (w1.heap.size + 1) ((w1.alloc (.cells #[.slice A1 l.length c1, .int .i64 0] 95)).alloc (.cells #[.slice A l.length c, .int .i64 0] 46)) l 0 :=
    ⟨hrd2, ⟨_, by simpa using hbx2, hby2⟩, hb02.size, hw1, by omega, by omega, fun h => absurd rfl h⟩
  clear hrd hrd2 hbx2 hb2 hby2 hby3 hby
  obtain ⟨gR, hgR⟩ : ∃ g, w1.heap.size = g := ⟨_, rfl⟩
  rw [hgR] at hst ⊢
  obtain ⟨gM, hgM⟩ : ∃ g, gR + 1 = g := ⟨_, rfl⟩
  rw [hgM] at hst ⊢
  generalize (w1.alloc (.cells #[.slice A1 l.length c1, .int .i64 0] 95)).alloc (.cells #[.slice A l.length c, .int .i64 0] 46) = W2 at *
  generalize hW0 : w.heap.size = W0 at *
  have Hst := Lib.hid hst
  have Hb02 := Lib.hid hb02
  have HW0 := Lib.hid hW0
  clear hst hb02 hgR hgM hb01 hw1 hW0
  go_loopw [7] (fun i wr => ∃ (k : Nat) (s : List UInt8) (e : Int), k ≤ acts.length ∧ i = .int .i64 k ∧ St W0 gR gM wr s e ∧ Below W0 w wr) (fun i _ => acts.length - (intOf i).toNat)
  case atStart => exact ⟨0, l, 0, by omega, rfl, Hst.out, Hb02.out⟩
  case round =>
    obtain ⟨k, s, e, hk, rfl, hst, hbl⟩ := hrel
    by_cases hlt : k < acts.length
    · have hxa : acts[k]? = some (acts[k]'hlt) := List.getElem?_eq_getElem hlt
      obtain ⟨ad, cs, rfl, hab, ⟨rfl, hok⟩, hcs⟩ := hacts.at_ k _ hxa
      have hx : ∀ W, Below W0 w W → ∀ (j : Nat) (u : Value), [Value.int .i64 (acts[k]'hlt).kind, .int .i64 (acts[k]'hlt).num, .int .u64 ((acts[k]'hlt).most.toNat : Int)][j]? = some u → W.cell? (ad.add (k * 3 + j)) = some u :=
        fun W hW j u hu => (hW.cell (by rw [add_block]; exact hab)).trans (hcs j u hu)
      clear hcs hxa
      generalize acts[k]'hlt = act at *
      obtain ⟨kind, num, most⟩ := act
      replace hok : okI kind ∧ okI num := hok
      have hmost := u64_lt most
      generalize most.toNat = most at *
      obtain ⟨hkind, hnum⟩ := hok
      have hx0 : ∀ W, Below W0 w W → W.cell? (ad.add (k * 3)) = some (.int .i64 kind) := fun W hW => hx W hW 0 _ rfl
      have hx1 : ∀ W, Below W0 w W → W.cell? (ad.add (k * 3 + 1)) = some (.int .i64 num) := fun W hW => hx W hW 1 _ rfl
      have hx2 : ∀ W, Below W0 w W → W.cell? (ad.add (k * 3 + 2)) = some (.int .u64 (most : Int)) := fun W hW => hx W hW 2 _ rfl
      have hfa1 : ad.add (k * 3 + 1) = { block := (ad.add (k * 3)).block, off := (ad.add (k * 3)).off + 1 } := by rw [← add_add]; simp [Addr.add]
      have hfa2 : ad.add (k * 3 + 2) = { block := (ad.add (k * 3)).block, off := (ad.add (k * 3)).off + 2 } := by rw [← add_add]; simp [Addr.add]
      have hc0 := hx0 wr hbl
      have hc1 := hx1 wr hbl
      have hc2 := hx2 wr hbl
      rw [hfa1] at hc1
      rw [hfa2] at hc2
      obtain ⟨hr, ⟨vm, hbm, hvm⟩, hWs, hWR, hRM, hsl, hse⟩ := hst
      have Hx0 := Lib.hid hx0
      have Hx1 := Lib.hid hx1
      have Hx2 := Lib.hid hx2
      have Hfa1 := Lib.hid hfa1
      have Hfa2 := Lib.hid hfa2
      have Hse := Lib.hid hse
      clear hx hx0 hx1 hx2 hfa1 hfa2 hse
      by_cases hk0 : kind = 0
      · subst hk0
        have hn := vnum_any wr gR s e most hmost hr
        obtain ⟨nn, s1, e1, hR⟩ : ∃ nn s1 e1, numS most s e = (nn, s1, e1) := ⟨_, _, _, rfl⟩
        rw [hR] at hn
        have hse1 : e1 ≠ 0 → s1 = [] := by have := numS_err most s e; rw [hR] at this; exact fun h => (this h).1
        have hsl1 : s1.length ≤ s.length := by have := numS_len most s e; rw [hR] at this; exact this
        go_wp2_with fail
        refine hn.mono ?_
        rintro _ w3 ⟨rfl, hr3, hg3⟩
        have hWs3 : W0 ≤ w3.heap.size := Nat.le_trans hWs hg3.size
        have hbl3 : Below W0 wr w3 := gofBelow hg3 hWs (fun k hk => by injection hk with hk; omega)
        have hb03 := hbl.trans hbl3
        have hbm3 := hbm.grown hg3 (fun h => by injection h with h; omega)
        have hvm3 := hvm.below hbl3
        have hx2' := fun W (hW : Below w3.heap.size w3 W) => Hx2.out W (hb03.trans (hW.mono hWs3))
        have hx1' := fun W (hW : Below w3.heap.size w3 W) => Hx1.out W (hb03.trans (hW.mono hWs3))
        rw [Hfa2.out] at hx2'
        rw [Hfa1.out] at hx1'
        have Hx2' := Lib.hid hx2'
        have Hx1' := Lib.hid hx1'
        clear hx2' hx1' hg3 hn
        go_wp2_with fail
        have hx2' := Hx2'.out
        have hx1' := Hx1'.out
        refine wp_region_tail (ds := [77, 78, 79, 80, 81, 82, 83, 76, 84, 85, 11, 10]) 12 [some 77, some 78, some 79, some 80, some 81, some 82, some 83, some 76, some 84, some 85, some 11, some 10]
          [Ph.is (.agg #[vm, .int .i64 e]),
            Ph.is (.slice (some ad) acts.length ca),
            Ph.is (.int .i64 (k : Int)),
            Ph.is (.pointer (some (ad.add (k * 3)))),
            Ph.is (.pointer (some { block := (ad.add (k * 3)).block, off := (ad.add (k * 3)).off + 2 })),
            Ph.is (.int .u64 (most : Int)),
            Ph.numR W0 nn s1 e1,
            Ph.numR W0 nn s1 e1,
            Ph.is (.int .u64 (nn : Int)),
            Ph.rd W0 s1 e1,
            Ph.box 46 w3.heap.size [.slice none 0 0, .int .i64 0],
            Ph.is (.int .u64 (nn : Int))] rfl rfl (by kernel_rfl) (by kernel_rfl) (by kernel_rfl) ?_ ?_
        · refine ⟨?_, ?_, ?_, ?_, ?_, ?_, ?_, ?_, ?_, ?_, ?_, ?_, trivial⟩
          · -- 0: slot 77 := Op.load 46 t6
            refine ob_yes fun f w' hb hp => ?_
            simp [PreOf, factOf, valOf, Ph.is, Ph.by_, Ph.any, Region.binds, Ph.numR, Ph.bytesR, Ph.byB, Ph.rd, Ph.box] at hp
            refine ⟨by simp [Gd, valOf, hp], ?_⟩
            refine mild_val (.agg #[vm, .int .i64 e]) ?_ rfl
            have h8 := (hbm3.below hbm3.lt hb).cell 0 _ rfl
            have h9 := (hbm3.below hbm3.lt hb).cell 1 _ rfl
            simp [execOp, evalF, hp, go_sem, h8, h9]
          · -- 1: slot 78 := Op.move t1
            refine ob_yes fun f w' hb hp => ?_
            simp [PreOf, factOf, valOf, Ph.is, Ph.by_, Ph.any, Region.binds, Ph.numR, Ph.bytesR, Ph.byB, Ph.rd, Ph.box] at hp
            refine ⟨by simp [Gd, valOf, hp], ?_⟩
            refine mild_val (.slice (some ad) acts.length ca) ?_ rfl
            simp [execOp, evalF, hp]
          · -- 2: slot 79 := Op.move t7
            refine ob_yes fun f w' hb hp => ?_
            simp [PreOf, factOf, valOf, Ph.is, Ph.by_, Ph.any, Region.binds, Ph.numR, Ph.bytesR, Ph.byB, Ph.rd, Ph.box] at hp
            refine ⟨by simp [Gd, valOf, hp], ?_⟩
            refine mild_val (.int .i64 (k : Int)) ?_ rfl
            simp [execOp, evalF, hp]
          · -- 3: slot 80 := Op.indexAddr 44 t78 t79
            refine ob_yes fun f w' hb hp => ?_
            simp [PreOf, factOf, valOf, Ph.is, Ph.by_, Ph.any, Region.binds, Ph.numR, Ph.bytesR, Ph.byB, Ph.rd, Ph.box] at hp
            refine ⟨by simp [Gd, valOf, hp], ?_⟩
            refine mild_val (.pointer (some (ad.add (k * 3)))) ?_ rfl
            simp [execOp, evalF, hp, go_sem, Nat.not_le.2 hlt]
          · -- 4: slot 81 := Op.fieldAddr 48 t80 2
            refine ob_yes fun f w' hb hp => ?_
            simp [PreOf, factOf, valOf, Ph.is, Ph.by_, Ph.any, Region.binds, Ph.numR, Ph.bytesR, Ph.byB, Ph.rd, Ph.box] at hp
            refine ⟨by simp [Gd, valOf, hp], ?_⟩
            refine mild_val (.pointer (some { block := (ad.add (k * 3)).block, off := (ad.add (k * 3)).off + 2 })) ?_ rfl
            simp [execOp, evalF, hp, go_sem]
          · -- 5: slot 82 := Op.load 26 t81
            refine ob_yes fun f w' hb hp => ?_
            simp [PreOf, factOf, valOf, Ph.is, Ph.by_, Ph.any, Region.binds, Ph.numR, Ph.bytesR, Ph.byB, Ph.rd, Ph.box] at hp
            refine ⟨by simp [Gd, valOf, hp], ?_⟩
            refine mild_val (.int .u64 (most : Int)) ?_ rfl
            have hc := hx2' w' hb
            simp [execOp, evalF, hp, hc, go_sem]
          · -- 6: slot 83 := Op.call   value (Operand.func 32), args := #[t77, t82], argTypes := #[46, 26]  
            refine ob_yes fun f w' hb hp => ?_
            simp [PreOf, factOf, valOf, Ph.is, Ph.by_, Ph.any, Region.binds, Ph.numR, Ph.bytesR, Ph.byB, Ph.rd, Ph.box] at hp
            refine ⟨by simp [Gd, valOf, hp], ?_⟩
            refine mild_call 32 _ _ Try.f32 Try.func32 (by kernel_rfl) (by kernel_rfl) rfl ?_
            simp [evalF, hp, Ph.is, Ph.by_, Ph.any, Ph.numR, Ph.bytesR, Ph.byB, Ph.rd, Ph.box]
            have hc := rnum_any w' W0 vm s e most hmost (hvm3.below (hb.mono hWs3)) (Nat.le_trans hWs3 hb.size) Hse.out
            rw [hR] at hc
            exact hc.mono fun ev w2 ⟨u, h1, h2, h3⟩ => ⟨_, h1, h3, u, rfl, h2, Nat.le_trans (Nat.le_trans hWs3 hb.size) h3.size⟩
          · -- 7: slot 76 := Op.move t83
            refine ob_yes fun f w' hb hp => ?_
            simp [PreOf, factOf, valOf, Ph.is, Ph.by_, Ph.any, Region.binds, Ph.numR, Ph.bytesR, Ph.byB, Ph.rd, Ph.box] at hp
            refine ⟨by simp [Gd, valOf, hp], ?_⟩
            exact mild_val (f 83) (by simp [execOp, evalF]) (by simpa [Ph.numR] using hp)
          · -- 8: slot 84 := Op.extract t76 0
            refine ob_yes fun f w' hb hp => ?_
            simp [PreOf, factOf, valOf, Ph.is, Ph.by_, Ph.any, Region.binds, Ph.numR, Ph.bytesR, Ph.byB, Ph.rd, Ph.box] at hp
            refine ⟨by simp [Gd, valOf, hp], ?_⟩
            obtain ⟨u, h1, h2, h3⟩ := hp
            exact mild_val (.int .u64 (nn : Int)) (by simp [execOp, evalF, h1, go_sem]) rfl
          · -- 9: slot 85 := Op.extract t76 1
            refine ob_yes fun f w' hb hp => ?_
            simp [PreOf, factOf, valOf, Ph.is, Ph.by_, Ph.any, Region.binds, Ph.numR, Ph.bytesR, Ph.byB, Ph.rd, Ph.box] at hp
            refine ⟨by simp [Gd, valOf, hp], ?_⟩
            obtain ⟨u, h1, h2, h3⟩ := hp
            exact mild_val (.agg #[u, .int .i64 e1]) (by simp [execOp, evalF, h1, go_sem]) ⟨u, rfl, h2, h3⟩
          · -- 10: slot 11 := Op.alloc 46
            refine ob_yes fun f w' hb hp => ?_
            simp [PreOf, factOf, valOf, Ph.is, Ph.by_, Ph.any, Region.binds, Ph.numR, Ph.bytesR, Ph.byB, Ph.rd, Ph.box] at hp
            refine ⟨by simp [Gd, valOf, hp], ?_⟩
            refine mild_alloc (.pointer (some ⟨w'.heap.size, 0, none⟩)) (.cells #[.slice none 0 0, .int .i64 0] 46) ?_ ⟨w'.heap.size, rfl, hb.size, BoxAt.new_ _ _ [_, _]⟩
            have hz := zeroR w'
            simp [execOp, evalF, hp, go_sem, hz]
          · -- 11: slot 10 := Op.assign t84
            refine ob_yes fun f w' hb hp => ?_
            simp [PreOf, factOf, valOf, Ph.is, Ph.by_, Ph.any, Region.binds, Ph.numR, Ph.bytesR, Ph.byB, Ph.rd, Ph.box] at hp
            refine ⟨by simp [Gd, valOf, hp], ?_⟩
            refine mild_val (.int .u64 (nn : Int)) ?_ rfl
            simp [execOp, evalF, hp]
        · intro f w2 hb2 hp
          simp only [PostOf, Ph.is, Ph.by_, Ph.any, Ph.numR, Ph.bytesR, Ph.byB, Ph.rd, Ph.box] at hp
          obtain ⟨h0, h1, h2, h3, h4, h5, h6, h7, h8, h9, h10, h11, _⟩ := hp
          simp only [fills, List.foldl_cons, List.foldl_nil, Act.put, List.setIfInBounds_toArray, List.set_cons_zero, List.set_cons_succ, h0, h1, h2, h3, h4, h5, h8, h11]
          clear h0 h1 h2 h3 h4 h5 h8 h11
          generalize f 83 = v83 at *
          generalize f 76 = v76 at *
          generalize f 85 = v85 at *
          generalize f 11 = v11 at *
          simp only [List.drop_succ_cons, List.drop_zero]
          obtain ⟨u, rfl, hu, _⟩ := h9
          obtain ⟨g1, rfl, hg1, hbx⟩ := h10
          obtain ⟨A2, c2, rfl, _, _, _⟩ := id hu
          refine wpList_store_box rfl 46 46 (.tmp 11) (.tmp 85) rfl g1 _ [.slice A2 s1.length c2, .int .i64 e1] rfl rfl hbx rfl (by
            intro x hx
            simp at hx
            rcases hx with rfl | rfl <;> rfl) (by kernel_rfl) ?_
          intro hbx5
          have hbs5 : Below W0 w2 (w2.setRow g1 [.slice A2 s1.length c2, .int .i64 e1].toArray) := bsetRow (Below.refl _ _) (by omega) _
          have hb5 : Below w3.heap.size w3 (w2.setRow g1 [.slice A2 s1.length c2, .int .i64 e1].toArray) := hb2.trans (bsetRow (Below.refl _ _) hg1 _)
          have hu5 := hu.below hbs5
          generalize w2.setRow g1 [.slice A2 s1.length c2, .int .i64 e1].toArray = W5 at *
          have hWs5 : W0 ≤ W5.heap.size := Nat.le_trans hWs3 hb5.size
          have hb05 := hb03.trans (hb5.mono hWs3)
          have hr5 := hr3.below hr3.lt hb5
          have hbm5 := hbm3.below hbm3.lt hb5
          have hy0 := hbx5.cell 0 _ rfl
          have hy1 := hbx5.cell 1 _ rfl
          have hz0 := hbm5.cell 0 _ rfl
          have hz1 := hbm5.cell 1 _ rfl
          have hf0 := hbm5.frozen 0
          have hf1 := hbm5.frozen 1
          go_wp2_with fail
          go_region
          all_goals
            have hbm4 := (hbm5.put 0 (.slice A2 s1.length c2)).put 1 (.int .i64 e1)
            have hb54 : Below W0 W5 ((W5.setCell { block := gM, off := 0 } (.slice A2 s1.length c2)).setCell { block := gM, off := 1 } (.int .i64 e1)).drew :=
              (((Below.refl _ _).setCell (p := ⟨gM, 0, none⟩) (by show _ ≤ gM; omega) _).setCell (p := ⟨gM, 1, none⟩) (by show _ ≤ gM; omega) _).drew
            have hr4 : RdrAt ((W5.setCell { block := gM, off := 0 } (.slice A2 s1.length c2)).setCell { block := gM, off := 1 } (.int .i64 e1)).drew gR s1 e1 :=
              rdSet (rdSet hr5 ⟨gM, 0, none⟩ _ hRM) ⟨gM, 1, none⟩ _ hRM
            have hvm4 := hu5.below hb54
            have hb04 := hb05.trans hb54
            replace hbm4 : BoxAt 46 ((W5.setCell { block := gM, off := 0 } (.slice A2 s1.length c2)).setCell { block := gM, off := 1 } (.int .i64 e1)).drew gM [.slice A2 s1.length c2, .int .i64 e1] := hbm4
            have hW04 : W0 ≤ ((W5.setCell { block := gM, off := 0 } (.slice A2 s1.length c2)).setCell { block := gM, off := 1 } (.int .i64 e1)).drew.heap.size := Nat.le_trans hWs5 hb54.size
            generalize ((W5.setCell { block := gM, off := 0 } (.slice A2 s1.length c2)).setCell { block := gM, off := 1 } (.int .i64 e1)).drew = W4 at *
            clear hy0 hy1 hz0 hz1 hf0 hf1 hbm5 hr5 hu5 hb54 hb5 hbx5
            have hse4 := hse1
            go_wp2_with fail
            refine wp_region_typed [some 129, some 130, some 131, some 132, some 133, some 134, some 135, some 136, some 137, some 138, some 139, some 140, some 141, some 142, some 143, some 144, some 145, some 146, some 147, some 148, some 149, some 150, some 151, some 152] [129, 130, 131, 132, 133, 134, 135, 136, 137, 138, 139, 140, 141, 142, 143, 144, 145, 146, 147, 148, 149, 150, 151, 152]
              [Ph.is (.bool true),
                Ph.is (.bool false),
                Ph.is (.bool false),
                Ph.is (.pointer (some { block := gR, off := 0 })),
                Ph.is (.int .i64 e1),
                Ph.is (.pointer (some { block := gM, off := 1 })),
                Ph.is (.int .i64 e1),
                Ph.is (.bool false),
                Ph.is (.bool false),
                Ph.is (.bool false),
                Ph.is (.pointer (some { block := gR, off := 0 })),
                Ph.is (.int .i64 (s1.length : Int)),
                Ph.is (.pointer (some { block := gM, off := 0 })),
                Ph.is (.slice A2 s1.length c2),
                Ph.is (.int .i64 (s1.length : Int)),
                Ph.is (.bool false),
                Ph.is (.bool false),
                Ph.is (.bool false),
                Ph.is (.pointer (some { block := gR, off := 0 })),
                Ph.is (.int .i64 (endE s1 e1)),
                Ph.is (.agg #[.slice A2 s1.length c2, .int .i64 e1]),
                Ph.is (.int .i64 (endE s1 e1)),
                Ph.is (.bool false),
                Ph.is (.bool false)] rfl rfl (by kernel_rfl) (by kernel_rfl) ?_ ?_
            · refine ⟨?_, ?_, ?_, ?_, ?_, ?_, ?_, ?_, ?_, ?_, ?_, ?_, ?_, ?_, ?_, ?_, ?_, ?_, ?_, ?_, ?_, ?_, ?_, ?_, trivial⟩
              · -- 0: slot 129 := Op.move t8
                refine ob_yes fun f w' hb hp => ?_
                simp [PreOf, factOf, valOf, Ph.is, Ph.by_, Ph.any, Region.binds, Ph.numR, Ph.bytesR, Ph.byB, Ph.rd, Ph.box] at hp
                refine ⟨by simp [Gd, valOf, hp], ?_⟩
                refine mild_val (.bool true) ?_ rfl
                simp [execOp, evalF, hp]
              · -- 1: slot 130 := Op.unOp UnOp.not 4 t129
                refine ob_yes fun f w' hb hp => ?_
                simp [PreOf, factOf, valOf, Ph.is, Ph.by_, Ph.any, Region.binds, Ph.numR, Ph.bytesR, Ph.byB, Ph.rd, Ph.box] at hp
                refine ⟨by simp [Gd, valOf, hp], ?_⟩
                refine mild_val (.bool false) ?_ rfl
                simp [execOp, evalF, hp, go_sem]
              · -- 2: slot 131 := Op.move t130
                refine ob_yes fun f w' hb hp => ?_
                simp [PreOf, factOf, valOf, Ph.is, Ph.by_, Ph.any, Region.binds, Ph.numR, Ph.bytesR, Ph.byB, Ph.rd, Ph.box] at hp
                refine ⟨by simp [Gd, valOf, hp], ?_⟩
                refine mild_val (.bool false) ?_ rfl
                simp [execOp, evalF, hp]
              · -- 3: slot 132 := Op.move t5
                refine ob_yes fun f w' hb hp => ?_
                simp [PreOf, factOf, valOf, Ph.is, Ph.by_, Ph.any, Region.binds, Ph.numR, Ph.bytesR, Ph.byB, Ph.rd, Ph.box] at hp
                refine ⟨by simp [Gd, valOf, hp], ?_⟩
                refine mild_val (.pointer (some { block := gR, off := 0 })) ?_ rfl
                simp [execOp, evalF, hp]
              · -- 4: slot 133 := Op.call   value (Operand.func 31), args := #[t132], argTypes := #[24]  
                refine ob_yes fun f w' hb hp => ?_
                simp [PreOf, factOf, valOf, Ph.is, Ph.by_, Ph.any, Region.binds, Ph.numR, Ph.bytesR, Ph.byB, Ph.rd, Ph.box] at hp
                refine ⟨by simp [Gd, valOf, hp], ?_⟩
                refine mild_call 31 _ _ Try.f31 Try.func31 (by kernel_rfl) (by kernel_rfl) rfl ?_
                simp [evalF, hp, Ph.is, Ph.by_, Ph.any, Ph.numR, Ph.bytesR, Ph.byB, Ph.rd, Ph.box]
                refine (verr_any w' gR s1 e1 (hr4.below hr4.lt hb)).mono fun ev w2 h => ?_
                obtain ⟨rfl, rfl⟩ := h
                first | exact ⟨_, rfl, Below.refl _ _, rfl⟩ | exact ⟨rfl, Below.refl _ _⟩ | exact Below.refl _ _ | simpa using Below.refl _ _
              · -- 5: slot 134 := Op.fieldAddr 46 t6 1
                refine ob_yes fun f w' hb hp => ?_
                simp [PreOf, factOf, valOf, Ph.is, Ph.by_, Ph.any, Region.binds, Ph.numR, Ph.bytesR, Ph.byB, Ph.rd, Ph.box] at hp
                refine ⟨by simp [Gd, valOf, hp], ?_⟩
                refine mild_val (.pointer (some { block := gM, off := 1 })) ?_ rfl
                simp [execOp, evalF, hp, go_sem]
              · -- 6: slot 135 := Op.load 3 t134
                refine ob_yes fun f w' hb hp => ?_
                simp [PreOf, factOf, valOf, Ph.is, Ph.by_, Ph.any, Region.binds, Ph.numR, Ph.bytesR, Ph.byB, Ph.rd, Ph.box] at hp
                refine ⟨by simp [Gd, valOf, hp], ?_⟩
                refine mild_val (.int .i64 e1) ?_ rfl
                have hc := (hbm4.below hbm4.lt hb).cell 1 _ rfl
                simp [execOp, evalF, hp, hc, go_sem]
              · -- 7: slot 136 := Op.binOp BinOp.neq 3 t133 t135 3
                refine ob_yes fun f w' hb hp => ?_
                simp [PreOf, factOf, valOf, Ph.is, Ph.by_, Ph.any, Region.binds, Ph.numR, Ph.bytesR, Ph.byB, Ph.rd, Ph.box] at hp
                refine ⟨by simp [Gd, valOf, hp], ?_⟩
                refine mild_val (.bool false) ?_ rfl
                simp [execOp, evalF, hp, go_sem]
              · -- 8: slot 137 := Op.pick t131 (const (Value.bool true)) t136
                refine ob_yes fun f w' hb hp => ?_
                simp [PreOf, factOf, valOf, Ph.is, Ph.by_, Ph.any, Region.binds, Ph.numR, Ph.bytesR, Ph.byB, Ph.rd, Ph.box] at hp
                refine ⟨by simp [Gd, valOf, hp], ?_⟩
                refine mild_val (.bool false) ?_ rfl
                simp [execOp, evalF, hp, go_sem]
              · -- 9: slot 138 := Op.move t137
                refine ob_yes fun f w' hb hp => ?_
                simp [PreOf, factOf, valOf, Ph.is, Ph.by_, Ph.any, Region.binds, Ph.numR, Ph.bytesR, Ph.byB, Ph.rd, Ph.box] at hp
                refine ⟨by simp [Gd, valOf, hp], ?_⟩
                refine mild_val (.bool false) ?_ rfl
                simp [execOp, evalF, hp]
              · -- 10: slot 139 := Op.move t5
                refine ob_yes fun f w' hb hp => ?_
                simp [PreOf, factOf, valOf, Ph.is, Ph.by_, Ph.any, Region.binds, Ph.numR, Ph.bytesR, Ph.byB, Ph.rd, Ph.box] at hp
                refine ⟨by simp [Gd, valOf, hp], ?_⟩
                refine mild_val (.pointer (some { block := gR, off := 0 })) ?_ rfl
                simp [execOp, evalF, hp]
              · -- 11: slot 140 := Op.call   value (Operand.func 30), args := #[t139], argTypes := #[24]  
                refine ob_yes fun f w' hb hp => ?_
                simp [PreOf, factOf, valOf, Ph.is, Ph.by_, Ph.any, Region.binds, Ph.numR, Ph.bytesR, Ph.byB, Ph.rd, Ph.box] at hp
                refine ⟨by simp [Gd, valOf, hp], ?_⟩
                refine mild_call 30 _ _ Try.f30 Try.func30 (by kernel_rfl) (by kernel_rfl) rfl ?_
                simp [evalF, hp, Ph.is, Ph.by_, Ph.any, Ph.numR, Ph.bytesR, Ph.byB, Ph.rd, Ph.box]
                refine (vleft_any w' gR s1 e1 (hr4.below hr4.lt hb)).mono fun ev w2 h => ?_
                obtain ⟨rfl, rfl⟩ := h
                first | exact ⟨_, rfl, Below.refl _ _, rfl⟩ | exact ⟨rfl, Below.refl _ _⟩ | exact Below.refl _ _ | simpa using Below.refl _ _
              · -- 12: slot 141 := Op.fieldAddr 46 t6 0
                refine ob_yes fun f w' hb hp => ?_
                simp [PreOf, factOf, valOf, Ph.is, Ph.by_, Ph.any, Region.binds, Ph.numR, Ph.bytesR, Ph.byB, Ph.rd, Ph.box] at hp
                refine ⟨by simp [Gd, valOf, hp], ?_⟩
                refine mild_val (.pointer (some { block := gM, off := 0 })) ?_ rfl
                simp [execOp, evalF, hp, go_sem]
              · -- 13: slot 142 := Op.load 22 t141
                refine ob_yes fun f w' hb hp => ?_
                simp [PreOf, factOf, valOf, Ph.is, Ph.by_, Ph.any, Region.binds, Ph.numR, Ph.bytesR, Ph.byB, Ph.rd, Ph.box] at hp
                refine ⟨by simp [Gd, valOf, hp], ?_⟩
                refine mild_val (.slice A2 s1.length c2) ?_ rfl
                have hc := (hbm4.below hbm4.lt hb).cell 0 _ rfl
                simp [execOp, evalF, hp, hc, go_sem]
              · -- 14: slot 143 := Op.call   builtin len, args := #[t142], argTypes := #[22]  
                refine ob_yes fun f w' hb hp => ?_
                simp [PreOf, factOf, valOf, Ph.is, Ph.by_, Ph.any, Region.binds, Ph.numR, Ph.bytesR, Ph.byB, Ph.rd, Ph.box] at hp
                refine ⟨by simp [Gd, valOf, hp], ?_⟩
                refine mild_val (.int .i64 (s1.length : Int)) ?_ rfl
                simp [execOp, evalF, hp, go_sem]
              · -- 15: slot 144 := Op.binOp BinOp.neq 3 t140 t143 3
                refine ob_yes fun f w' hb hp => ?_
                simp [PreOf, factOf, valOf, Ph.is, Ph.by_, Ph.any, Region.binds, Ph.numR, Ph.bytesR, Ph.byB, Ph.rd, Ph.box] at hp
                refine ⟨by simp [Gd, valOf, hp], ?_⟩
                refine mild_val (.bool false) ?_ rfl
                simp [execOp, evalF, hp, go_sem]
              · -- 16: slot 145 := Op.pick t138 (const (Value.bool true)) t144
                refine ob_yes fun f w' hb hp => ?_
                simp [PreOf, factOf, valOf, Ph.is, Ph.by_, Ph.any, Region.binds, Ph.numR, Ph.bytesR, Ph.byB, Ph.rd, Ph.box] at hp
                refine ⟨by simp [Gd, valOf, hp], ?_⟩
                refine mild_val (.bool false) ?_ rfl
                simp [execOp, evalF, hp, go_sem]
              · -- 17: slot 146 := Op.move t145
                refine ob_yes fun f w' hb hp => ?_
                simp [PreOf, factOf, valOf, Ph.is, Ph.by_, Ph.any, Region.binds, Ph.numR, Ph.bytesR, Ph.byB, Ph.rd, Ph.box] at hp
                refine ⟨by simp [Gd, valOf, hp], ?_⟩
                refine mild_val (.bool false) ?_ rfl
                simp [execOp, evalF, hp]
              · -- 18: slot 147 := Op.move t5
                refine ob_yes fun f w' hb hp => ?_
                simp [PreOf, factOf, valOf, Ph.is, Ph.by_, Ph.any, Region.binds, Ph.numR, Ph.bytesR, Ph.byB, Ph.rd, Ph.box] at hp
                refine ⟨by simp [Gd, valOf, hp], ?_⟩
                refine mild_val (.pointer (some { block := gR, off := 0 })) ?_ rfl
                simp [execOp, evalF, hp]
              · -- 19: slot 148 := Op.call   value (Operand.func 23), args := #[t147], argTypes := #[24]  
                refine ob_yes fun f w' hb hp => ?_
                simp [PreOf, factOf, valOf, Ph.is, Ph.by_, Ph.any, Region.binds, Ph.numR, Ph.bytesR, Ph.byB, Ph.rd, Ph.box] at hp
                refine ⟨by simp [Gd, valOf, hp], ?_⟩
                refine mild_call 23 _ _ Try.f23 Try.func23 (by kernel_rfl) (by kernel_rfl) rfl ?_
                simp [evalF, hp, Ph.is, Ph.by_, Ph.any, Ph.numR, Ph.bytesR, Ph.byB, Ph.rd, Ph.box]
                refine (vend_any w' gR s1 e1 (hr4.below hr4.lt hb)).mono fun ev w2 h => ?_
                obtain ⟨rfl, rfl⟩ := h
                first | exact ⟨_, rfl, Below.refl _ _, rfl⟩ | exact ⟨rfl, Below.refl _ _⟩ | exact Below.refl _ _ | simpa using Below.refl _ _
              · -- 20: slot 149 := Op.load 46 t6
                refine ob_yes fun f w' hb hp => ?_
                simp [PreOf, factOf, valOf, Ph.is, Ph.by_, Ph.any, Region.binds, Ph.numR, Ph.bytesR, Ph.byB, Ph.rd, Ph.box] at hp
                refine ⟨by simp [Gd, valOf, hp], ?_⟩
                refine mild_val (.agg #[.slice A2 s1.length c2, .int .i64 e1]) ?_ rfl
                have h8 := (hbm4.below hbm4.lt hb).cell 0 _ rfl
                have h9 := (hbm4.below hbm4.lt hb).cell 1 _ rfl
                simp [execOp, evalF, hp, go_sem, h8, h9]
              · -- 21: slot 150 := Op.call   value (Operand.func 36), args := #[t149], argTypes := #[46]  
                refine ob_yes fun f w' hb hp => ?_
                simp [PreOf, factOf, valOf, Ph.is, Ph.by_, Ph.any, Region.binds, Ph.numR, Ph.bytesR, Ph.byB, Ph.rd, Ph.box] at hp
                refine ⟨by simp [Gd, valOf, hp], ?_⟩
                refine mild_call 36 _ _ Try.f36 Try.func36 (by kernel_rfl) (by kernel_rfl) rfl ?_
                simp [evalF, hp, Ph.is, Ph.by_, Ph.any, Ph.numR, Ph.bytesR, Ph.byB, Ph.rd, Ph.box]
                have hre := rend_any w' (.slice A2 s1.length c2) s1 e1 W0 (hvm4.below (hb.mono hW04))
                rw [endR_eq s1 e1 hse4] at hre
                refine (hre).mono fun ev w2 h => ?_
                obtain ⟨rfl, h2⟩ := h
                first | exact ⟨_, rfl, h2, rfl⟩ | exact ⟨rfl, h2⟩ | simpa using h2
              · -- 22: slot 151 := Op.binOp BinOp.neq 3 t148 t150 3
                refine ob_yes fun f w' hb hp => ?_
                simp [PreOf, factOf, valOf, Ph.is, Ph.by_, Ph.any, Region.binds, Ph.numR, Ph.bytesR, Ph.byB, Ph.rd, Ph.box] at hp
                refine ⟨by simp [Gd, valOf, hp], ?_⟩
                refine mild_val (.bool false) ?_ rfl
                simp [execOp, evalF, hp, go_sem]
              · -- 23: slot 152 := Op.pick t146 (const (Value.bool true)) t151
                refine ob_yes fun f w' hb hp => ?_
                simp [PreOf, factOf, valOf, Ph.is, Ph.by_, Ph.any, Region.binds, Ph.numR, Ph.bytesR, Ph.byB, Ph.rd, Ph.box] at hp
                refine ⟨by simp [Gd, valOf, hp], ?_⟩
                refine mild_val (.bool false) ?_ rfl
                simp [execOp, evalF, hp, go_sem]
            · intro f w2 hb2 hp
              simp only [PostOf, Ph.is, Ph.by_, Ph.any, Ph.numR, Ph.bytesR, Ph.byB, Ph.rd, Ph.box] at hp
              obtain ⟨h0, h1, h2, h3, h4, h5, h6, h7, h8, h9, h10, h11, h12, h13, h14, h15, h16, h17, h18, h19, h20, h21, h22, h23, _⟩ := hp
              simp only [fills, List.foldl_cons, List.foldl_nil, Act.put, List.setIfInBounds_toArray, List.set_cons_zero, List.set_cons_succ, h0, h1, h2, h3, h4, h5, h6, h7, h8, h9, h10, h11, h12, h13, h14, h15, h16, h17, h18, h19, h20, h21, h22, h23]
              clear h0 h1 h2 h3 h4 h5 h6 h7 h8 h9 h10 h11 h12 h13 h14 h15 h16 h17 h18 h19 h20 h21 h22 h23
              go_wp2_with fail
              exact ⟨⟨k + 1, s1, e1, by omega, by go_num, ⟨hr4.below hr4.lt hb2, ⟨_, hbm4.below hbm4.lt hb2, hvm4.below (hb2.mono hW04)⟩, Nat.le_trans hW04 hb2.size, hWR, hRM, by omega, hse1⟩, hb04.trans (hb2.mono hW04)⟩, by simp [intOf]; omega⟩

      by_cases hk1 : kind = 1
      · subst hk1
        have hn := vsigned_any wr gR s e hr
        have hsg := fun W h hW => rsigned_any W W0 vm s e h hW Hse.out
        obtain ⟨nn, s1, e1, hR⟩ : ∃ nn s1 e1, numS 18446744073709551615 s e = (nn, s1, e1) := ⟨_, _, _, rfl⟩
        rw [hR] at hn hsg
        have hse1 : e1 ≠ 0 → s1 = [] := by have := numS_err 18446744073709551615 s e; rw [hR] at this; exact fun h => (this h).1
        have hsl1 : s1.length ≤ s.length := by have := numS_len 18446744073709551615 s e; rw [hR] at this; exact this
        have Hsg := Lib.hid hsg
        clear hsg
        generalize unzz nn = nz at *
        go_wp2_with fail
        refine hn.mono ?_
        rintro _ w3 ⟨rfl, hr3, hg3⟩
        have hWs3 : W0 ≤ w3.heap.size := Nat.le_trans hWs hg3.size
        have hbl3 : Below W0 wr w3 := gofBelow hg3 hWs (fun k hk => by injection hk with hk; omega)
        have hb03 := hbl.trans hbl3
        have hbm3 := hbm.grown hg3 (fun h => by injection h with h; omega)
        have hvm3 := hvm.below hbl3
        have hx2' := fun W (hW : Below w3.heap.size w3 W) => Hx2.out W (hb03.trans (hW.mono hWs3))
        have hx1' := fun W (hW : Below w3.heap.size w3 W) => Hx1.out W (hb03.trans (hW.mono hWs3))
        rw [Hfa2.out] at hx2'
        rw [Hfa1.out] at hx1'
        have Hx2' := Lib.hid hx2'
        have Hx1' := Lib.hid hx1'
        clear hx2' hx1' hg3 hn
        have hm0 := hbm3.cell 0 _ rfl
        have hm1 := hbm3.cell 1 _ rfl
        go_wp2_with fail
        refine (Hsg.out _ hvm3 hWs3).mono ?_
        rintro _ w4 ⟨u, rfl, hu, hb34⟩
        obtain ⟨A2, c2, rfl, _, _, _⟩ := id hu
        have hbx5 := BoxAt.new_ 46 w4 [.slice A2 s1.length c2, .int .i64 e1]
        have hb5 : Below w3.heap.size w3 (w4.alloc (.cells [.slice A2 s1.length c2, .int .i64 e1].toArray 46)) := bstep hb34 (balloc _ _)
        have hu5 := hu.below ((balloc w4 (.cells [.slice A2 s1.length c2, .int .i64 e1].toArray 46)).mono (Nat.le_trans hWs3 hb34.size))
        generalize hg1 : w4.heap.size = g1 at *
        clear hm0 hm1
        go_wp2_with fail
        generalize w4.alloc (.cells #[.slice A2 s1.length c2, .int .i64 e1] 46) = W5 at *
        have hWs5 : W0 ≤ W5.heap.size := Nat.le_trans hWs3 hb5.size
        have hb05 := hb03.trans (hb5.mono hWs3)
        have hr5 := hr3.below hr3.lt hb5
        have hbm5 := hbm3.below hbm3.lt hb5
        have hy0 := hbx5.cell 0 _ rfl
        have hy1 := hbx5.cell 1 _ rfl
        have hz0 := hbm5.cell 0 _ rfl
        have hz1 := hbm5.cell 1 _ rfl
        have hf0 := hbm5.frozen 0
        have hf1 := hbm5.frozen 1
        go_wp2_with fail
        go_region
        all_goals
          have hbm4 := (hbm5.put 0 (.slice A2 s1.length c2)).put 1 (.int .i64 e1)
          have hb54 : Below W0 W5 ((W5.setCell { block := gM, off := 0 } (.slice A2 s1.length c2)).setCell { block := gM, off := 1 } (.int .i64 e1)).drew :=
            (((Below.refl _ _).setCell (p := ⟨gM, 0, none⟩) (by show _ ≤ gM; omega) _).setCell (p := ⟨gM, 1, none⟩) (by show _ ≤ gM; omega) _).drew
          have hr4 : RdrAt ((W5.setCell { block := gM, off := 0 } (.slice A2 s1.length c2)).setCell { block := gM, off := 1 } (.int .i64 e1)).drew gR s1 e1 :=
            rdSet (rdSet hr5 ⟨gM, 0, none⟩ _ hRM) ⟨gM, 1, none⟩ _ hRM
          have hvm4 := hu5.below hb54
          have hb04 := hb05.trans hb54
          replace hbm4 : BoxAt 46 ((W5.setCell { block := gM, off := 0 } (.slice A2 s1.length c2)).setCell { block := gM, off := 1 } (.int .i64 e1)).drew gM [.slice A2 s1.length c2, .int .i64 e1] := hbm4
          have hW04 : W0 ≤ ((W5.setCell { block := gM, off := 0 } (.slice A2 s1.length c2)).setCell { block := gM, off := 1 } (.int .i64 e1)).drew.heap.size := Nat.le_trans hWs5 hb54.size
          generalize ((W5.setCell { block := gM, off := 0 } (.slice A2 s1.length c2)).setCell { block := gM, off := 1 } (.int .i64 e1)).drew = W4 at *
          clear hy0 hy1 hz0 hz1 hf0 hf1 hbm5 hr5 hu5 hb54 hb5 hbx5
          have hse4 := hse1
          go_wp2_with fail
          refine wp_region_typed [some 129, some 130, some 131, some 132, some 133, some 134, some 135, some 136, some 137, some 138, some 139, some 140, some 141, some 142, some 143, some 144, some 145, some 146, some 147, some 148, some 149, some 150, some 151, some 152] [129, 130, 131, 132, 133, 134, 135, 136, 137, 138, 139, 140, 141, 142, 143, 144, 145, 146, 147, 148, 149, 150, 151, 152]
            [Ph.is (.bool true),
              Ph.is (.bool false),
              Ph.is (.bool false),
              Ph.is (.pointer (some { block := gR, off := 0 })),
              Ph.is (.int .i64 e1),
              Ph.is (.pointer (some { block := gM, off := 1 })),
              Ph.is (.int .i64 e1),
              Ph.is (.bool false),
              Ph.is (.bool false),
              Ph.is (.bool false),
              Ph.is (.pointer (some { block := gR, off := 0 })),
              Ph.is (.int .i64 (s1.length : Int)),
              Ph.is (.pointer (some { block := gM, off := 0 })),
              Ph.is (.slice A2 s1.length c2),
              Ph.is (.int .i64 (s1.length : Int)),
              Ph.is (.bool false),
              Ph.is (.bool false),
              Ph.is (.bool false),
              Ph.is (.pointer (some { block := gR, off := 0 })),
              Ph.is (.int .i64 (endE s1 e1)),
              Ph.is (.agg #[.slice A2 s1.length c2, .int .i64 e1]),
              Ph.is (.int .i64 (endE s1 e1)),
              Ph.is (.bool false),
              Ph.is (.bool false)] rfl rfl (by kernel_rfl) (by kernel_rfl) ?_ ?_
          · refine ⟨?_, ?_, ?_, ?_, ?_, ?_, ?_, ?_, ?_, ?_, ?_, ?_, ?_, ?_, ?_, ?_, ?_, ?_, ?_, ?_, ?_, ?_, ?_, ?_, trivial⟩
            · -- 0: slot 129 := Op.move t8
              refine ob_yes fun f w' hb hp => ?_
              simp [PreOf, factOf, valOf, Ph.is, Ph.by_, Ph.any, Region.binds, Ph.numR, Ph.bytesR, Ph.byB, Ph.rd, Ph.box] at hp
              refine ⟨by simp [Gd, valOf, hp], ?_⟩
              refine mild_val (.bool true) ?_ rfl
              simp [execOp, evalF, hp]
            · -- 1: slot 130 := Op.unOp UnOp.not 4 t129
              refine ob_yes fun f w' hb hp => ?_
              simp [PreOf, factOf, valOf, Ph.is, Ph.by_, Ph.any, Region.binds, Ph.numR, Ph.bytesR, Ph.byB, Ph.rd, Ph.box] at hp
              refine ⟨by simp [Gd, valOf, hp], ?_⟩
              refine mild_val (.bool false) ?_ rfl
              simp [execOp, evalF, hp, go_sem]
            · -- 2: slot 131 := Op.move t130
              refine ob_yes fun f w' hb hp => ?_
              simp [PreOf, factOf, valOf, Ph.is, Ph.by_, Ph.any, Region.binds, Ph.numR, Ph.bytesR, Ph.byB, Ph.rd, Ph.box] at hp
              refine ⟨by simp [Gd, valOf, hp], ?_⟩
              refine mild_val (.bool false) ?_ rfl
              simp [execOp, evalF, hp]
            · -- 3: slot 132 := Op.move t5
              refine ob_yes fun f w' hb hp => ?_
              simp [PreOf, factOf, valOf, Ph.is, Ph.by_, Ph.any, Region.binds, Ph.numR, Ph.bytesR, Ph.byB, Ph.rd, Ph.box] at hp
              refine ⟨by simp [Gd, valOf, hp], ?_⟩
              refine mild_val (.pointer (some { block := gR, off := 0 })) ?_ rfl
              simp [execOp, evalF, hp]
            · -- 4: slot 133 := Op.call   value (Operand.func 31), args := #[t132], argTypes := #[24]  
              refine ob_yes fun f w' hb hp => ?_
              simp [PreOf, factOf, valOf, Ph.is, Ph.by_, Ph.any, Region.binds, Ph.numR, Ph.bytesR, Ph.byB, Ph.rd, Ph.box] at hp
              refine ⟨by simp [Gd, valOf, hp], ?_⟩
              refine mild_call 31 _ _ Try.f31 Try.func31 (by kernel_rfl) (by kernel_rfl) rfl ?_
              simp [evalF, hp, Ph.is, Ph.by_, Ph.any, Ph.numR, Ph.bytesR, Ph.byB, Ph.rd, Ph.box]
              refine (verr_any w' gR s1 e1 (hr4.below hr4.lt hb)).mono fun ev w2 h => ?_
              obtain ⟨rfl, rfl⟩ := h
              first | exact ⟨_, rfl, Below.refl _ _, rfl⟩ | exact ⟨rfl, Below.refl _ _⟩ | exact Below.refl _ _ | simpa using Below.refl _ _
            · -- 5: slot 134 := Op.fieldAddr 46 t6 1
              refine ob_yes fun f w' hb hp => ?_
              simp [PreOf, factOf, valOf, Ph.is, Ph.by_, Ph.any, Region.binds, Ph.numR, Ph.bytesR, Ph.byB, Ph.rd, Ph.box] at hp
              refine ⟨by simp [Gd, valOf, hp], ?_⟩
              refine mild_val (.pointer (some { block := gM, off := 1 })) ?_ rfl
              simp [execOp, evalF, hp, go_sem]
            · -- 6: slot 135 := Op.load 3 t134
              refine ob_yes fun f w' hb hp => ?_
              simp [PreOf, factOf, valOf, Ph.is, Ph.by_, Ph.any, Region.binds, Ph.numR, Ph.bytesR, Ph.byB, Ph.rd, Ph.box] at hp
              refine ⟨by simp [Gd, valOf, hp], ?_⟩
              refine mild_val (.int .i64 e1) ?_ rfl
              have hc := (hbm4.below hbm4.lt hb).cell 1 _ rfl
              simp [execOp, evalF, hp, hc, go_sem]
            · -- 7: slot 136 := Op.binOp BinOp.neq 3 t133 t135 3
              refine ob_yes fun f w' hb hp => ?_
              simp [PreOf, factOf, valOf, Ph.is, Ph.by_, Ph.any, Region.binds, Ph.numR, Ph.bytesR, Ph.byB, Ph.rd, Ph.box] at hp
              refine ⟨by simp [Gd, valOf, hp], ?_⟩
              refine mild_val (.bool false) ?_ rfl
              simp [execOp, evalF, hp, go_sem]
            · -- 8: slot 137 := Op.pick t131 (const (Value.bool true)) t136
              refine ob_yes fun f w' hb hp => ?_
              simp [PreOf, factOf, valOf, Ph.is, Ph.by_, Ph.any, Region.binds, Ph.numR, Ph.bytesR, Ph.byB, Ph.rd, Ph.box] at hp
              refine ⟨by simp [Gd, valOf, hp], ?_⟩
              refine mild_val (.bool false) ?_ rfl
              simp [execOp, evalF, hp, go_sem]
            · -- 9: slot 138 := Op.move t137
              refine ob_yes fun f w' hb hp => ?_
              simp [PreOf, factOf, valOf, Ph.is, Ph.by_, Ph.any, Region.binds, Ph.numR, Ph.bytesR, Ph.byB, Ph.rd, Ph.box] at hp
              refine ⟨by simp [Gd, valOf, hp], ?_⟩
              refine mild_val (.bool false) ?_ rfl
              simp [execOp, evalF, hp]
            · -- 10: slot 139 := Op.move t5
              refine ob_yes fun f w' hb hp => ?_
              simp [PreOf, factOf, valOf, Ph.is, Ph.by_, Ph.any, Region.binds, Ph.numR, Ph.bytesR, Ph.byB, Ph.rd, Ph.box] at hp
              refine ⟨by simp [Gd, valOf, hp], ?_⟩
              refine mild_val (.pointer (some { block := gR, off := 0 })) ?_ rfl
              simp [execOp, evalF, hp]
            · -- 11: slot 140 := Op.call   value (Operand.func 30), args := #[t139], argTypes := #[24]  
              refine ob_yes fun f w' hb hp => ?_
              simp [PreOf, factOf, valOf, Ph.is, Ph.by_, Ph.any, Region.binds, Ph.numR, Ph.bytesR, Ph.byB, Ph.rd, Ph.box] at hp
              refine ⟨by simp [Gd, valOf, hp], ?_⟩
              refine mild_call 30 _ _ Try.f30 Try.func30 (by kernel_rfl) (by kernel_rfl) rfl ?_
              simp [evalF, hp, Ph.is, Ph.by_, Ph.any, Ph.numR, Ph.bytesR, Ph.byB, Ph.rd, Ph.box]
              refine (vleft_any w' gR s1 e1 (hr4.below hr4.lt hb)).mono fun ev w2 h => ?_
              obtain ⟨rfl, rfl⟩ := h
              first | exact ⟨_, rfl, Below.refl _ _, rfl⟩ | exact ⟨rfl, Below.refl _ _⟩ | exact Below.refl _ _ | simpa using Below.refl _ _
            · -- 12: slot 141 := Op.fieldAddr 46 t6 0
              refine ob_yes fun f w' hb hp => ?_
              simp [PreOf, factOf, valOf, Ph.is, Ph.by_, Ph.any, Region.binds, Ph.numR, Ph.bytesR, Ph.byB, Ph.rd, Ph.box] at hp
              refine ⟨by simp [Gd, valOf, hp], ?_⟩
              refine mild_val (.pointer (some { block := gM, off := 0 })) ?_ rfl
              simp [execOp, evalF, hp, go_sem]
            · -- 13: slot 142 := Op.load 22 t141
              refine ob_yes fun f w' hb hp => ?_
              simp [PreOf, factOf, valOf, Ph.is, Ph.by_, Ph.any, Region.binds, Ph.numR, Ph.bytesR, Ph.byB, Ph.rd, Ph.box] at hp
              refine ⟨by simp [Gd, valOf, hp], ?_⟩
              refine mild_val (.slice A2 s1.length c2) ?_ rfl
              have hc := (hbm4.below hbm4.lt hb).cell 0 _ rfl
              simp [execOp, evalF, hp, hc, go_sem]
            · -- 14: slot 143 := Op.call   builtin len, args := #[t142], argTypes := #[22]  
              refine ob_yes fun f w' hb hp => ?_
              simp [PreOf, factOf, valOf, Ph.is, Ph.by_, Ph.any, Region.binds, Ph.numR, Ph.bytesR, Ph.byB, Ph.rd, Ph.box] at hp
              refine ⟨by simp [Gd, valOf, hp], ?_⟩
              refine mild_val (.int .i64 (s1.length : Int)) ?_ rfl
              simp [execOp, evalF, hp, go_sem]
            · -- 15: slot 144 := Op.binOp BinOp.neq 3 t140 t143 3
              refine ob_yes fun f w' hb hp => ?_
              simp [PreOf, factOf, valOf, Ph.is, Ph.by_, Ph.any, Region.binds, Ph.numR, Ph.bytesR, Ph.byB, Ph.rd, Ph.box] at hp
              refine ⟨by simp [Gd, valOf, hp], ?_⟩
              refine mild_val (.bool false) ?_ rfl
              simp [execOp, evalF, hp, go_sem]
            · -- 16: slot 145 := Op.pick t138 (const (Value.bool true)) t144
              refine ob_yes fun f w' hb hp => ?_
              simp [PreOf, factOf, valOf, Ph.is, Ph.by_, Ph.any, Region.binds, Ph.numR, Ph.bytesR, Ph.byB, Ph.rd, Ph.box] at hp
              refine ⟨by simp [Gd, valOf, hp], ?_⟩
              refine mild_val (.bool false) ?_ rfl
              simp [execOp, evalF, hp, go_sem]
            · -- 17: slot 146 := Op.move t145
              refine ob_yes fun f w' hb hp => ?_
              simp [PreOf, factOf, valOf, Ph.is, Ph.by_, Ph.any, Region.binds, Ph.numR, Ph.bytesR, Ph.byB, Ph.rd, Ph.box] at hp
              refine ⟨by simp [Gd, valOf, hp], ?_⟩
              refine mild_val (.bool false) ?_ rfl
              simp [execOp, evalF, hp]
            · -- 18: slot 147 := Op.move t5
              refine ob_yes fun f w' hb hp => ?_
              simp [PreOf, factOf, valOf, Ph.is, Ph.by_, Ph.any, Region.binds, Ph.numR, Ph.bytesR, Ph.byB, Ph.rd, Ph.box] at hp
              refine ⟨by simp [Gd, valOf, hp], ?_⟩
              refine mild_val (.pointer (some { block := gR, off := 0 })) ?_ rfl
              simp [execOp, evalF, hp]
            · -- 19: slot 148 := Op.call   value (Operand.func 23), args := #[t147], argTypes := #[24]  
              refine ob_yes fun f w' hb hp => ?_
              simp [PreOf, factOf, valOf, Ph.is, Ph.by_, Ph.any, Region.binds, Ph.numR, Ph.bytesR, Ph.byB, Ph.rd, Ph.box] at hp
              refine ⟨by simp [Gd, valOf, hp], ?_⟩
              refine mild_call 23 _ _ Try.f23 Try.func23 (by kernel_rfl) (by kernel_rfl) rfl ?_
              simp [evalF, hp, Ph.is, Ph.by_, Ph.any, Ph.numR, Ph.bytesR, Ph.byB, Ph.rd, Ph.box]
              refine (vend_any w' gR s1 e1 (hr4.below hr4.lt hb)).mono fun ev w2 h => ?_
              obtain ⟨rfl, rfl⟩ := h
              first | exact ⟨_, rfl, Below.refl _ _, rfl⟩ | exact ⟨rfl, Below.refl _ _⟩ | exact Below.refl _ _ | simpa using Below.refl _ _
            · -- 20: slot 149 := Op.load 46 t6
              refine ob_yes fun f w' hb hp => ?_
              simp [PreOf, factOf, valOf, Ph.is, Ph.by_, Ph.any, Region.binds, Ph.numR, Ph.bytesR, Ph.byB, Ph.rd, Ph.box] at hp
              refine ⟨by simp [Gd, valOf, hp], ?_⟩
              refine mild_val (.agg #[.slice A2 s1.length c2, .int .i64 e1]) ?_ rfl
              have h8 := (hbm4.below hbm4.lt hb).cell 0 _ rfl
              have h9 := (hbm4.below hbm4.lt hb).cell 1 _ rfl
              simp [execOp, evalF, hp, go_sem, h8, h9]
            · -- 21: slot 150 := Op.call   value (Operand.func 36), args := #[t149], argTypes := #[46]  
              refine ob_yes fun f w' hb hp => ?_
              simp [PreOf, factOf, valOf, Ph.is, Ph.by_, Ph.any, Region.binds, Ph.numR, Ph.bytesR, Ph.byB, Ph.rd, Ph.box] at hp
              refine ⟨by simp [Gd, valOf, hp], ?_⟩
              refine mild_call 36 _ _ Try.f36 Try.func36 (by kernel_rfl) (by kernel_rfl) rfl ?_
              simp [evalF, hp, Ph.is, Ph.by_, Ph.any, Ph.numR, Ph.bytesR, Ph.byB, Ph.rd, Ph.box]
              have hre := rend_any w' (.slice A2 s1.length c2) s1 e1 W0 (hvm4.below (hb.mono hW04))
              rw [endR_eq s1 e1 hse4] at hre
              refine (hre).mono fun ev w2 h => ?_
              obtain ⟨rfl, h2⟩ := h
              first | exact ⟨_, rfl, h2, rfl⟩ | exact ⟨rfl, h2⟩ | simpa using h2
            · -- 22: slot 151 := Op.binOp BinOp.neq 3 t148 t150 3
              refine ob_yes fun f w' hb hp => ?_
              simp [PreOf, factOf, valOf, Ph.is, Ph.by_, Ph.any, Region.binds, Ph.numR, Ph.bytesR, Ph.byB, Ph.rd, Ph.box] at hp
              refine ⟨by simp [Gd, valOf, hp], ?_⟩
              refine mild_val (.bool false) ?_ rfl
              simp [execOp, evalF, hp, go_sem]
            · -- 23: slot 152 := Op.pick t146 (const (Value.bool true)) t151
              refine ob_yes fun f w' hb hp => ?_
              simp [PreOf, factOf, valOf, Ph.is, Ph.by_, Ph.any, Region.binds, Ph.numR, Ph.bytesR, Ph.byB, Ph.rd, Ph.box] at hp
              refine ⟨by simp [Gd, valOf, hp], ?_⟩
              refine mild_val (.bool false) ?_ rfl
              simp [execOp, evalF, hp, go_sem]
          · intro f w2 hb2 hp
            simp only [PostOf, Ph.is, Ph.by_, Ph.any, Ph.numR, Ph.bytesR, Ph.byB, Ph.rd, Ph.box] at hp
            obtain ⟨h0, h1, h2, h3, h4, h5, h6, h7, h8, h9, h10, h11, h12, h13, h14, h15, h16, h17, h18, h19, h20, h21, h22, h23, _⟩ := hp
            simp only [fills, List.foldl_cons, List.foldl_nil, Act.put, List.setIfInBounds_toArray, List.set_cons_zero, List.set_cons_succ, h0, h1, h2, h3, h4, h5, h6, h7, h8, h9, h10, h11, h12, h13, h14, h15, h16, h17, h18, h19, h20, h21, h22, h23]
            clear h0 h1 h2 h3 h4 h5 h6 h7 h8 h9 h10 h11 h12 h13 h14 h15 h16 h17 h18 h19 h20 h21 h22 h23
            go_wp2_with fail
            exact ⟨⟨k + 1, s1, e1, by omega, by go_num, ⟨hr4.below hr4.lt hb2, ⟨_, hbm4.below hbm4.lt hb2, hvm4.below (hb2.mono hW04)⟩, Nat.le_trans hW04 hb2.size, hWR, hRM, by omega, hse1⟩, hb04.trans (hb2.mono hW04)⟩, by simp [intOf]; omega⟩

      by_cases hk2 : kind = 2
      · subst hk2
        have hn := vbad_any wr gR s e num hr hnum
        go_wp2_with fail
        refine hn.mono ?_
        rintro _ w3 ⟨rfl, hr3, hg3⟩
        have hWs3 : W0 ≤ w3.heap.size := Nat.le_trans hWs hg3.size
        have hbl3 : Below W0 wr w3 := gofBelow hg3 hWs (fun k hk => by injection hk with hk; omega)
        have hb03 := hbl.trans hbl3
        have hbm3 := hbm.grown hg3 (fun h => by injection h with h; omega)
        have hvm3 := hvm.below hbl3
        have hd1 := Hx1.out w3 hb03
        rw [Hfa1.out] at hd1
        have hm0 := hbm3.cell 0 _ rfl
        have hm1 := hbm3.cell 1 _ rfl
        have hf0 := hbm3.frozen 0
        have hf1 := hbm3.frozen 1
        clear hg3 hn
        by_cases hbb : e = 0 ∧ num ≠ 0
        · obtain ⟨he, hnn⟩ := hbb
          subst he
          have hn1 : (num == 0) = false := by simpa using hnn
          have hn2 : (num != 0) = true := by simpa using hnn
          have e1b : badE 0 num = num := rfl
          have s1b : badL s 0 num = [] := by unfold badL; rw [if_pos ⟨rfl, hnn⟩]
          rw [e1b, s1b] at hr3
          clear e1b s1b hnn
          go_wp2_with fail
          obtain ⟨s1, hs1⟩ : ∃ s1 : List UInt8, [] = s1 := ⟨_, rfl⟩
          obtain ⟨A2, c2, hv⟩ : ∃ A2 c2, Value.slice none 0 0 = .slice A2 s1.length c2 := ⟨none, 0, by rw [← hs1]; rfl⟩
          have hbm4 := (hbm3.put 0 (.slice none 0 0)).put 1 (.int .i64 num)
          have hb54 : Below W0 w3 ((w3.setCell { block := gM, off := 0 } (.slice none 0 0)).setCell { block := gM, off := 1 } (.int .i64 num)) :=
            (((Below.refl _ _).setCell (p := ⟨gM, 0, none⟩) (by show _ ≤ gM; omega) _).setCell (p := ⟨gM, 1, none⟩) (by show _ ≤ gM; omega) _)
          have hr4 : RdrAt ((w3.setCell { block := gM, off := 0 } (.slice none 0 0)).setCell { block := gM, off := 1 } (.int .i64 num)) gR [] num :=
            rdSet (rdSet hr3 ⟨gM, 0, none⟩ _ hRM) ⟨gM, 1, none⟩ _ hRM
          have hvm4 : By ((w3.setCell { block := gM, off := 0 } (.slice none 0 0)).setCell { block := gM, off := 1 } (.int .i64 num)) W0 (.slice none 0 0) [] := By.nil_
          have hb04 := hb03.trans hb54
          have hW04 : W0 ≤ ((w3.setCell { block := gM, off := 0 } (.slice none 0 0)).setCell { block := gM, off := 1 } (.int .i64 num)).heap.size := Nat.le_trans hWs3 hb54.size
          replace hbm4 : BoxAt 46 ((w3.setCell { block := gM, off := 0 } (.slice none 0 0)).setCell { block := gM, off := 1 } (.int .i64 num)) gM [.slice none 0 0, .int .i64 num] := hbm4
          generalize (w3.setCell { block := gM, off := 0 } (.slice none 0 0)).setCell { block := gM, off := 1 } (.int .i64 num) = W4 at *
          have hse1 : num ≠ 0 → s1 = [] := fun _ => hs1.symm
          have hsl1 : s1.length ≤ s.length := by rw [← hs1]; simp
          rw [hs1] at hr4
          rw [hv] at hbm4
          rw [hv, hs1] at hvm4
          clear hb54 hbm3 hr3 hm0 hm1 hf0 hf1 hv
          have Hs1 := Lib.hid hs1
          clear hs1
          have hse4 := hse1
          go_wp2_with fail
          refine wp_region_typed [some 129, some 130, some 131, some 132, some 133, some 134, some 135, some 136, some 137, some 138, some 139, some 140, some 141, some 142, some 143, some 144, some 145, some 146, some 147, some 148, some 149, some 150, some 151, some 152] [129, 130, 131, 132, 133, 134, 135, 136, 137, 138, 139, 140, 141, 142, 143, 144, 145, 146, 147, 148, 149, 150, 151, 152]
            [Ph.is (.bool true),
              Ph.is (.bool false),
              Ph.is (.bool false),
              Ph.is (.pointer (some { block := gR, off := 0 })),
              Ph.is (.int .i64 num),
              Ph.is (.pointer (some { block := gM, off := 1 })),
              Ph.is (.int .i64 num),
              Ph.is (.bool false),
              Ph.is (.bool false),
              Ph.is (.bool false),
              Ph.is (.pointer (some { block := gR, off := 0 })),
              Ph.is (.int .i64 (s1.length : Int)),
              Ph.is (.pointer (some { block := gM, off := 0 })),
              Ph.is (.slice A2 s1.length c2),
              Ph.is (.int .i64 (s1.length : Int)),
              Ph.is (.bool false),
              Ph.is (.bool false),
              Ph.is (.bool false),
              Ph.is (.pointer (some { block := gR, off := 0 })),
              Ph.is (.int .i64 (endE s1 num)),
              Ph.is (.agg #[.slice A2 s1.length c2, .int .i64 num]),
              Ph.is (.int .i64 (endE s1 num)),
              Ph.is (.bool false),
              Ph.is (.bool false)] rfl rfl (by kernel_rfl) (by kernel_rfl) ?_ ?_
          · refine ⟨?_, ?_, ?_, ?_, ?_, ?_, ?_, ?_, ?_, ?_, ?_, ?_, ?_, ?_, ?_, ?_, ?_, ?_, ?_, ?_, ?_, ?_, ?_, ?_, trivial⟩
            · -- 0: slot 129 := Op.move t8
              refine ob_yes fun f w' hb hp => ?_
              simp [PreOf, factOf, valOf, Ph.is, Ph.by_, Ph.any, Region.binds, Ph.numR, Ph.bytesR, Ph.byB, Ph.rd, Ph.box] at hp
              refine ⟨by simp [Gd, valOf, hp], ?_⟩
              refine mild_val (.bool true) ?_ rfl
              simp [execOp, evalF, hp]
            · -- 1: slot 130 := Op.unOp UnOp.not 4 t129
              refine ob_yes fun f w' hb hp => ?_
              simp [PreOf, factOf, valOf, Ph.is, Ph.by_, Ph.any, Region.binds, Ph.numR, Ph.bytesR, Ph.byB, Ph.rd, Ph.box] at hp
              refine ⟨by simp [Gd, valOf, hp], ?_⟩
              refine mild_val (.bool false) ?_ rfl
              simp [execOp, evalF, hp, go_sem]
            · -- 2: slot 131 := Op.move t130
              refine ob_yes fun f w' hb hp => ?_
              simp [PreOf, factOf, valOf, Ph.is, Ph.by_, Ph.any, Region.binds, Ph.numR, Ph.bytesR, Ph.byB, Ph.rd, Ph.box] at hp
              refine ⟨by simp [Gd, valOf, hp], ?_⟩
              refine mild_val (.bool false) ?_ rfl
              simp [execOp, evalF, hp]
            · -- 3: slot 132 := Op.move t5
              refine ob_yes fun f w' hb hp => ?_
              simp [PreOf, factOf, valOf, Ph.is, Ph.by_, Ph.any, Region.binds, Ph.numR, Ph.bytesR, Ph.byB, Ph.rd, Ph.box] at hp
              refine ⟨by simp [Gd, valOf, hp], ?_⟩
              refine mild_val (.pointer (some { block := gR, off := 0 })) ?_ rfl
              simp [execOp, evalF, hp]
            · -- 4: slot 133 := Op.call   value (Operand.func 31), args := #[t132], argTypes := #[24]  
              refine ob_yes fun f w' hb hp => ?_
              simp [PreOf, factOf, valOf, Ph.is, Ph.by_, Ph.any, Region.binds, Ph.numR, Ph.bytesR, Ph.byB, Ph.rd, Ph.box] at hp
              refine ⟨by simp [Gd, valOf, hp], ?_⟩
              refine mild_call 31 _ _ Try.f31 Try.func31 (by kernel_rfl) (by kernel_rfl) rfl ?_
              simp [evalF, hp, Ph.is, Ph.by_, Ph.any, Ph.numR, Ph.bytesR, Ph.byB, Ph.rd, Ph.box]
              refine (verr_any w' gR s1 num (hr4.below hr4.lt hb)).mono fun ev w2 h => ?_
              obtain ⟨rfl, rfl⟩ := h
              first | exact ⟨_, rfl, Below.refl _ _, rfl⟩ | exact ⟨rfl, Below.refl _ _⟩ | exact Below.refl _ _ | simpa using Below.refl _ _
            · -- 5: slot 134 := Op.fieldAddr 46 t6 1
              refine ob_yes fun f w' hb hp => ?_
              simp [PreOf, factOf, valOf, Ph.is, Ph.by_, Ph.any, Region.binds, Ph.numR, Ph.bytesR, Ph.byB, Ph.rd, Ph.box] at hp
              refine ⟨by simp [Gd, valOf, hp], ?_⟩
              refine mild_val (.pointer (some { block := gM, off := 1 })) ?_ rfl
              simp [execOp, evalF, hp, go_sem]
            · -- 6: slot 135 := Op.load 3 t134
              refine ob_yes fun f w' hb hp => ?_
              simp [PreOf, factOf, valOf, Ph.is, Ph.by_, Ph.any, Region.binds, Ph.numR, Ph.bytesR, Ph.byB, Ph.rd, Ph.box] at hp
              refine ⟨by simp [Gd, valOf, hp], ?_⟩
              refine mild_val (.int .i64 num) ?_ rfl
              have hc := (hbm4.below hbm4.lt hb).cell 1 _ rfl
              simp [execOp, evalF, hp, hc, go_sem]
            · -- 7: slot 136 := Op.binOp BinOp.neq 3 t133 t135 3
              refine ob_yes fun f w' hb hp => ?_
              simp [PreOf, factOf, valOf, Ph.is, Ph.by_, Ph.any, Region.binds, Ph.numR, Ph.bytesR, Ph.byB, Ph.rd, Ph.box] at hp
              refine ⟨by simp [Gd, valOf, hp], ?_⟩
              refine mild_val (.bool false) ?_ rfl
              simp [execOp, evalF, hp, go_sem]
            · -- 8: slot 137 := Op.pick t131 (const (Value.bool true)) t136
              refine ob_yes fun f w' hb hp => ?_
              simp [PreOf, factOf, valOf, Ph.is, Ph.by_, Ph.any, Region.binds, Ph.numR, Ph.bytesR, Ph.byB, Ph.rd, Ph.box] at hp
              refine ⟨by simp [Gd, valOf, hp], ?_⟩
              refine mild_val (.bool false) ?_ rfl
              simp [execOp, evalF, hp, go_sem]
            · -- 9: slot 138 := Op.move t137
              refine ob_yes fun f w' hb hp => ?_
              simp [PreOf, factOf, valOf, Ph.is, Ph.by_, Ph.any, Region.binds, Ph.numR, Ph.bytesR, Ph.byB, Ph.rd, Ph.box] at hp
              refine ⟨by simp [Gd, valOf, hp], ?_⟩
              refine mild_val (.bool false) ?_ rfl
              simp [execOp, evalF, hp]
            · -- 10: slot 139 := Op.move t5
              refine ob_yes fun f w' hb hp => ?_
              simp [PreOf, factOf, valOf, Ph.is, Ph.by_, Ph.any, Region.binds, Ph.numR, Ph.bytesR, Ph.byB, Ph.rd, Ph.box] at hp
              refine ⟨by simp [Gd, valOf, hp], ?_⟩
              refine mild_val (.pointer (some { block := gR, off := 0 })) ?_ rfl
              simp [execOp, evalF, hp]
            · -- 11: slot 140 := Op.call   value (Operand.func 30), args := #[t139], argTypes := #[24]  
              refine ob_yes fun f w' hb hp => ?_
              simp [PreOf, factOf, valOf, Ph.is, Ph.by_, Ph.any, Region.binds, Ph.numR, Ph.bytesR, Ph.byB, Ph.rd, Ph.box] at hp
              refine ⟨by simp [Gd, valOf, hp], ?_⟩
              refine mild_call 30 _ _ Try.f30 Try.func30 (by kernel_rfl) (by kernel_rfl) rfl ?_
              simp [evalF, hp, Ph.is, Ph.by_, Ph.any, Ph.numR, Ph.bytesR, Ph.byB, Ph.rd, Ph.box]
              refine (vleft_any w' gR s1 num (hr4.below hr4.lt hb)).mono fun ev w2 h => ?_
              obtain ⟨rfl, rfl⟩ := h
              first | exact ⟨_, rfl, Below.refl _ _, rfl⟩ | exact ⟨rfl, Below.refl _ _⟩ | exact Below.refl _ _ | simpa using Below.refl _ _
            · -- 12: slot 141 := Op.fieldAddr 46 t6 0
              refine ob_yes fun f w' hb hp => ?_
              simp [PreOf, factOf, valOf, Ph.is, Ph.by_, Ph.any, Region.binds, Ph.numR, Ph.bytesR, Ph.byB, Ph.rd, Ph.box] at hp
              refine ⟨by simp [Gd, valOf, hp], ?_⟩
              refine mild_val (.pointer (some { block := gM, off := 0 })) ?_ rfl
              simp [execOp, evalF, hp, go_sem]
            · -- 13: slot 142 := Op.load 22 t141
              refine ob_yes fun f w' hb hp => ?_
              simp [PreOf, factOf, valOf, Ph.is, Ph.by_, Ph.any, Region.binds, Ph.numR, Ph.bytesR, Ph.byB, Ph.rd, Ph.box] at hp
              refine ⟨by simp [Gd, valOf, hp], ?_⟩
              refine mild_val (.slice A2 s1.length c2) ?_ rfl
              have hc := (hbm4.below hbm4.lt hb).cell 0 _ rfl
              simp [execOp, evalF, hp, hc, go_sem]
            · -- 14: slot 143 := Op.call   builtin len, args := #[t142], argTypes := #[22]  
              refine ob_yes fun f w' hb hp => ?_
              simp [PreOf, factOf, valOf, Ph.is, Ph.by_, Ph.any, Region.binds, Ph.numR, Ph.bytesR, Ph.byB, Ph.rd, Ph.box] at hp
              refine ⟨by simp [Gd, valOf, hp], ?_⟩
              refine mild_val (.int .i64 (s1.length : Int)) ?_ rfl
              simp [execOp, evalF, hp, go_sem]
            · -- 15: slot 144 := Op.binOp BinOp.neq 3 t140 t143 3
              refine ob_yes fun f w' hb hp => ?_
              simp [PreOf, factOf, valOf, Ph.is, Ph.by_, Ph.any, Region.binds, Ph.numR, Ph.bytesR, Ph.byB, Ph.rd, Ph.box] at hp
              refine ⟨by simp [Gd, valOf, hp], ?_⟩
              refine mild_val (.bool false) ?_ rfl
              simp [execOp, evalF, hp, go_sem]
            · -- 16: slot 145 := Op.pick t138 (const (Value.bool true)) t144
              refine ob_yes fun f w' hb hp => ?_
              simp [PreOf, factOf, valOf, Ph.is, Ph.by_, Ph.any, Region.binds, Ph.numR, Ph.bytesR, Ph.byB, Ph.rd, Ph.box] at hp
              refine ⟨by simp [Gd, valOf, hp], ?_⟩
              refine mild_val (.bool false) ?_ rfl
              simp [execOp, evalF, hp, go_sem]
            · -- 17: slot 146 := Op.move t145
              refine ob_yes fun f w' hb hp => ?_
              simp [PreOf, factOf, valOf, Ph.is, Ph.by_, Ph.any, Region.binds, Ph.numR, Ph.bytesR, Ph.byB, Ph.rd, Ph.box] at hp
              refine ⟨by simp [Gd, valOf, hp], ?_⟩
              refine mild_val (.bool false) ?_ rfl
              simp [execOp, evalF, hp]
            · -- 18: slot 147 := Op.move t5
              refine ob_yes fun f w' hb hp => ?_
              simp [PreOf, factOf, valOf, Ph.is, Ph.by_, Ph.any, Region.binds, Ph.numR, Ph.bytesR, Ph.byB, Ph.rd, Ph.box] at hp
              refine ⟨by simp [Gd, valOf, hp], ?_⟩
              refine mild_val (.pointer (some { block := gR, off := 0 })) ?_ rfl
              simp [execOp, evalF, hp]
            · -- 19: slot 148 := Op.call   value (Operand.func 23), args := #[t147], argTypes := #[24]  
              refine ob_yes fun f w' hb hp => ?_
              simp [PreOf, factOf, valOf, Ph.is, Ph.by_, Ph.any, Region.binds, Ph.numR, Ph.bytesR, Ph.byB, Ph.rd, Ph.box] at hp
              refine ⟨by simp [Gd, valOf, hp], ?_⟩
              refine mild_call 23 _ _ Try.f23 Try.func23 (by kernel_rfl) (by kernel_rfl) rfl ?_
              simp [evalF, hp, Ph.is, Ph.by_, Ph.any, Ph.numR, Ph.bytesR, Ph.byB, Ph.rd, Ph.box]
              refine (vend_any w' gR s1 num (hr4.below hr4.lt hb)).mono fun ev w2 h => ?_
              obtain ⟨rfl, rfl⟩ := h
              first | exact ⟨_, rfl, Below.refl _ _, rfl⟩ | exact ⟨rfl, Below.refl _ _⟩ | exact Below.refl _ _ | simpa using Below.refl _ _
            · -- 20: slot 149 := Op.load 46 t6
              refine ob_yes fun f w' hb hp => ?_
              simp [PreOf, factOf, valOf, Ph.is, Ph.by_, Ph.any, Region.binds, Ph.numR, Ph.bytesR, Ph.byB, Ph.rd, Ph.box] at hp
              refine ⟨by simp [Gd, valOf, hp], ?_⟩
              refine mild_val (.agg #[.slice A2 s1.length c2, .int .i64 num]) ?_ rfl
              have h8 := (hbm4.below hbm4.lt hb).cell 0 _ rfl
              have h9 := (hbm4.below hbm4.lt hb).cell 1 _ rfl
              simp [execOp, evalF, hp, go_sem, h8, h9]
            · -- 21: slot 150 := Op.call   value (Operand.func 36), args := #[t149], argTypes := #[46]  
              refine ob_yes fun f w' hb hp => ?_
              simp [PreOf, factOf, valOf, Ph.is, Ph.by_, Ph.any, Region.binds, Ph.numR, Ph.bytesR, Ph.byB, Ph.rd, Ph.box] at hp
              refine ⟨by simp [Gd, valOf, hp], ?_⟩
              refine mild_call 36 _ _ Try.f36 Try.func36 (by kernel_rfl) (by kernel_rfl) rfl ?_
              simp [evalF, hp, Ph.is, Ph.by_, Ph.any, Ph.numR, Ph.bytesR, Ph.byB, Ph.rd, Ph.box]
              have hre := rend_any w' (.slice A2 s1.length c2) s1 num W0 (hvm4.below (hb.mono hW04))
              rw [endR_eq s1 num hse4] at hre
              refine (hre).mono fun ev w2 h => ?_
              obtain ⟨rfl, h2⟩ := h
              first | exact ⟨_, rfl, h2, rfl⟩ | exact ⟨rfl, h2⟩ | simpa using h2
            · -- 22: slot 151 := Op.binOp BinOp.neq 3 t148 t150 3
              refine ob_yes fun f w' hb hp => ?_
              simp [PreOf, factOf, valOf, Ph.is, Ph.by_, Ph.any, Region.binds, Ph.numR, Ph.bytesR, Ph.byB, Ph.rd, Ph.box] at hp
              refine ⟨by simp [Gd, valOf, hp], ?_⟩
              refine mild_val (.bool false) ?_ rfl
              simp [execOp, evalF, hp, go_sem]
            · -- 23: slot 152 := Op.pick t146 (const (Value.bool true)) t151
              refine ob_yes fun f w' hb hp => ?_
              simp [PreOf, factOf, valOf, Ph.is, Ph.by_, Ph.any, Region.binds, Ph.numR, Ph.bytesR, Ph.byB, Ph.rd, Ph.box] at hp
              refine ⟨by simp [Gd, valOf, hp], ?_⟩
              refine mild_val (.bool false) ?_ rfl
              simp [execOp, evalF, hp, go_sem]
          · intro f w2 hb2 hp
            simp only [PostOf, Ph.is, Ph.by_, Ph.any, Ph.numR, Ph.bytesR, Ph.byB, Ph.rd, Ph.box] at hp
            obtain ⟨h0, h1, h2, h3, h4, h5, h6, h7, h8, h9, h10, h11, h12, h13, h14, h15, h16, h17, h18, h19, h20, h21, h22, h23, _⟩ := hp
            simp only [fills, List.foldl_cons, List.foldl_nil, Act.put, List.setIfInBounds_toArray, List.set_cons_zero, List.set_cons_succ, h0, h1, h2, h3, h4, h5, h6, h7, h8, h9, h10, h11, h12, h13, h14, h15, h16, h17, h18, h19, h20, h21, h22, h23]
            clear h0 h1 h2 h3 h4 h5 h6 h7 h8 h9 h10 h11 h12 h13 h14 h15 h16 h17 h18 h19 h20 h21 h22 h23
            go_wp2_with fail
            exact ⟨⟨k + 1, s1, num, by omega, by go_num, ⟨hr4.below hr4.lt hb2, ⟨_, hbm4.below hbm4.lt hb2, hvm4.below (hb2.mono hW04)⟩, Nat.le_trans hW04 hb2.size, hWR, hRM, by omega, hse1⟩, hb04.trans (hb2.mono hW04)⟩, by simp [intOf]; omega⟩
        · have e1b : badE e num = e := by
            unfold badE
            split
            · rename_i h; subst h; simp at hbb; exact hbb
            · rfl
          have s1b : badL s e num = s := by unfold badL; rw [if_neg hbb]
          rw [e1b, s1b] at hr3
          clear e1b s1b
          have hbn : (e == 0) = false ∨ ((e == 0) = true ∧ (num != 0) = false) := by
            by_cases he : e = 0
            · right; subst he; simp at hbb ⊢; exact hbb
            · left; simpa using he
          clear hbb
          rcases hbn with hbn | ⟨hbn, hbn2⟩
          · obtain ⟨A2, c2, rfl, _, _, _⟩ := id hvm3
            have hr4 := hr3
            have hbm4 := hbm3
            have hvm4 := hvm3
            have hb04 := hb03
            have hW04 := hWs3
            have hse1 := Hse.out
            have hsl1 : s.length ≤ s.length := Nat.le_refl _
            have hse4 := hse1
            go_wp2_with fail
            refine wp_region_typed [some 129, some 130, some 131, some 132, some 133, some 134, some 135, some 136, some 137, some 138, some 139, some 140, some 141, some 142, some 143, some 144, some 145, some 146, some 147, some 148, some 149, some 150, some 151, some 152] [129, 130, 131, 132, 133, 134, 135, 136, 137, 138, 139, 140, 141, 142, 143, 144, 145, 146, 147, 148, 149, 150, 151, 152]
              [Ph.is (.bool true),
                Ph.is (.bool false),
                Ph.is (.bool false),
                Ph.is (.pointer (some { block := gR, off := 0 })),
                Ph.is (.int .i64 e),
                Ph.is (.pointer (some { block := gM, off := 1 })),
                Ph.is (.int .i64 e),
                Ph.is (.bool false),
                Ph.is (.bool false),
                Ph.is (.bool false),
                Ph.is (.pointer (some { block := gR, off := 0 })),
                Ph.is (.int .i64 (s.length : Int)),
                Ph.is (.pointer (some { block := gM, off := 0 })),
                Ph.is (.slice A2 s.length c2),
                Ph.is (.int .i64 (s.length : Int)),
                Ph.is (.bool false),
                Ph.is (.bool false),
                Ph.is (.bool false),
                Ph.is (.pointer (some { block := gR, off := 0 })),
                Ph.is (.int .i64 (endE s e)),
                Ph.is (.agg #[.slice A2 s.length c2, .int .i64 e]),
                Ph.is (.int .i64 (endE s e)),
                Ph.is (.bool false),
                Ph.is (.bool false)] rfl rfl (by kernel_rfl) (by kernel_rfl) ?_ ?_
            · refine ⟨?_, ?_, ?_, ?_, ?_, ?_, ?_, ?_, ?_, ?_, ?_, ?_, ?_, ?_, ?_, ?_, ?_, ?_, ?_, ?_, ?_, ?_, ?_, ?_, trivial⟩
              · -- 0: slot 129 := Op.move t8
                refine ob_yes fun f w' hb hp => ?_
                simp [PreOf, factOf, valOf, Ph.is, Ph.by_, Ph.any, Region.binds, Ph.numR, Ph.bytesR, Ph.byB, Ph.rd, Ph.box] at hp
                refine ⟨by simp [Gd, valOf, hp], ?_⟩
                refine mild_val (.bool true) ?_ rfl
                simp [execOp, evalF, hp]
              · -- 1: slot 130 := Op.unOp UnOp.not 4 t129
                refine ob_yes fun f w' hb hp => ?_
                simp [PreOf, factOf, valOf, Ph.is, Ph.by_, Ph.any, Region.binds, Ph.numR, Ph.bytesR, Ph.byB, Ph.rd, Ph.box] at hp
                refine ⟨by simp [Gd, valOf, hp], ?_⟩
                refine mild_val (.bool false) ?_ rfl
                simp [execOp, evalF, hp, go_sem]
              · -- 2: slot 131 := Op.move t130
                refine ob_yes fun f w' hb hp => ?_
                simp [PreOf, factOf, valOf, Ph.is, Ph.by_, Ph.any, Region.binds, Ph.numR, Ph.bytesR, Ph.byB, Ph.rd, Ph.box] at hp
                refine ⟨by simp [Gd, valOf, hp], ?_⟩
                refine mild_val (.bool false) ?_ rfl
                simp [execOp, evalF, hp]
              · -- 3: slot 132 := Op.move t5
                refine ob_yes fun f w' hb hp => ?_
                simp [PreOf, factOf, valOf, Ph.is, Ph.by_, Ph.any, Region.binds, Ph.numR, Ph.bytesR, Ph.byB, Ph.rd, Ph.box] at hp
                refine ⟨by simp [Gd, valOf, hp], ?_⟩
                refine mild_val (.pointer (some { block := gR, off := 0 })) ?_ rfl
                simp [execOp, evalF, hp]
              · -- 4: slot 133 := Op.call   value (Operand.func 31), args := #[t132], argTypes := #[24]  
                refine ob_yes fun f w' hb hp => ?_
                simp [PreOf, factOf, valOf, Ph.is, Ph.by_, Ph.any, Region.binds, Ph.numR, Ph.bytesR, Ph.byB, Ph.rd, Ph.box] at hp
                refine ⟨by simp [Gd, valOf, hp], ?_⟩
                refine mild_call 31 _ _ Try.f31 Try.func31 (by kernel_rfl) (by kernel_rfl) rfl ?_
                simp [evalF, hp, Ph.is, Ph.by_, Ph.any, Ph.numR, Ph.bytesR, Ph.byB, Ph.rd, Ph.box]
                refine (verr_any w' gR s e (hr4.below hr4.lt hb)).mono fun ev w2 h => ?_
                obtain ⟨rfl, rfl⟩ := h
                first | exact ⟨_, rfl, Below.refl _ _, rfl⟩ | exact ⟨rfl, Below.refl _ _⟩ | exact Below.refl _ _ | simpa using Below.refl _ _
              · -- 5: slot 134 := Op.fieldAddr 46 t6 1
                refine ob_yes fun f w' hb hp => ?_
                simp [PreOf, factOf, valOf, Ph.is, Ph.by_, Ph.any, Region.binds, Ph.numR, Ph.bytesR, Ph.byB, Ph.rd, Ph.box] at hp
                refine ⟨by simp [Gd, valOf, hp], ?_⟩
                refine mild_val (.pointer (some { block := gM, off := 1 })) ?_ rfl
                simp [execOp, evalF, hp, go_sem]
              · -- 6: slot 135 := Op.load 3 t134
                refine ob_yes fun f w' hb hp => ?_
                simp [PreOf, factOf, valOf, Ph.is, Ph.by_, Ph.any, Region.binds, Ph.numR, Ph.bytesR, Ph.byB, Ph.rd, Ph.box] at hp
                refine ⟨by simp [Gd, valOf, hp], ?_⟩
                refine mild_val (.int .i64 e) ?_ rfl
                have hc := (hbm4.below hbm4.lt hb).cell 1 _ rfl
                simp [execOp, evalF, hp, hc, go_sem]
              · -- 7: slot 136 := Op.binOp BinOp.neq 3 t133 t135 3
                refine ob_yes fun f w' hb hp => ?_
                simp [PreOf, factOf, valOf, Ph.is, Ph.by_, Ph.any, Region.binds, Ph.numR, Ph.bytesR, Ph.byB, Ph.rd, Ph.box] at hp
                refine ⟨by simp [Gd, valOf, hp], ?_⟩
                refine mild_val (.bool false) ?_ rfl
                simp [execOp, evalF, hp, go_sem]
              · -- 8: slot 137 := Op.pick t131 (const (Value.bool true)) t136
                refine ob_yes fun f w' hb hp => ?_
                simp [PreOf, factOf, valOf, Ph.is, Ph.by_, Ph.any, Region.binds, Ph.numR, Ph.bytesR, Ph.byB, Ph.rd, Ph.box] at hp
                refine ⟨by simp [Gd, valOf, hp], ?_⟩
                refine mild_val (.bool false) ?_ rfl
                simp [execOp, evalF, hp, go_sem]
              · -- 9: slot 138 := Op.move t137
                refine ob_yes fun f w' hb hp => ?_
                simp [PreOf, factOf, valOf, Ph.is, Ph.by_, Ph.any, Region.binds, Ph.numR, Ph.bytesR, Ph.byB, Ph.rd, Ph.box] at hp
                refine ⟨by simp [Gd, valOf, hp], ?_⟩
                refine mild_val (.bool false) ?_ rfl
                simp [execOp, evalF, hp]
              · -- 10: slot 139 := Op.move t5
                refine ob_yes fun f w' hb hp => ?_
                simp [PreOf, factOf, valOf, Ph.is, Ph.by_, Ph.any, Region.binds, Ph.numR, Ph.bytesR, Ph.byB, Ph.rd, Ph.box] at hp
                refine ⟨by simp [Gd, valOf, hp], ?_⟩
                refine mild_val (.pointer (some { block := gR, off := 0 })) ?_ rfl
                simp [execOp, evalF, hp]
              · -- 11: slot 140 := Op.call   value (Operand.func 30), args := #[t139], argTypes := #[24]  
                refine ob_yes fun f w' hb hp => ?_
                simp [PreOf, factOf, valOf, Ph.is, Ph.by_, Ph.any, Region.binds, Ph.numR, Ph.bytesR, Ph.byB, Ph.rd, Ph.box] at hp
                refine ⟨by simp [Gd, valOf, hp], ?_⟩
                refine mild_call 30 _ _ Try.f30 Try.func30 (by kernel_rfl) (by kernel_rfl) rfl ?_
                simp [evalF, hp, Ph.is, Ph.by_, Ph.any, Ph.numR, Ph.bytesR, Ph.byB, Ph.rd, Ph.box]
                refine (vleft_any w' gR s e (hr4.below hr4.lt hb)).mono fun ev w2 h => ?_
                obtain ⟨rfl, rfl⟩ := h
                first | exact ⟨_, rfl, Below.refl _ _, rfl⟩ | exact ⟨rfl, Below.refl _ _⟩ | exact Below.refl _ _ | simpa using Below.refl _ _
              · -- 12: slot 141 := Op.fieldAddr 46 t6 0
                refine ob_yes fun f w' hb hp => ?_
                simp [PreOf, factOf, valOf, Ph.is, Ph.by_, Ph.any, Region.binds, Ph.numR, Ph.bytesR, Ph.byB, Ph.rd, Ph.box] at hp
                refine ⟨by simp [Gd, valOf, hp], ?_⟩
                refine mild_val (.pointer (some { block := gM, off := 0 })) ?_ rfl
                simp [execOp, evalF, hp, go_sem]
              · -- 13: slot 142 := Op.load 22 t141
                refine ob_yes fun f w' hb hp => ?_
                simp [PreOf, factOf, valOf, Ph.is, Ph.by_, Ph.any, Region.binds, Ph.numR, Ph.bytesR, Ph.byB, Ph.rd, Ph.box] at hp
                refine ⟨by simp [Gd, valOf, hp], ?_⟩
                refine mild_val (.slice A2 s.length c2) ?_ rfl
                have hc := (hbm4.below hbm4.lt hb).cell 0 _ rfl
                simp [execOp, evalF, hp, hc, go_sem]
              · -- 14: slot 143 := Op.call   builtin len, args := #[t142], argTypes := #[22]  
                refine ob_yes fun f w' hb hp => ?_
                simp [PreOf, factOf, valOf, Ph.is, Ph.by_, Ph.any, Region.binds, Ph.numR, Ph.bytesR, Ph.byB, Ph.rd, Ph.box] at hp
                refine ⟨by simp [Gd, valOf, hp], ?_⟩
                refine mild_val (.int .i64 (s.length : Int)) ?_ rfl
                simp [execOp, evalF, hp, go_sem]
              · -- 15: slot 144 := Op.binOp BinOp.neq 3 t140 t143 3
                refine ob_yes fun f w' hb hp => ?_
                simp [PreOf, factOf, valOf, Ph.is, Ph.by_, Ph.any, Region.binds, Ph.numR, Ph.bytesR, Ph.byB, Ph.rd, Ph.box] at hp
                refine ⟨by simp [Gd, valOf, hp], ?_⟩
                refine mild_val (.bool false) ?_ rfl
                simp [execOp, evalF, hp, go_sem]
              · -- 16: slot 145 := Op.pick t138 (const (Value.bool true)) t144
                refine ob_yes fun f w' hb hp => ?_
                simp [PreOf, factOf, valOf, Ph.is, Ph.by_, Ph.any, Region.binds, Ph.numR, Ph.bytesR, Ph.byB, Ph.rd, Ph.box] at hp
                refine ⟨by simp [Gd, valOf, hp], ?_⟩
                refine mild_val (.bool false) ?_ rfl
                simp [execOp, evalF, hp, go_sem]
              · -- 17: slot 146 := Op.move t145
                refine ob_yes fun f w' hb hp => ?_
                simp [PreOf, factOf, valOf, Ph.is, Ph.by_, Ph.any, Region.binds, Ph.numR, Ph.bytesR, Ph.byB, Ph.rd, Ph.box] at hp
                refine ⟨by simp [Gd, valOf, hp], ?_⟩
                refine mild_val (.bool false) ?_ rfl
                simp [execOp, evalF, hp]
              · -- 18: slot 147 := Op.move t5
                refine ob_yes fun f w' hb hp => ?_
                simp [PreOf, factOf, valOf, Ph.is, Ph.by_, Ph.any, Region.binds, Ph.numR, Ph.bytesR, Ph.byB, Ph.rd, Ph.box] at hp
                refine ⟨by simp [Gd, valOf, hp], ?_⟩
                refine mild_val (.pointer (some { block := gR, off := 0 })) ?_ rfl
                simp [execOp, evalF, hp]
              · -- 19: slot 148 := Op.call   value (Operand.func 23), args := #[t147], argTypes := #[24]  
                refine ob_yes fun f w' hb hp => ?_
                simp [PreOf, factOf, valOf, Ph.is, Ph.by_, Ph.any, Region.binds, Ph.numR, Ph.bytesR, Ph.byB, Ph.rd, Ph.box] at hp
                refine ⟨by simp [Gd, valOf, hp], ?_⟩
                refine mild_call 23 _ _ Try.f23 Try.func23 (by kernel_rfl) (by kernel_rfl) rfl ?_
                simp [evalF, hp, Ph.is, Ph.by_, Ph.any, Ph.numR, Ph.bytesR, Ph.byB, Ph.rd, Ph.box]
                refine (vend_any w' gR s e (hr4.below hr4.lt hb)).mono fun ev w2 h => ?_
                obtain ⟨rfl, rfl⟩ := h
                first | exact ⟨_, rfl, Below.refl _ _, rfl⟩ | exact ⟨rfl, Below.refl _ _⟩ | exact Below.refl _ _ | simpa using Below.refl _ _
              · -- 20: slot 149 := Op.load 46 t6
                refine ob_yes fun f w' hb hp => ?_
                simp [PreOf, factOf, valOf, Ph.is, Ph.by_, Ph.any, Region.binds, Ph.numR, Ph.bytesR, Ph.byB, Ph.rd, Ph.box] at hp
                refine ⟨by simp [Gd, valOf, hp], ?_⟩
                refine mild_val (.agg #[.slice A2 s.length c2, .int .i64 e]) ?_ rfl
                have h8 := (hbm4.below hbm4.lt hb).cell 0 _ rfl
                have h9 := (hbm4.below hbm4.lt hb).cell 1 _ rfl
                simp [execOp, evalF, hp, go_sem, h8, h9]
              · -- 21: slot 150 := Op.call   value (Operand.func 36), args := #[t149], argTypes := #[46]  
                refine ob_yes fun f w' hb hp => ?_
                simp [PreOf, factOf, valOf, Ph.is, Ph.by_, Ph.any, Region.binds, Ph.numR, Ph.bytesR, Ph.byB, Ph.rd, Ph.box] at hp
                refine ⟨by simp [Gd, valOf, hp], ?_⟩
                refine mild_call 36 _ _ Try.f36 Try.func36 (by kernel_rfl) (by kernel_rfl) rfl ?_
                simp [evalF, hp, Ph.is, Ph.by_, Ph.any, Ph.numR, Ph.bytesR, Ph.byB, Ph.rd, Ph.box]
                have hre := rend_any w' (.slice A2 s.length c2) s e W0 (hvm4.below (hb.mono hW04))
                rw [endR_eq s e hse4] at hre
                refine (hre).mono fun ev w2 h => ?_
                obtain ⟨rfl, h2⟩ := h
                first | exact ⟨_, rfl, h2, rfl⟩ | exact ⟨rfl, h2⟩ | simpa using h2
              · -- 22: slot 151 := Op.binOp BinOp.neq 3 t148 t150 3
                refine ob_yes fun f w' hb hp => ?_
                simp [PreOf, factOf, valOf, Ph.is, Ph.by_, Ph.any, Region.binds, Ph.numR, Ph.bytesR, Ph.byB, Ph.rd, Ph.box] at hp
                refine ⟨by simp [Gd, valOf, hp], ?_⟩
                refine mild_val (.bool false) ?_ rfl
                simp [execOp, evalF, hp, go_sem]
              · -- 23: slot 152 := Op.pick t146 (const (Value.bool true)) t151
                refine ob_yes fun f w' hb hp => ?_
                simp [PreOf, factOf, valOf, Ph.is, Ph.by_, Ph.any, Region.binds, Ph.numR, Ph.bytesR, Ph.byB, Ph.rd, Ph.box] at hp
                refine ⟨by simp [Gd, valOf, hp], ?_⟩
                refine mild_val (.bool false) ?_ rfl
                simp [execOp, evalF, hp, go_sem]
            · intro f w2 hb2 hp
              simp only [PostOf, Ph.is, Ph.by_, Ph.any, Ph.numR, Ph.bytesR, Ph.byB, Ph.rd, Ph.box] at hp
              obtain ⟨h0, h1, h2, h3, h4, h5, h6, h7, h8, h9, h10, h11, h12, h13, h14, h15, h16, h17, h18, h19, h20, h21, h22, h23, _⟩ := hp
              simp only [fills, List.foldl_cons, List.foldl_nil, Act.put, List.setIfInBounds_toArray, List.set_cons_zero, List.set_cons_succ, h0, h1, h2, h3, h4, h5, h6, h7, h8, h9, h10, h11, h12, h13, h14, h15, h16, h17, h18, h19, h20, h21, h22, h23]
              clear h0 h1 h2 h3 h4 h5 h6 h7 h8 h9 h10 h11 h12 h13 h14 h15 h16 h17 h18 h19 h20 h21 h22 h23
              go_wp2_with fail
              exact ⟨⟨k + 1, s, e, by omega, by go_num, ⟨hr4.below hr4.lt hb2, ⟨_, hbm4.below hbm4.lt hb2, hvm4.below (hb2.mono hW04)⟩, Nat.le_trans hW04 hb2.size, hWR, hRM, by omega, hse1⟩, hb04.trans (hb2.mono hW04)⟩, by simp [intOf]; omega⟩
          · obtain ⟨A2, c2, rfl, _, _, _⟩ := id hvm3
            have hr4 := hr3
            have hbm4 := hbm3
            have hvm4 := hvm3
            have hb04 := hb03
            have hW04 := hWs3
            have hse1 := Hse.out
            have hsl1 : s.length ≤ s.length := Nat.le_refl _
            have hse4 := hse1
            go_wp2_with fail
            refine wp_region_typed [some 129, some 130, some 131, some 132, some 133, some 134, some 135, some 136, some 137, some 138, some 139, some 140, some 141, some 142, some 143, some 144, some 145, some 146, some 147, some 148, some 149, some 150, some 151, some 152] [129, 130, 131, 132, 133, 134, 135, 136, 137, 138, 139, 140, 141, 142, 143, 144, 145, 146, 147, 148, 149, 150, 151, 152]
              [Ph.is (.bool true),
                Ph.is (.bool false),
                Ph.is (.bool false),
                Ph.is (.pointer (some { block := gR, off := 0 })),
                Ph.is (.int .i64 e),
                Ph.is (.pointer (some { block := gM, off := 1 })),
                Ph.is (.int .i64 e),
                Ph.is (.bool false),
                Ph.is (.bool false),
                Ph.is (.bool false),
                Ph.is (.pointer (some { block := gR, off := 0 })),
                Ph.is (.int .i64 (s.length : Int)),
                Ph.is (.pointer (some { block := gM, off := 0 })),
                Ph.is (.slice A2 s.length c2),
                Ph.is (.int .i64 (s.length : Int)),
                Ph.is (.bool false),
                Ph.is (.bool false),
                Ph.is (.bool false),
                Ph.is (.pointer (some { block := gR, off := 0 })),
                Ph.is (.int .i64 (endE s e)),
                Ph.is (.agg #[.slice A2 s.length c2, .int .i64 e]),
                Ph.is (.int .i64 (endE s e)),
                Ph.is (.bool false),
                Ph.is (.bool false)] rfl rfl (by kernel_rfl) (by kernel_rfl) ?_ ?_
            · refine ⟨?_, ?_, ?_, ?_, ?_, ?_, ?_, ?_, ?_, ?_, ?_, ?_, ?_, ?_, ?_, ?_, ?_, ?_, ?_, ?_, ?_, ?_, ?_, ?_, trivial⟩
              · -- 0: slot 129 := Op.move t8
                refine ob_yes fun f w' hb hp => ?_
                simp [PreOf, factOf, valOf, Ph.is, Ph.by_, Ph.any, Region.binds, Ph.numR, Ph.bytesR, Ph.byB, Ph.rd, Ph.box] at hp
                refine ⟨by simp [Gd, valOf, hp], ?_⟩
                refine mild_val (.bool true) ?_ rfl
                simp [execOp, evalF, hp]
              · -- 1: slot 130 := Op.unOp UnOp.not 4 t129
                refine ob_yes fun f w' hb hp => ?_
                simp [PreOf, factOf, valOf, Ph.is, Ph.by_, Ph.any, Region.binds, Ph.numR, Ph.bytesR, Ph.byB, Ph.rd, Ph.box] at hp
                refine ⟨by simp [Gd, valOf, hp], ?_⟩
                refine mild_val (.bool false) ?_ rfl
                simp [execOp, evalF, hp, go_sem]
              · -- 2: slot 131 := Op.move t130
                refine ob_yes fun f w' hb hp => ?_
                simp [PreOf, factOf, valOf, Ph.is, Ph.by_, Ph.any, Region.binds, Ph.numR, Ph.bytesR, Ph.byB, Ph.rd, Ph.box] at hp
                refine ⟨by simp [Gd, valOf, hp], ?_⟩
                refine mild_val (.bool false) ?_ rfl
                simp [execOp, evalF, hp]
              · -- 3: slot 132 := Op.move t5
                refine ob_yes fun f w' hb hp => ?_
                simp [PreOf, factOf, valOf, Ph.is, Ph.by_, Ph.any, Region.binds, Ph.numR, Ph.bytesR, Ph.byB, Ph.rd, Ph.box] at hp
                refine ⟨by simp [Gd, valOf, hp], ?_⟩
                refine mild_val (.pointer (some { block := gR, off := 0 })) ?_ rfl
                simp [execOp, evalF, hp]
              · -- 4: slot 133 := Op.call   value (Operand.func 31), args := #[t132], argTypes := #[24]  
                refine ob_yes fun f w' hb hp => ?_
                simp [PreOf, factOf, valOf, Ph.is, Ph.by_, Ph.any, Region.binds, Ph.numR, Ph.bytesR, Ph.byB, Ph.rd, Ph.box] at hp
                refine ⟨by simp [Gd, valOf, hp], ?_⟩
                refine mild_call 31 _ _ Try.f31 Try.func31 (by kernel_rfl) (by kernel_rfl) rfl ?_
                simp [evalF, hp, Ph.is, Ph.by_, Ph.any, Ph.numR, Ph.bytesR, Ph.byB, Ph.rd, Ph.box]
                refine (verr_any w' gR s e (hr4.below hr4.lt hb)).mono fun ev w2 h => ?_
                obtain ⟨rfl, rfl⟩ := h
                first | exact ⟨_, rfl, Below.refl _ _, rfl⟩ | exact ⟨rfl, Below.refl _ _⟩ | exact Below.refl _ _ | simpa using Below.refl _ _
              · -- 5: slot 134 := Op.fieldAddr 46 t6 1
                refine ob_yes fun f w' hb hp => ?_
                simp [PreOf, factOf, valOf, Ph.is, Ph.by_, Ph.any, Region.binds, Ph.numR, Ph.bytesR, Ph.byB, Ph.rd, Ph.box] at hp
                refine ⟨by simp [Gd, valOf, hp], ?_⟩
                refine mild_val (.pointer (some { block := gM, off := 1 })) ?_ rfl
                simp [execOp, evalF, hp, go_sem]
              · -- 6: slot 135 := Op.load 3 t134
                refine ob_yes fun f w' hb hp => ?_
                simp [PreOf, factOf, valOf, Ph.is, Ph.by_, Ph.any, Region.binds, Ph.numR, Ph.bytesR, Ph.byB, Ph.rd, Ph.box] at hp
                refine ⟨by simp [Gd, valOf, hp], ?_⟩
                refine mild_val (.int .i64 e) ?_ rfl
                have hc := (hbm4.below hbm4.lt hb).cell 1 _ rfl
                simp [execOp, evalF, hp, hc, go_sem]
              · -- 7: slot 136 := Op.binOp BinOp.neq 3 t133 t135 3
                refine ob_yes fun f w' hb hp => ?_
                simp [PreOf, factOf, valOf, Ph.is, Ph.by_, Ph.any, Region.binds, Ph.numR, Ph.bytesR, Ph.byB, Ph.rd, Ph.box] at hp
                refine ⟨by simp [Gd, valOf, hp], ?_⟩
                refine mild_val (.bool false) ?_ rfl
                simp [execOp, evalF, hp, go_sem]
              · -- 8: slot 137 := Op.pick t131 (const (Value.bool true)) t136
                refine ob_yes fun f w' hb hp => ?_
                simp [PreOf, factOf, valOf, Ph.is, Ph.by_, Ph.any, Region.binds, Ph.numR, Ph.bytesR, Ph.byB, Ph.rd, Ph.box] at hp
                refine ⟨by simp [Gd, valOf, hp], ?_⟩
                refine mild_val (.bool false) ?_ rfl
                simp [execOp, evalF, hp, go_sem]
              · -- 9: slot 138 := Op.move t137
                refine ob_yes fun f w' hb hp => ?_
                simp [PreOf, factOf, valOf, Ph.is, Ph.by_, Ph.any, Region.binds, Ph.numR, Ph.bytesR, Ph.byB, Ph.rd, Ph.box] at hp
                refine ⟨by simp [Gd, valOf, hp], ?_⟩
                refine mild_val (.bool false) ?_ rfl
                simp [execOp, evalF, hp]
              · -- 10: slot 139 := Op.move t5
                refine ob_yes fun f w' hb hp => ?_
                simp [PreOf, factOf, valOf, Ph.is, Ph.by_, Ph.any, Region.binds, Ph.numR, Ph.bytesR, Ph.byB, Ph.rd, Ph.box] at hp
                refine ⟨by simp [Gd, valOf, hp], ?_⟩
                refine mild_val (.pointer (some { block := gR, off := 0 })) ?_ rfl
                simp [execOp, evalF, hp]
              · -- 11: slot 140 := Op.call   value (Operand.func 30), args := #[t139], argTypes := #[24]  
                refine ob_yes fun f w' hb hp => ?_
                simp [PreOf, factOf, valOf, Ph.is, Ph.by_, Ph.any, Region.binds, Ph.numR, Ph.bytesR, Ph.byB, Ph.rd, Ph.box] at hp
                refine ⟨by simp [Gd, valOf, hp], ?_⟩
                refine mild_call 30 _ _ Try.f30 Try.func30 (by kernel_rfl) (by kernel_rfl) rfl ?_
                simp [evalF, hp, Ph.is, Ph.by_, Ph.any, Ph.numR, Ph.bytesR, Ph.byB, Ph.rd, Ph.box]
                refine (vleft_any w' gR s e (hr4.below hr4.lt hb)).mono fun ev w2 h => ?_
                obtain ⟨rfl, rfl⟩ := h
                first | exact ⟨_, rfl, Below.refl _ _, rfl⟩ | exact ⟨rfl, Below.refl _ _⟩ | exact Below.refl _ _ | simpa using Below.refl _ _
              · -- 12: slot 141 := Op.fieldAddr 46 t6 0
                refine ob_yes fun f w' hb hp => ?_
                simp [PreOf, factOf, valOf, Ph.is, Ph.by_, Ph.any, Region.binds, Ph.numR, Ph.bytesR, Ph.byB, Ph.rd, Ph.box] at hp
                refine ⟨by simp [Gd, valOf, hp], ?_⟩
                refine mild_val (.pointer (some { block := gM, off := 0 })) ?_ rfl
                simp [execOp, evalF, hp, go_sem]
              · -- 13: slot 142 := Op.load 22 t141
                refine ob_yes fun f w' hb hp => ?_
                simp [PreOf, factOf, valOf, Ph.is, Ph.by_, Ph.any, Region.binds, Ph.numR, Ph.bytesR, Ph.byB, Ph.rd, Ph.box] at hp
                refine ⟨by simp [Gd, valOf, hp], ?_⟩
                refine mild_val (.slice A2 s.length c2) ?_ rfl
                have hc := (hbm4.below hbm4.lt hb).cell 0 _ rfl
                simp [execOp, evalF, hp, hc, go_sem]
              · -- 14: slot 143 := Op.call   builtin len, args := #[t142], argTypes := #[22]  
                refine ob_yes fun f w' hb hp => ?_
                simp [PreOf, factOf, valOf, Ph.is, Ph.by_, Ph.any, Region.binds, Ph.numR, Ph.bytesR, Ph.byB, Ph.rd, Ph.box] at hp
                refine ⟨by simp [Gd, valOf, hp], ?_⟩
                refine mild_val (.int .i64 (s.length : Int)) ?_ rfl
                simp [execOp, evalF, hp, go_sem]
              · -- 15: slot 144 := Op.binOp BinOp.neq 3 t140 t143 3
                refine ob_yes fun f w' hb hp => ?_
                simp [PreOf, factOf, valOf, Ph.is, Ph.by_, Ph.any, Region.binds, Ph.numR, Ph.bytesR, Ph.byB, Ph.rd, Ph.box] at hp
                refine ⟨by simp [Gd, valOf, hp], ?_⟩
                refine mild_val (.bool false) ?_ rfl
                simp [execOp, evalF, hp, go_sem]
              · -- 16: slot 145 := Op.pick t138 (const (Value.bool true)) t144
                refine ob_yes fun f w' hb hp => ?_
                simp [PreOf, factOf, valOf, Ph.is, Ph.by_, Ph.any, Region.binds, Ph.numR, Ph.bytesR, Ph.byB, Ph.rd, Ph.box] at hp
                refine ⟨by simp [Gd, valOf, hp], ?_⟩
                refine mild_val (.bool false) ?_ rfl
                simp [execOp, evalF, hp, go_sem]
              · -- 17: slot 146 := Op.move t145
                refine ob_yes fun f w' hb hp => ?_
                simp [PreOf, factOf, valOf, Ph.is, Ph.by_, Ph.any, Region.binds, Ph.numR, Ph.bytesR, Ph.byB, Ph.rd, Ph.box] at hp
                refine ⟨by simp [Gd, valOf, hp], ?_⟩
                refine mild_val (.bool false) ?_ rfl
                simp [execOp, evalF, hp]
              · -- 18: slot 147 := Op.move t5
                refine ob_yes fun f w' hb hp => ?_
                simp [PreOf, factOf, valOf, Ph.is, Ph.by_, Ph.any, Region.binds, Ph.numR, Ph.bytesR, Ph.byB, Ph.rd, Ph.box] at hp
                refine ⟨by simp [Gd, valOf, hp], ?_⟩
                refine mild_val (.pointer (some { block := gR, off := 0 })) ?_ rfl
                simp [execOp, evalF, hp]
              · -- 19: slot 148 := Op.call   value (Operand.func 23), args := #[t147], argTypes := #[24]  
                refine ob_yes fun f w' hb hp => ?_
                simp [PreOf, factOf, valOf, Ph.is, Ph.by_, Ph.any, Region.binds, Ph.numR, Ph.bytesR, Ph.byB, Ph.rd, Ph.box] at hp
                refine ⟨by simp [Gd, valOf, hp], ?_⟩
                refine mild_call 23 _ _ Try.f23 Try.func23 (by kernel_rfl) (by kernel_rfl) rfl ?_
                simp [evalF, hp, Ph.is, Ph.by_, Ph.any, Ph.numR, Ph.bytesR, Ph.byB, Ph.rd, Ph.box]
                refine (vend_any w' gR s e (hr4.below hr4.lt hb)).mono fun ev w2 h => ?_
                obtain ⟨rfl, rfl⟩ := h
                first | exact ⟨_, rfl, Below.refl _ _, rfl⟩ | exact ⟨rfl, Below.refl _ _⟩ | exact Below.refl _ _ | simpa using Below.refl _ _
              · -- 20: slot 149 := Op.load 46 t6
                refine ob_yes fun f w' hb hp => ?_
                simp [PreOf, factOf, valOf, Ph.is, Ph.by_, Ph.any, Region.binds, Ph.numR, Ph.bytesR, Ph.byB, Ph.rd, Ph.box] at hp
                refine ⟨by simp [Gd, valOf, hp], ?_⟩
                refine mild_val (.agg #[.slice A2 s.length c2, .int .i64 e]) ?_ rfl
                have h8 := (hbm4.below hbm4.lt hb).cell 0 _ rfl
                have h9 := (hbm4.below hbm4.lt hb).cell 1 _ rfl
                simp [execOp, evalF, hp, go_sem, h8, h9]
              · -- 21: slot 150 := Op.call   value (Operand.func 36), args := #[t149], argTypes := #[46]  
                refine ob_yes fun f w' hb hp => ?_
                simp [PreOf, factOf, valOf, Ph.is, Ph.by_, Ph.any, Region.binds, Ph.numR, Ph.bytesR, Ph.byB, Ph.rd, Ph.box] at hp
                refine ⟨by simp [Gd, valOf, hp], ?_⟩
                refine mild_call 36 _ _ Try.f36 Try.func36 (by kernel_rfl) (by kernel_rfl) rfl ?_
                simp [evalF, hp, Ph.is, Ph.by_, Ph.any, Ph.numR, Ph.bytesR, Ph.byB, Ph.rd, Ph.box]
                have hre := rend_any w' (.slice A2 s.length c2) s e W0 (hvm4.below (hb.mono hW04))
                rw [endR_eq s e hse4] at hre
                refine (hre).mono fun ev w2 h => ?_
                obtain ⟨rfl, h2⟩ := h
                first | exact ⟨_, rfl, h2, rfl⟩ | exact ⟨rfl, h2⟩ | simpa using h2
              · -- 22: slot 151 := Op.binOp BinOp.neq 3 t148 t150 3
                refine ob_yes fun f w' hb hp => ?_
                simp [PreOf, factOf, valOf, Ph.is, Ph.by_, Ph.any, Region.binds, Ph.numR, Ph.bytesR, Ph.byB, Ph.rd, Ph.box] at hp
                refine ⟨by simp [Gd, valOf, hp], ?_⟩
                refine mild_val (.bool false) ?_ rfl
                simp [execOp, evalF, hp, go_sem]
              · -- 23: slot 152 := Op.pick t146 (const (Value.bool true)) t151
                refine ob_yes fun f w' hb hp => ?_
                simp [PreOf, factOf, valOf, Ph.is, Ph.by_, Ph.any, Region.binds, Ph.numR, Ph.bytesR, Ph.byB, Ph.rd, Ph.box] at hp
                refine ⟨by simp [Gd, valOf, hp], ?_⟩
                refine mild_val (.bool false) ?_ rfl
                simp [execOp, evalF, hp, go_sem]
            · intro f w2 hb2 hp
              simp only [PostOf, Ph.is, Ph.by_, Ph.any, Ph.numR, Ph.bytesR, Ph.byB, Ph.rd, Ph.box] at hp
              obtain ⟨h0, h1, h2, h3, h4, h5, h6, h7, h8, h9, h10, h11, h12, h13, h14, h15, h16, h17, h18, h19, h20, h21, h22, h23, _⟩ := hp
              simp only [fills, List.foldl_cons, List.foldl_nil, Act.put, List.setIfInBounds_toArray, List.set_cons_zero, List.set_cons_succ, h0, h1, h2, h3, h4, h5, h6, h7, h8, h9, h10, h11, h12, h13, h14, h15, h16, h17, h18, h19, h20, h21, h22, h23]
              clear h0 h1 h2 h3 h4 h5 h6 h7 h8 h9 h10 h11 h12 h13 h14 h15 h16 h17 h18 h19 h20 h21 h22 h23
              go_wp2_with fail
              exact ⟨⟨k + 1, s, e, by omega, by go_num, ⟨hr4.below hr4.lt hb2, ⟨_, hbm4.below hbm4.lt hb2, hvm4.below (hb2.mono hW04)⟩, Nat.le_trans hW04 hb2.size, hWR, hRM, by omega, hse1⟩, hb04.trans (hb2.mono hW04)⟩, by simp [intOf]; omega⟩

      · have hk0' : (kind == 0) = false := by simpa using hk0
        have hk1' : (kind == 1) = false := by simpa using hk1
        have hk2' : (kind == 2) = false := by simpa using hk2
        have hn := vbytes_any wr gR s e num hnum (by omega) hr
        obtain ⟨bb, s1, e1, hR⟩ : ∃ bb s1 e1, bytesS num s e = (bb, s1, e1) := ⟨_, _, _, rfl⟩
        rw [hR] at hn
        have hse1 : e1 ≠ 0 → s1 = [] := by have := bytesS_err num s e; rw [hR] at this; exact this
        have hsl1 : s1.length ≤ s.length := by have := bytesS_len num s e; rw [hR] at this; exact this
        go_wp2_with fail
        refine hn.mono ?_
        rintro _ w3 ⟨vx, rfl, hox3, hr3, hg3⟩
        have hWs3 : W0 ≤ w3.heap.size := Nat.le_trans hWs hg3.size
        have hbl3 : Below W0 wr w3 := gofBelow hg3 hWs (fun k hk => by injection hk with hk; omega)
        have hb03 := hbl.trans hbl3
        have hbm3 := hbm.grown hg3 (fun h => by injection h with h; omega)
        have hvm3 := hvm.below hbl3
        have hx2' := fun W (hW : Below w3.heap.size w3 W) => Hx2.out W (hb03.trans (hW.mono hWs3))
        have hx1' := fun W (hW : Below w3.heap.size w3 W) => Hx1.out W (hb03.trans (hW.mono hWs3))
        rw [Hfa2.out] at hx2'
        rw [Hfa1.out] at hx1'
        have Hx2' := Lib.hid hx2'
        have Hx1' := Lib.hid hx1'
        clear hx2' hx1' hg3 hn
        go_wp2_with fail
        have hx2' := Hx2'.out
        have hx1' := Hx1'.out
        refine wp_region_tail (ds := [52, 53, 54, 55, 56, 57, 58, 51, 59, 60, 17, 16]) 12 [some 52, some 53, some 54, some 55, some 56, some 57, some 58, some 51, some 59, some 60, some 17, some 16]
          [Ph.is (.agg #[vm, .int .i64 e]),
            Ph.is (.slice (some ad) acts.length ca),
            Ph.is (.int .i64 (k : Int)),
            Ph.is (.pointer (some (ad.add (k * 3)))),
            Ph.is (.pointer (some { block := (ad.add (k * 3)).block, off := (ad.add (k * 3)).off + 1 })),
            Ph.is (.int .i64 num),
            Ph.bytesR W0 bb s1 e1,
            Ph.bytesR W0 bb s1 e1,
            Ph.byB W0 bb,
            Ph.rd W0 s1 e1,
            Ph.box 46 w3.heap.size [.slice none 0 0, .int .i64 0],
            Ph.byB W0 bb] rfl rfl (by kernel_rfl) (by kernel_rfl) (by kernel_rfl) ?_ ?_
        · refine ⟨?_, ?_, ?_, ?_, ?_, ?_, ?_, ?_, ?_, ?_, ?_, ?_, trivial⟩
          · -- 0: slot 52 := Op.load 46 t6
            refine ob_yes fun f w' hb hp => ?_
            simp [PreOf, factOf, valOf, Ph.is, Ph.by_, Ph.any, Region.binds, Ph.numR, Ph.bytesR, Ph.byB, Ph.rd, Ph.box] at hp
            refine ⟨by simp [Gd, valOf, hp], ?_⟩
            refine mild_val (.agg #[vm, .int .i64 e]) ?_ rfl
            have h8 := (hbm3.below hbm3.lt hb).cell 0 _ rfl
            have h9 := (hbm3.below hbm3.lt hb).cell 1 _ rfl
            simp [execOp, evalF, hp, go_sem, h8, h9]
          · -- 1: slot 53 := Op.move t1
            refine ob_yes fun f w' hb hp => ?_
            simp [PreOf, factOf, valOf, Ph.is, Ph.by_, Ph.any, Region.binds, Ph.numR, Ph.bytesR, Ph.byB, Ph.rd, Ph.box] at hp
            refine ⟨by simp [Gd, valOf, hp], ?_⟩
            refine mild_val (.slice (some ad) acts.length ca) ?_ rfl
            simp [execOp, evalF, hp]
          · -- 2: slot 54 := Op.move t7
            refine ob_yes fun f w' hb hp => ?_
            simp [PreOf, factOf, valOf, Ph.is, Ph.by_, Ph.any, Region.binds, Ph.numR, Ph.bytesR, Ph.byB, Ph.rd, Ph.box] at hp
            refine ⟨by simp [Gd, valOf, hp], ?_⟩
            refine mild_val (.int .i64 (k : Int)) ?_ rfl
            simp [execOp, evalF, hp]
          · -- 3: slot 55 := Op.indexAddr 44 t53 t54
            refine ob_yes fun f w' hb hp => ?_
            simp [PreOf, factOf, valOf, Ph.is, Ph.by_, Ph.any, Region.binds, Ph.numR, Ph.bytesR, Ph.byB, Ph.rd, Ph.box] at hp
            refine ⟨by simp [Gd, valOf, hp], ?_⟩
            refine mild_val (.pointer (some (ad.add (k * 3)))) ?_ rfl
            simp [execOp, evalF, hp, go_sem, Nat.not_le.2 hlt]
          · -- 4: slot 56 := Op.fieldAddr 48 t55 1
            refine ob_yes fun f w' hb hp => ?_
            simp [PreOf, factOf, valOf, Ph.is, Ph.by_, Ph.any, Region.binds, Ph.numR, Ph.bytesR, Ph.byB, Ph.rd, Ph.box] at hp
            refine ⟨by simp [Gd, valOf, hp], ?_⟩
            refine mild_val (.pointer (some { block := (ad.add (k * 3)).block, off := (ad.add (k * 3)).off + 1 })) ?_ rfl
            simp [execOp, evalF, hp, go_sem]
          · -- 5: slot 57 := Op.load 3 t56
            refine ob_yes fun f w' hb hp => ?_
            simp [PreOf, factOf, valOf, Ph.is, Ph.by_, Ph.any, Region.binds, Ph.numR, Ph.bytesR, Ph.byB, Ph.rd, Ph.box] at hp
            refine ⟨by simp [Gd, valOf, hp], ?_⟩
            refine mild_val (.int .i64 num) ?_ rfl
            have hc := hx1' w' hb
            simp [execOp, evalF, hp, hc, go_sem]
          · -- 6: slot 58 := Op.call   value (Operand.func 35), args := #[t52, t57], argTypes := #[46, 3]  
            refine ob_yes fun f w' hb hp => ?_
            simp [PreOf, factOf, valOf, Ph.is, Ph.by_, Ph.any, Region.binds, Ph.numR, Ph.bytesR, Ph.byB, Ph.rd, Ph.box] at hp
            refine ⟨by simp [Gd, valOf, hp], ?_⟩
            refine mild_call 35 _ _ Try.f35 Try.func35 (by kernel_rfl) (by kernel_rfl) rfl ?_
            simp [evalF, hp, Ph.is, Ph.by_, Ph.any, Ph.numR, Ph.bytesR, Ph.byB, Ph.rd, Ph.box]
            have hc := rbytes_any w' W0 vm s e num hnum (hvm3.below (hb.mono hWs3)) (Nat.le_trans hWs3 hb.size) Hse.out
            rw [hR] at hc
            exact hc.mono fun ev w2 ⟨u0, u, h1, h0, h2, h3⟩ => ⟨_, h1, h3, u0, u, rfl, h0, h2, Nat.le_trans (Nat.le_trans hWs3 hb.size) h3.size⟩
          · -- 7: slot 51 := Op.move t58
            refine ob_yes fun f w' hb hp => ?_
            simp [PreOf, factOf, valOf, Ph.is, Ph.by_, Ph.any, Region.binds, Ph.numR, Ph.bytesR, Ph.byB, Ph.rd, Ph.box] at hp
            refine ⟨by simp [Gd, valOf, hp], ?_⟩
            exact mild_val (f 58) (by simp [execOp, evalF]) (by simpa [Ph.bytesR] using hp)
          · -- 8: slot 59 := Op.extract t51 0
            refine ob_yes fun f w' hb hp => ?_
            simp [PreOf, factOf, valOf, Ph.is, Ph.by_, Ph.any, Region.binds, Ph.numR, Ph.bytesR, Ph.byB, Ph.rd, Ph.box] at hp
            refine ⟨by simp [Gd, valOf, hp], ?_⟩
            obtain ⟨u0, u, h1, h0, h2, h3⟩ := hp
            exact mild_val u0 (by simp [execOp, evalF, h1, go_sem]) ⟨h0, h3⟩
          · -- 9: slot 60 := Op.extract t51 1
            refine ob_yes fun f w' hb hp => ?_
            simp [PreOf, factOf, valOf, Ph.is, Ph.by_, Ph.any, Region.binds, Ph.numR, Ph.bytesR, Ph.byB, Ph.rd, Ph.box] at hp
            refine ⟨by simp [Gd, valOf, hp], ?_⟩
            obtain ⟨u0, u, h1, h0, h2, h3⟩ := hp
            exact mild_val (.agg #[u, .int .i64 e1]) (by simp [execOp, evalF, h1, go_sem]) ⟨u, rfl, h2, h3⟩
          · -- 10: slot 17 := Op.alloc 46
            refine ob_yes fun f w' hb hp => ?_
            simp [PreOf, factOf, valOf, Ph.is, Ph.by_, Ph.any, Region.binds, Ph.numR, Ph.bytesR, Ph.byB, Ph.rd, Ph.box] at hp
            refine ⟨by simp [Gd, valOf, hp], ?_⟩
            refine mild_alloc (.pointer (some ⟨w'.heap.size, 0, none⟩)) (.cells #[.slice none 0 0, .int .i64 0] 46) ?_ ⟨w'.heap.size, rfl, hb.size, BoxAt.new_ _ _ [_, _]⟩
            have hz := zeroR w'
            simp [execOp, evalF, hp, go_sem, hz]
          · -- 11: slot 16 := Op.assign t59
            refine ob_yes fun f w' hb hp => ?_
            simp [PreOf, factOf, valOf, Ph.is, Ph.by_, Ph.any, Region.binds, Ph.numR, Ph.bytesR, Ph.byB, Ph.rd, Ph.box] at hp
            refine ⟨by simp [Gd, valOf, hp], ?_⟩
            exact mild_val (f 59) (by simp [execOp, evalF]) hp.1
        · intro f w2 hb2 hp
          simp only [PostOf, Ph.is, Ph.by_, Ph.any, Ph.numR, Ph.bytesR, Ph.byB, Ph.rd, Ph.box] at hp
          obtain ⟨h0, h1, h2, h3, h4, h5, h6, h7, h8, h9, h10, h11, _⟩ := hp
          simp only [fills, List.foldl_cons, List.foldl_nil, Act.put, List.setIfInBounds_toArray, List.set_cons_zero, List.set_cons_succ, h0, h1, h2, h3, h4, h5]
          clear h0 h1 h2 h3 h4 h5
          generalize f 58 = v58 at *
          generalize f 51 = v51 at *
          generalize f 59 = v59 at *
          generalize f 60 = v60 at *
          generalize f 17 = v17 at *
          generalize f 16 = v16 at *
          simp only [List.drop_succ_cons, List.drop_zero]
          obtain ⟨u, rfl, hu, _⟩ := h9
          obtain ⟨g1, rfl, hg1, hbx⟩ := h10
          obtain ⟨A2, c2, rfl, _, _, _⟩ := id hu
          refine wpList_store_box rfl 46 46 (.tmp 17) (.tmp 60) rfl g1 _ [.slice A2 s1.length c2, .int .i64 e1] rfl rfl hbx rfl (by
            intro x hx
            simp at hx
            rcases hx with rfl | rfl <;> rfl) (by kernel_rfl) ?_
          intro hbx5
          have hbs5 : Below W0 w2 (w2.setRow g1 [.slice A2 s1.length c2, .int .i64 e1].toArray) := bsetRow (Below.refl _ _) (by omega) _
          have hb5 : Below w3.heap.size w3 (w2.setRow g1 [.slice A2 s1.length c2, .int .i64 e1].toArray) := hb2.trans (bsetRow (Below.refl _ _) hg1 _)
          have hu5 := hu.below hbs5
          have hbyx := hox3.by_.step hb5
          have hbyy := h11.1.below hbs5
          generalize w2.setRow g1 [.slice A2 s1.length c2, .int .i64 e1].toArray = W5 at *
          have hWs5 : W0 ≤ W5.heap.size := Nat.le_trans hWs3 hb5.size
          have hb05 := hb03.trans (hb5.mono hWs3)
          have hr5 := hr3.below hr3.lt hb5
          have hbm5 := hbm3.below hbm3.lt hb5
          have hy0 := hbx5.cell 0 _ rfl
          have hy1 := hbx5.cell 1 _ rfl
          have hz0 := hbm5.cell 0 _ rfl
          have hz1 := hbm5.cell 1 _ rfl
          have hf0 := hbm5.frozen 0
          have hf1 := hbm5.frozen 1
          have hcx := conv8 (w := W5.drew) hbyx
          have hcy := conv8 (w := W5.drew) hbyy
          generalize bst bb = sb at *
          go_wp2_with fail
          go_region
          all_goals
            have hbm4 := (hbm5.put 0 (.slice A2 s1.length c2)).put 1 (.int .i64 e1)
            have hb54 : Below W0 W5 ((W5.setCell { block := gM, off := 0 } (.slice A2 s1.length c2)).setCell { block := gM, off := 1 } (.int .i64 e1)).drew :=
              (((Below.refl _ _).setCell (p := ⟨gM, 0, none⟩) (by show _ ≤ gM; omega) _).setCell (p := ⟨gM, 1, none⟩) (by show _ ≤ gM; omega) _).drew
            have hr4 : RdrAt ((W5.setCell { block := gM, off := 0 } (.slice A2 s1.length c2)).setCell { block := gM, off := 1 } (.int .i64 e1)).drew gR s1 e1 :=
              rdSet (rdSet hr5 ⟨gM, 0, none⟩ _ hRM) ⟨gM, 1, none⟩ _ hRM
            have hvm4 := hu5.below hb54
            have hb04 := hb05.trans hb54
            replace hbm4 : BoxAt 46 ((W5.setCell { block := gM, off := 0 } (.slice A2 s1.length c2)).setCell { block := gM, off := 1 } (.int .i64 e1)).drew gM [.slice A2 s1.length c2, .int .i64 e1] := hbm4
            have hW04 : W0 ≤ ((W5.setCell { block := gM, off := 0 } (.slice A2 s1.length c2)).setCell { block := gM, off := 1 } (.int .i64 e1)).drew.heap.size := Nat.le_trans hWs5 hb54.size
            generalize ((W5.setCell { block := gM, off := 0 } (.slice A2 s1.length c2)).setCell { block := gM, off := 1 } (.int .i64 e1)).drew = W4 at *
            clear hy0 hy1 hz0 hz1 hf0 hf1 hbm5 hr5 hu5 hb54 hb5 hbx5
            have hse4 := hse1
            go_wp2_with fail
            refine wp_region_typed [some 129, some 130, some 131, some 132, some 133, some 134, some 135, some 136, some 137, some 138, some 139, some 140, some 141, some 142, some 143, some 144, some 145, some 146, some 147, some 148, some 149, some 150, some 151, some 152] [129, 130, 131, 132, 133, 134, 135, 136, 137, 138, 139, 140, 141, 142, 143, 144, 145, 146, 147, 148, 149, 150, 151, 152]
              [Ph.is (.bool true),
                Ph.is (.bool false),
                Ph.is (.bool false),
                Ph.is (.pointer (some { block := gR, off := 0 })),
                Ph.is (.int .i64 e1),
                Ph.is (.pointer (some { block := gM, off := 1 })),
                Ph.is (.int .i64 e1),
                Ph.is (.bool false),
                Ph.is (.bool false),
                Ph.is (.bool false),
                Ph.is (.pointer (some { block := gR, off := 0 })),
                Ph.is (.int .i64 (s1.length : Int)),
                Ph.is (.pointer (some { block := gM, off := 0 })),
                Ph.is (.slice A2 s1.length c2),
                Ph.is (.int .i64 (s1.length : Int)),
                Ph.is (.bool false),
                Ph.is (.bool false),
                Ph.is (.bool false),
                Ph.is (.pointer (some { block := gR, off := 0 })),
                Ph.is (.int .i64 (endE s1 e1)),
                Ph.is (.agg #[.slice A2 s1.length c2, .int .i64 e1]),
                Ph.is (.int .i64 (endE s1 e1)),
                Ph.is (.bool false),
                Ph.is (.bool false)] rfl rfl (by kernel_rfl) (by kernel_rfl) ?_ ?_
            · refine ⟨?_, ?_, ?_, ?_, ?_, ?_, ?_, ?_, ?_, ?_, ?_, ?_, ?_, ?_, ?_, ?_, ?_, ?_, ?_, ?_, ?_, ?_, ?_, ?_, trivial⟩
              · -- 0: slot 129 := Op.move t8
                refine ob_yes fun f w' hb hp => ?_
                simp [PreOf, factOf, valOf, Ph.is, Ph.by_, Ph.any, Region.binds, Ph.numR, Ph.bytesR, Ph.byB, Ph.rd, Ph.box] at hp
                refine ⟨by simp [Gd, valOf, hp], ?_⟩
                refine mild_val (.bool true) ?_ rfl
                simp [execOp, evalF, hp]
              · -- 1: slot 130 := Op.unOp UnOp.not 4 t129
                refine ob_yes fun f w' hb hp => ?_
                simp [PreOf, factOf, valOf, Ph.is, Ph.by_, Ph.any, Region.binds, Ph.numR, Ph.bytesR, Ph.byB, Ph.rd, Ph.box] at hp
                refine ⟨by simp [Gd, valOf, hp], ?_⟩
                refine mild_val (.bool false) ?_ rfl
                simp [execOp, evalF, hp, go_sem]
              · -- 2: slot 131 := Op.move t130
                refine ob_yes fun f w' hb hp => ?_
                simp [PreOf, factOf, valOf, Ph.is, Ph.by_, Ph.any, Region.binds, Ph.numR, Ph.bytesR, Ph.byB, Ph.rd, Ph.box] at hp
                refine ⟨by simp [Gd, valOf, hp], ?_⟩
                refine mild_val (.bool false) ?_ rfl
                simp [execOp, evalF, hp]
              · -- 3: slot 132 := Op.move t5
                refine ob_yes fun f w' hb hp => ?_
                simp [PreOf, factOf, valOf, Ph.is, Ph.by_, Ph.any, Region.binds, Ph.numR, Ph.bytesR, Ph.byB, Ph.rd, Ph.box] at hp
                refine ⟨by simp [Gd, valOf, hp], ?_⟩
                refine mild_val (.pointer (some { block := gR, off := 0 })) ?_ rfl
                simp [execOp, evalF, hp]
              · -- 4: slot 133 := Op.call   value (Operand.func 31), args := #[t132], argTypes := #[24]  
                refine ob_yes fun f w' hb hp => ?_
                simp [PreOf, factOf, valOf, Ph.is, Ph.by_, Ph.any, Region.binds, Ph.numR, Ph.bytesR, Ph.byB, Ph.rd, Ph.box] at hp
                refine ⟨by simp [Gd, valOf, hp], ?_⟩
                refine mild_call 31 _ _ Try.f31 Try.func31 (by kernel_rfl) (by kernel_rfl) rfl ?_
                simp [evalF, hp, Ph.is, Ph.by_, Ph.any, Ph.numR, Ph.bytesR, Ph.byB, Ph.rd, Ph.box]
                refine (verr_any w' gR s1 e1 (hr4.below hr4.lt hb)).mono fun ev w2 h => ?_
                obtain ⟨rfl, rfl⟩ := h
                first | exact ⟨_, rfl, Below.refl _ _, rfl⟩ | exact ⟨rfl, Below.refl _ _⟩ | exact Below.refl _ _ | simpa using Below.refl _ _
              · -- 5: slot 134 := Op.fieldAddr 46 t6 1
                refine ob_yes fun f w' hb hp => ?_
                simp [PreOf, factOf, valOf, Ph.is, Ph.by_, Ph.any, Region.binds, Ph.numR, Ph.bytesR, Ph.byB, Ph.rd, Ph.box] at hp
                refine ⟨by simp [Gd, valOf, hp], ?_⟩
                refine mild_val (.pointer (some { block := gM, off := 1 })) ?_ rfl
                simp [execOp, evalF, hp, go_sem]
              · -- 6: slot 135 := Op.load 3 t134
                refine ob_yes fun f w' hb hp => ?_
                simp [PreOf, factOf, valOf, Ph.is, Ph.by_, Ph.any, Region.binds, Ph.numR, Ph.bytesR, Ph.byB, Ph.rd, Ph.box] at hp
                refine ⟨by simp [Gd, valOf, hp], ?_⟩
                refine mild_val (.int .i64 e1) ?_ rfl
                have hc := (hbm4.below hbm4.lt hb).cell 1 _ rfl
                simp [execOp, evalF, hp, hc, go_sem]
              · -- 7: slot 136 := Op.binOp BinOp.neq 3 t133 t135 3
                refine ob_yes fun f w' hb hp => ?_
                simp [PreOf, factOf, valOf, Ph.is, Ph.by_, Ph.any, Region.binds, Ph.numR, Ph.bytesR, Ph.byB, Ph.rd, Ph.box] at hp
                refine ⟨by simp [Gd, valOf, hp], ?_⟩
                refine mild_val (.bool false) ?_ rfl
                simp [execOp, evalF, hp, go_sem]
              · -- 8: slot 137 := Op.pick t131 (const (Value.bool true)) t136
                refine ob_yes fun f w' hb hp => ?_
                simp [PreOf, factOf, valOf, Ph.is, Ph.by_, Ph.any, Region.binds, Ph.numR, Ph.bytesR, Ph.byB, Ph.rd, Ph.box] at hp
                refine ⟨by simp [Gd, valOf, hp], ?_⟩
                refine mild_val (.bool false) ?_ rfl
                simp [execOp, evalF, hp, go_sem]
              · -- 9: slot 138 := Op.move t137
                refine ob_yes fun f w' hb hp => ?_
                simp [PreOf, factOf, valOf, Ph.is, Ph.by_, Ph.any, Region.binds, Ph.numR, Ph.bytesR, Ph.byB, Ph.rd, Ph.box] at hp
                refine ⟨by simp [Gd, valOf, hp], ?_⟩
                refine mild_val (.bool false) ?_ rfl
                simp [execOp, evalF, hp]
              · -- 10: slot 139 := Op.move t5
                refine ob_yes fun f w' hb hp => ?_
                simp [PreOf, factOf, valOf, Ph.is, Ph.by_, Ph.any, Region.binds, Ph.numR, Ph.bytesR, Ph.byB, Ph.rd, Ph.box] at hp
                refine ⟨by simp [Gd, valOf, hp], ?_⟩
                refine mild_val (.pointer (some { block := gR, off := 0 })) ?_ rfl
                simp [execOp, evalF, hp]
              · -- 11: slot 140 := Op.call   value (Operand.func 30), args := #[t139], argTypes := #[24]  
                refine ob_yes fun f w' hb hp => ?_
                simp [PreOf, factOf, valOf, Ph.is, Ph.by_, Ph.any, Region.binds, Ph.numR, Ph.bytesR, Ph.byB, Ph.rd, Ph.box] at hp
                refine ⟨by simp [Gd, valOf, hp], ?_⟩
                refine mild_call 30 _ _ Try.f30 Try.func30 (by kernel_rfl) (by kernel_rfl) rfl ?_
                simp [evalF, hp, Ph.is, Ph.by_, Ph.any, Ph.numR, Ph.bytesR, Ph.byB, Ph.rd, Ph.box]
                refine (vleft_any w' gR s1 e1 (hr4.below hr4.lt hb)).mono fun ev w2 h => ?_
                obtain ⟨rfl, rfl⟩ := h
                first | exact ⟨_, rfl, Below.refl _ _, rfl⟩ | exact ⟨rfl, Below.refl _ _⟩ | exact Below.refl _ _ | simpa using Below.refl _ _
              · -- 12: slot 141 := Op.fieldAddr 46 t6 0
                refine ob_yes fun f w' hb hp => ?_
                simp [PreOf, factOf, valOf, Ph.is, Ph.by_, Ph.any, Region.binds, Ph.numR, Ph.bytesR, Ph.byB, Ph.rd, Ph.box] at hp
                refine ⟨by simp [Gd, valOf, hp], ?_⟩
                refine mild_val (.pointer (some { block := gM, off := 0 })) ?_ rfl
                simp [execOp, evalF, hp, go_sem]
              · -- 13: slot 142 := Op.load 22 t141
                refine ob_yes fun f w' hb hp => ?_
                simp [PreOf, factOf, valOf, Ph.is, Ph.by_, Ph.any, Region.binds, Ph.numR, Ph.bytesR, Ph.byB, Ph.rd, Ph.box] at hp
                refine ⟨by simp [Gd, valOf, hp], ?_⟩
                refine mild_val (.slice A2 s1.length c2) ?_ rfl
                have hc := (hbm4.below hbm4.lt hb).cell 0 _ rfl
                simp [execOp, evalF, hp, hc, go_sem]
              · -- 14: slot 143 := Op.call   builtin len, args := #[t142], argTypes := #[22]  
                refine ob_yes fun f w' hb hp => ?_
                simp [PreOf, factOf, valOf, Ph.is, Ph.by_, Ph.any, Region.binds, Ph.numR, Ph.bytesR, Ph.byB, Ph.rd, Ph.box] at hp
                refine ⟨by simp [Gd, valOf, hp], ?_⟩
                refine mild_val (.int .i64 (s1.length : Int)) ?_ rfl
                simp [execOp, evalF, hp, go_sem]
              · -- 15: slot 144 := Op.binOp BinOp.neq 3 t140 t143 3
                refine ob_yes fun f w' hb hp => ?_
                simp [PreOf, factOf, valOf, Ph.is, Ph.by_, Ph.any, Region.binds, Ph.numR, Ph.bytesR, Ph.byB, Ph.rd, Ph.box] at hp
                refine ⟨by simp [Gd, valOf, hp], ?_⟩
                refine mild_val (.bool false) ?_ rfl
                simp [execOp, evalF, hp, go_sem]
              · -- 16: slot 145 := Op.pick t138 (const (Value.bool true)) t144
                refine ob_yes fun f w' hb hp => ?_
                simp [PreOf, factOf, valOf, Ph.is, Ph.by_, Ph.any, Region.binds, Ph.numR, Ph.bytesR, Ph.byB, Ph.rd, Ph.box] at hp
                refine ⟨by simp [Gd, valOf, hp], ?_⟩
                refine mild_val (.bool false) ?_ rfl
                simp [execOp, evalF, hp, go_sem]
              · -- 17: slot 146 := Op.move t145
                refine ob_yes fun f w' hb hp => ?_
                simp [PreOf, factOf, valOf, Ph.is, Ph.by_, Ph.any, Region.binds, Ph.numR, Ph.bytesR, Ph.byB, Ph.rd, Ph.box] at hp
                refine ⟨by simp [Gd, valOf, hp], ?_⟩
                refine mild_val (.bool false) ?_ rfl
                simp [execOp, evalF, hp]
              · -- 18: slot 147 := Op.move t5
                refine ob_yes fun f w' hb hp => ?_
                simp [PreOf, factOf, valOf, Ph.is, Ph.by_, Ph.any, Region.binds, Ph.numR, Ph.bytesR, Ph.byB, Ph.rd, Ph.box] at hp
                refine ⟨by simp [Gd, valOf, hp], ?_⟩
                refine mild_val (.pointer (some { block := gR, off := 0 })) ?_ rfl
                simp [execOp, evalF, hp]
              · -- 19: slot 148 := Op.call   value (Operand.func 23), args := #[t147], argTypes := #[24]  
                refine ob_yes fun f w' hb hp => ?_
                simp [PreOf, factOf, valOf, Ph.is, Ph.by_, Ph.any, Region.binds, Ph.numR, Ph.bytesR, Ph.byB, Ph.rd, Ph.box] at hp
                refine ⟨by simp [Gd, valOf, hp], ?_⟩
                refine mild_call 23 _ _ Try.f23 Try.func23 (by kernel_rfl) (by kernel_rfl) rfl ?_
                simp [evalF, hp, Ph.is, Ph.by_, Ph.any, Ph.numR, Ph.bytesR, Ph.byB, Ph.rd, Ph.box]
                refine (vend_any w' gR s1 e1 (hr4.below hr4.lt hb)).mono fun ev w2 h => ?_
                obtain ⟨rfl, rfl⟩ := h
                first | exact ⟨_, rfl, Below.refl _ _, rfl⟩ | exact ⟨rfl, Below.refl _ _⟩ | exact Below.refl _ _ | simpa using Below.refl _ _
              · -- 20: slot 149 := Op.load 46 t6
                refine ob_yes fun f w' hb hp => ?_
                simp [PreOf, factOf, valOf, Ph.is, Ph.by_, Ph.any, Region.binds, Ph.numR, Ph.bytesR, Ph.byB, Ph.rd, Ph.box] at hp
                refine ⟨by simp [Gd, valOf, hp], ?_⟩
                refine mild_val (.agg #[.slice A2 s1.length c2, .int .i64 e1]) ?_ rfl
                have h8 := (hbm4.below hbm4.lt hb).cell 0 _ rfl
                have h9 := (hbm4.below hbm4.lt hb).cell 1 _ rfl
                simp [execOp, evalF, hp, go_sem, h8, h9]
              · -- 21: slot 150 := Op.call   value (Operand.func 36), args := #[t149], argTypes := #[46]  
                refine ob_yes fun f w' hb hp => ?_
                simp [PreOf, factOf, valOf, Ph.is, Ph.by_, Ph.any, Region.binds, Ph.numR, Ph.bytesR, Ph.byB, Ph.rd, Ph.box] at hp
                refine ⟨by simp [Gd, valOf, hp], ?_⟩
                refine mild_call 36 _ _ Try.f36 Try.func36 (by kernel_rfl) (by kernel_rfl) rfl ?_
                simp [evalF, hp, Ph.is, Ph.by_, Ph.any, Ph.numR, Ph.bytesR, Ph.byB, Ph.rd, Ph.box]
                have hre := rend_any w' (.slice A2 s1.length c2) s1 e1 W0 (hvm4.below (hb.mono hW04))
                rw [endR_eq s1 e1 hse4] at hre
                refine (hre).mono fun ev w2 h => ?_
                obtain ⟨rfl, h2⟩ := h
                first | exact ⟨_, rfl, h2, rfl⟩ | exact ⟨rfl, h2⟩ | simpa using h2
              · -- 22: slot 151 := Op.binOp BinOp.neq 3 t148 t150 3
                refine ob_yes fun f w' hb hp => ?_
                simp [PreOf, factOf, valOf, Ph.is, Ph.by_, Ph.any, Region.binds, Ph.numR, Ph.bytesR, Ph.byB, Ph.rd, Ph.box] at hp
                refine ⟨by simp [Gd, valOf, hp], ?_⟩
                refine mild_val (.bool false) ?_ rfl
                simp [execOp, evalF, hp, go_sem]
              · -- 23: slot 152 := Op.pick t146 (const (Value.bool true)) t151
                refine ob_yes fun f w' hb hp => ?_
                simp [PreOf, factOf, valOf, Ph.is, Ph.by_, Ph.any, Region.binds, Ph.numR, Ph.bytesR, Ph.byB, Ph.rd, Ph.box] at hp
                refine ⟨by simp [Gd, valOf, hp], ?_⟩
                refine mild_val (.bool false) ?_ rfl
                simp [execOp, evalF, hp, go_sem]
            · intro f w2 hb2 hp
              simp only [PostOf, Ph.is, Ph.by_, Ph.any, Ph.numR, Ph.bytesR, Ph.byB, Ph.rd, Ph.box] at hp
              obtain ⟨h0, h1, h2, h3, h4, h5, h6, h7, h8, h9, h10, h11, h12, h13, h14, h15, h16, h17, h18, h19, h20, h21, h22, h23, _⟩ := hp
              simp only [fills, List.foldl_cons, List.foldl_nil, Act.put, List.setIfInBounds_toArray, List.set_cons_zero, List.set_cons_succ, h0, h1, h2, h3, h4, h5, h6, h7, h8, h9, h10, h11, h12, h13, h14, h15, h16, h17, h18, h19, h20, h21, h22, h23]
              clear h0 h1 h2 h3 h4 h5 h6 h7 h8 h9 h10 h11 h12 h13 h14 h15 h16 h17 h18 h19 h20 h21 h22 h23
              go_wp2_with fail
              exact ⟨⟨k + 1, s1, e1, by omega, by go_num, ⟨hr4.below hr4.lt hb2, ⟨_, hbm4.below hbm4.lt hb2, hvm4.below (hb2.mono hW04)⟩, Nat.le_trans hW04 hb2.size, hWR, hRM, by omega, hse1⟩, hb04.trans (hb2.mono hW04)⟩, by simp [intOf]; omega⟩

    · obtain rfl : k = acts.length := by omega
      go_wp2_with (go_at_call 20; refine (awake03 _).mono ?_; rintro e wa ⟨rfl, hba⟩)
      go_ret
      have hW0 := HW0.out
      subst hW0
      exact ⟨rfl, bstep hbl hba⟩

set_option maxRecDepth 100000 in
theorem lifted (os : Os) (started : os.Started) (H : Type) (enc : TypeId × Value → H) :
    ReturnsInHanded {} Try.checked os 6 .any (Rows.varintReadsSpec.pre6 enc Try.prog Try.f6 Rows.varintReadsRow.domain false) (Rows.varintReadsSpec.post enc Try.prog Try.f6 false true false false) := by
  refine returnsInHanded_of_change (C := Try.checked) own started (by kernel_rfl) Try.func6
    (ChangeSpec.witness6 (enc := enc) (C := Try.checked) false ⟨#[], #[.slice none 0 0, .slice none 0 0], []⟩ 8 (by kernel_rfl) (by kernel_rfl) (by kernel_rfl) (by kernel_rfl)) ?_
  intro W base args ds gs before hval0 hW hcnd _
  have hval : ∀ (j : Nat) t v, Try.f6.params[j]? = some t → args[j]? = some v → Value.okWide Try.prog W .any base t v := hval0
  have hW' := hW
  obtain ⟨p, q, hA0, hV, rfl, hfz, hnd⟩ := hW
  have hA : DataW.TrodAll enc Try.prog W 0 (fun _ => true) true Try.f6.params.toList args.toList ds p := hA0
  rw [Try.params6] at hA hval
  obtain ⟨v0, vs0, d0, ds0, p0, q0, hargs, rfl, rfl, h0, r0⟩ := trodAll_cons hA
  obtain ⟨v1, vs1, d1, ds1, p1, q1, rfl, rfl, rfl, h1, r1⟩ := trodAll_cons r0
  obtain ⟨rfl, rfl, rfl⟩ := trodAll_nil r1
  obtain rfl : args = #[v0, v1] := by cases args; simp_all
  obtain ⟨rfl, rfl⟩ := trodVars_none hV
  have k0 := h0
  have lt0 : ∀ x ∈ p0, x.block < W.heap.size := by obtain ⟨m, hm⟩ := k0; exact DataW.trod_lt m _ _ _ hm
  have i0 := InC.of h0
  obtain ⟨a0, len0, cap0, rfl⟩ := okWide_slice Try.underlying22 (hval 0 22 v0 rfl rfl)
  have j0 : InC W 22 [_] := i0
  have k1 := h1
  have lt1 : ∀ x ∈ p1, x.block < W.heap.size := by obtain ⟨m, hm⟩ := k1; exact DataW.trod_lt m _ _ _ hm
  have i1 := InC.of h1
  obtain ⟨a1, len1, cap1, rfl⟩ := okWide_slice Try.underlying44 (hval 1 44 v1 rfl rfl)
  have j1 : InC W 44 [_] := i1
  clear hA0 hval0
  refine (walk _ _ W j0 j1).mono fun e W' ⟨he, bel⟩ => ?_
  subst he
  exact ⟨_, rfl, _, _, _, [], _, [], hW', trodAll_mk1 (shut_bool Try.underlying4 _), (trodAll_cons_mk (Below.trod laidOut (by kernel_rfl) (of_decide_eq_true (by kernel_rfl)) k0 bel lt0) (trodAll_cons_mk (Below.trod laidOut (by kernel_rfl) (of_decide_eq_true (by kernel_rfl)) k1 bel lt1) trodAll_mk0)), rfl, bel.frame _, fun h => by cases h⟩

theorem over : Rows.varintReadsRow.holds Try.pinned (OpenSpec.ofChange Rows.varintReadsSpec) :=
  OpenClaim.holds_of_wide 6 Try.f6 rfl rfl rfl rfl rfl rfl rfl ⟨rfl, rfl, rfl, rfl, rfl⟩ rfl rfl rfl rfl rfl (by kernel_rfl) Try.func6 (by kernel_rfl)
    (of_decide_eq_true (by kernel_rfl)) (by unfold Func.isWrapper; first | (rw [if_pos (by decide +kernel)]; kernel_rfl) | (rw [if_neg (by decide +kernel)]; exact ⟨rfl, rfl⟩))
    (fun os started H enc _ => lifted os started H enc)

theorem proved : Rows.VarintReadsSaid := over
#print axioms proved
end Go.Proofs.Yteakeefocnjlhaa.varintReads
