/- The law 'TopTape' returns true for every input, and each argument reads behind the call as it read before. No condition. -/
import Derived.Test.YtcffeepgfjpcaaaGreatZTapeBase6
import Derived.Deep.Cut
import Derived.Test.YtcffeepgfjpcaaaGreatRows
import Derived.WalkKit
import Derived.ProofKit
import Derived.OpenShut
import Derived.ShutString
import Derived.ChangeOld
import Derived.Below
namespace Go.Proofs.YtcffeepgfjpcaaaGreat
set_option linter.unusedSimpArgs false
set_option linter.unusedVariables false
theorem wsum_perm {a b : List GEdge} (h : a.Perm b) (v t : UInt32) : wsum a v t = wsum b v t := (h.map _).sum_nat
theorem vsum_perm {a b : List GEdge} (h : a.Perm b) (v : UInt32) : vsum a v = vsum b v := (h.map _).sum_nat

/-- all edges -/
theorem mrow_inv : ∀ (l P : List GEdge) (out : List GRow) (cur : GRow) (R : List GRow), RInv P out cur → (∀ x ∈ l, x.wt ≠ 0) → (P ++ l).Pairwise (fun a b => a.num ≤ b.num) → mrow l cur out = some R →
    ∃ out' cur', RInv (P ++ l) out' cur' ∧ R = out' ++ curL cur'
  | [], P, out, cur, R, h, _, _, he => by
    rw [mrow] at he
    injection he with he
    exact ⟨out, cur, by simpa using h, he.symm⟩
  | x :: t, P, out, cur, R, h, h0, hs, he => by
    rw [mrow] at he
    cases ho : overP cur x with
    | true => rw [ho] at he; simp at he
    | false =>
      rw [ho] at he
      simp only [Bool.false_eq_true, if_false] at he
      have hst := h.step (h0 x (by simp)) (fun y hy => by
        obtain ⟨ys, rfl⟩ : ∃ ys, P = ys ++ [y] := by
          exact List.getLast?_eq_some_iff.1 hy
        rw [List.pairwise_append] at hs
        exact hs.2.2 y (by simp) x (by simp)) ho
      have := mrow_inv t (P ++ [x]) _ _ R hst (fun z hz => h0 z (by simp [hz])) (by simpa using hs) he
      simpa using this
theorem mrow_ok (l L : List GEdge) (R : List GRow) (hp : L.Perm l) (h0 : ∀ x ∈ l, x.wt ≠ 0) (hs : L.Pairwise (fun a b => a.num ≤ b.num)) (he : mrow L ⟨0, []⟩ [] = some R) : RowsOk l R := by
  obtain ⟨out, cur, hi, rfl⟩ := mrow_inv L [] [] ⟨0, []⟩ R RInv.start (fun x hx => h0 x (hp.mem_iff.1 hx)) (by simpa using hs) he
  simp only [List.nil_append] at hi
  refine ⟨fun v t => (hi.sT v t).trans (wsum_perm hp v t), fun v => (hi.sV v).trans (vsum_perm hp v), hi.ok, hi.up, fun v => (hi.mem v).trans ?_⟩
  exact ⟨fun ⟨x, hx, e⟩ => ⟨x, hp.mem_iff.1 hx, e⟩, fun ⟨x, hx, e⟩ => ⟨x, hp.mem_iff.2 hx, e⟩⟩
end Go.Proofs.YtcffeepgfjpcaaaGreat
namespace Go.Proofs.YtcffeepgfjpcaaaGreat
set_option linter.unusedSimpArgs false
set_option linter.unusedVariables false
open Go.RowKit

theorem pathP_le (R : List GRow) (j : GJob) (id : Nat) : (pathP R j id).length ≤ 1 + j.len.toNat := by
  unfold pathP
  split
  · have := (goesP_len (R := R) (tab := btab) (j := j) (uk := UInt64.ofNat id) j.len.toNat [j.srcs.getD (srcJ j id) 0]).1
    simpa using this
  · simp
theorem ByE.moreT {w : World} {B B' : Nat} {v : Value} {l : List GEdge} (h : ByE w B v l) (hB : B ≤ B') : ByE w B' v l := h.mono (fun _ hk => by omega) fun _ h => h
theorem InC.edges {w : World} {v : Value} (h : InC w 22 [v]) : ∃ l, ByE w w.heap.size v l := by
  obtain ⟨v', xs, e, hr⟩ := h.row (C := cEdge) Tryz.underlying22 (by kernel_rfl) (by decide) fun cs hc => by
    obtain ⟨hl, hf⟩ := hc.fields Tryz.underlying55 (by kernel_rfl) (by kernel_rfl)
    obtain ⟨u0, h0, g0⟩ := hf 0 _ rfl
    obtain ⟨u1, h1, g1⟩ := hf 1 _ rfl
    obtain ⟨u2, h2, g2⟩ := hf 2 _ rfl
    obtain ⟨n0, e0, k0⟩ := InC.u32 (S := fun _ => True) Tryz.underlying24 g0
    obtain ⟨n1, e1, k1⟩ := InC.u32 (S := fun _ => True) Tryz.underlying24 g1
    obtain ⟨n2, e2, k2⟩ := InC.u32 (S := fun _ => True) Tryz.underlying24 g2
    simp at e0 e1 e2
    subst e0; subst e1; subst e2
    match cs, hl with
    | [c0, c1, c2], _ =>
      injection h0 with h0
      injection h1 with h1
      injection h2 with h2
      subst h0; subst h1; subst h2
      exact ⟨⟨n0, n1, n2⟩, rfl, trivial⟩
  injection e with e
  subst e
  exact ⟨xs, hr.mono (fun _ hk => hk) (fun _ _ => trivial)⟩
set_option maxRecDepth 100000 in
theorem InC.job {w : World} {cs : List Value} (h : InC w 29 cs) : ∃ (j : GJob) (v : Value), cs = jobC j v ∧ ByU w w.heap.size v j.srcs := by
  obtain ⟨hl, hf⟩ := h.struct Tryz.underlying29
  have hl15 : cs.length = 15 := hl.trans (by kernel_rfl)
  match cs, hl15 with
  | [c0, c1, c2, c3, c4, c5, c6, c7, c8, c9, c10, c11, c12, c13, c14], _ =>
    have g0 : InC w 5 [c0] := hf 0 _ rfl
    have g1 : InC w 23 [c1] := hf 1 _ rfl
    have g2 : InC w 24 [c2] := hf 2 _ rfl
    have g3 : InC w 24 [c3] := hf 3 _ rfl
    have g4 : InC w 25 [c4] := hf 4 _ rfl
    have g5 : InC w 24 [c5] := hf 5 _ rfl
    have g6 : InC w 24 [c6] := hf 6 _ rfl
    have g7 : InC w 24 [c7] := hf 7 _ rfl
    have g8 : InC w 24 [c8] := hf 8 _ rfl
    have g9 : InC w 24 [c9] := hf 9 _ rfl
    have g10 : InC w 24 [c10] := hf 10 _ rfl
    have gb : InC w 27 [c11, c12, c13, c14] := hf 11 _ rfl
    obtain ⟨_, hb⟩ := gb.fields Tryz.underlying27 (by kernel_rfl) (by kernel_rfl)
    obtain ⟨b0, i0, g11⟩ := hb 0 _ rfl
    obtain ⟨b1, i1, g12⟩ := hb 1 _ rfl
    obtain ⟨b2, i2, g13⟩ := hb 2 _ rfl
    obtain ⟨b3, i3, g14⟩ := hb 3 _ rfl
    injection i0 with i0
    injection i1 with i1
    injection i2 with i2
    injection i3 with i3
    subst i0; subst i1; subst i2; subst i3
    obtain ⟨n0, e0, _⟩ := InC.u8 (S := fun _ => True) Tryz.underlying5 g0
    obtain ⟨n1, e1, _⟩ := InC.u64 (S := fun _ => True) Tryz.underlying23 g1
    obtain ⟨n2, e2, _⟩ := InC.u32 (S := fun _ => True) Tryz.underlying24 g2
    obtain ⟨n3, e3, _⟩ := InC.u32 (S := fun _ => True) Tryz.underlying24 g3
    obtain ⟨l4, h4⟩ := InC.u32s g4
    obtain ⟨n5, e5, _⟩ := InC.u32 (S := fun _ => True) Tryz.underlying24 g5
    obtain ⟨n6, e6, _⟩ := InC.u32 (S := fun _ => True) Tryz.underlying24 g6
    obtain ⟨n7, e7, _⟩ := InC.u32 (S := fun _ => True) Tryz.underlying24 g7
    obtain ⟨n8, e8, _⟩ := InC.u32 (S := fun _ => True) Tryz.underlying24 g8
    obtain ⟨n9, e9, _⟩ := InC.u32 (S := fun _ => True) Tryz.underlying24 g9
    obtain ⟨n10, e10, _⟩ := InC.u32 (S := fun _ => True) Tryz.underlying24 g10
    obtain ⟨n11, e11, _⟩ := InC.u32 (S := fun _ => True) Tryz.underlying24 g11
    obtain ⟨n12, e12, _⟩ := InC.u32 (S := fun _ => True) Tryz.underlying24 g12
    obtain ⟨n13, e13, _⟩ := InC.u32 (S := fun _ => True) Tryz.underlying24 g13
    obtain ⟨n14, e14, _⟩ := InC.u32 (S := fun _ => True) Tryz.underlying24 g14
    simp at e0 e1 e2 e3 e5 e6 e7 e8 e9 e10 e11 e12 e13 e14
    subst e0; subst e1; subst e2; subst e3; subst e5; subst e6; subst e7; subst e8; subst e9; subst e10; subst e11; subst e12; subst e13; subst e14
    exact ⟨⟨n0, n1, n2, n3, l4, n5, n6, n7, n8, n9, n10, n11, n12, n13, n14⟩, c4, rfl, h4⟩
end Go.Proofs.YtcffeepgfjpcaaaGreat

namespace Go.Proofs.YtcffeepgfjpcaaaGreat
set_option linter.unusedSimpArgs false
set_option linter.unusedVariables false
open Go.RowKit

def Ph.ownU (base : Nat) (l : List UInt32) : Ph := ⟨fun v w => OwnF 24 cU32 w base v l, fun _ _ _ h hb => h.below_ hb⟩
theorem byU_src {w w' : World} {B : Nat} {v : Value} {l : List UInt32} (h : ByU w B v l) (hb : Below B w w') : RowOn cU32 w' (fun k => k < B) (fun _ => False) v l := by
  obtain ⟨A, c, h1, h2, h3, h4⟩ := h.below hb
  exact ⟨A, c, h1, h2, h3, h4⟩
set_option maxRecDepth 100000 in
set_option maxHeartbeats 6400000 in
theorem ttape_walk (w : World) (A : Option Addr) (c : Nat) (l : List GEdge) (hE : ByE w w.heap.size (.slice A l.length c) l) (j : GJob) (As : Option Addr) (cs : Nat) (hJ : ByU w w.heap.size (.slice As j.srcs.length cs) j.srcs)
    (Am : Option Addr) (cm : Nat) (more : List UInt32) (hM : ByU w w.heap.size (.slice Am more.length cm) more) (id : Nat) (hid : id < 4294967296) :
    Calls Tryz.prog 3 #[.slice A l.length c, .agg (jobC j (.slice As j.srcs.length cs)).toArray, .slice Am more.length cm, .int .u32 (id : Int)] w fun e w' => e = .returned (.bool true) ∧ Below w.heap.size w w' := by
  have Haw := Lib.hid (fun W => awake_any22 W)
  obtain ⟨w0, hw0⟩ : ∃ w0, w0 = w.alloc (.cells (jobC j (.slice As j.srcs.length cs)).toArray 29) := ⟨_, rfl⟩
  have hb0 : Below w.heap.size w w0 := by rw [hw0]; exact balloc w _
  have hx0 : BoxAt 29 w0 w.heap.size (jobC j (.slice As j.srcs.length cs)) := by rw [hw0]; exact BoxAt.new_ _ _ _
  have Hw0 := Lib.hid hw0
  have X0 := Lib.hid hx0
  have Hb0 := Lib.hid hb0
  have HE := Lib.hid hE
  have HJ := Lib.hid hJ
  have HM := Lib.hid hM
  have HJat := Lib.hid (fun (W : World) (hW : Below w.heap.size w W) => (⟨_, rfl, (hJ.below hW).more hW.size⟩ : JobAt W W.heap.size (.agg (jobC j (.slice As j.srcs.length cs)).toArray) j))
  clear hw0 hx0 hb0 hE hJ hM
  go_enter Tryz.func3, Tryz.ntmps3
  go_upto_region 1 with (fail)
  rw [← Hw0.out]
  by_cases h1 : 40 < l.length
  · have d1 : decide ((l.length : Int) > 40) = true := decide_eq_true (by omega)
    go_wp2_with fail
    refine (Haw.out _).mono ?_
    rintro _ w1 ⟨rfl, hb1⟩
    go_wp2_with fail
    go_ret
    exact ⟨rfl, bstep Hb0.out hb1⟩
  · have d1 : decide ((l.length : Int) > 40) = false := decide_eq_false (by omega)
    by_cases h2 : 60 < more.length
    · have d2 : decide ((more.length : Int) > 60) = true := decide_eq_true (by omega)
      go_wp2_with fail
      refine (Haw.out _).mono ?_
      rintro _ w1 ⟨rfl, hb1⟩
      go_wp2_with fail
      go_ret
      exact ⟨rfl, bstep Hb0.out hb1⟩
    · have d2 : decide ((more.length : Int) > 60) = false := decide_eq_false (by omega)
      have hl40 : l.length ≤ 40 := by omega
      have hm60 : more.length ≤ 60 := by omega
      have hgr := great22_any w0 _ j (HJat.out w0 Hb0.out)
      obtain ⟨gr, hgr2⟩ : ∃ gr, great22 j = gr := ⟨_, rfl⟩
      rw [hgr2] at hgr
      have Hgr := Lib.hid hgr
      have Hgr2 := Lib.hid hgr2
      clear hgr hgr2 h1 h2
      cases gr with
      | true =>
        go_wp2_with (first | ((with_reducible refine wpList_load_aggGT ?_ 29 (.tmp 5) ?_ ⟨w.heap.size, 0, none⟩ ?_ (jobC j (.slice As j.srcs.length cs)) X0.out.cells Tryz.underlying29 ?_ ?_ ?_); exact rfl; exact rfl; exact rfl; exact rfl; exact infoJob15))
        refine Hgr.out.mono ?_
        rintro _ w1 ⟨rfl, hb1⟩
        have Hb1 := Lib.hid (bstep Hb0.out hb1)
        clear hb1
        go_wp2_with fail
        refine (Haw.out _).mono ?_
        rintro _ w2 ⟨rfl, hb2⟩
        go_wp2_with fail
        go_ret
        exact ⟨rfl, bstep Hb1.out hb2⟩
      | false =>
        obtain ⟨my, hmy2⟩ : ∃ my, may19 j = my := ⟨_, rfl⟩
        have Hmay := Lib.hid (fun (W : World) (hW : Below w.heap.size w W) => may19_any W _ j (HJat.out W hW))
        rw [hmy2] at Hmay
        have Hmy2 := Lib.hid hmy2
        clear hmy2
        go_wp2_with (first | ((with_reducible refine wpList_load_aggGT ?_ 29 (.tmp 5) ?_ ⟨w.heap.size, 0, none⟩ ?_ (jobC j (.slice As j.srcs.length cs)) X0.out.cells Tryz.underlying29 ?_ ?_ ?_); exact rfl; exact rfl; exact rfl; exact rfl; exact infoJob15))
        refine Hgr.out.mono ?_
        rintro _ w1 ⟨rfl, hb1⟩
        have Hb1 := Lib.hid (bstep Hb0.out hb1)
        have X1 := Lib.hid (X0.out.bl_ hb1)
        clear hb1
        go_wp2_with (first | ((with_reducible refine wpList_load_aggGT ?_ 29 (.tmp 5) ?_ ⟨w.heap.size, 0, none⟩ ?_ (jobC j (.slice As j.srcs.length cs)) X1.out.cells Tryz.underlying29 ?_ ?_ ?_); exact rfl; exact rfl; exact rfl; exact rfl; exact infoJob15))
        refine (Hmay.out w1 Hb1.out).mono ?_
        rintro _ w2 ⟨rfl, hb2⟩
        have Hb2 := Lib.hid (bstep Hb1.out hb2)
        have X2 := Lib.hid (X1.out.bl_ hb2)
        clear hb2 Hgr X0 X1 Hb0 Hb1 Hw0
        cases my with
        | false =>
          go_wp2_with fail
          refine (Haw.out _).mono ?_
          rintro _ w3 ⟨rfl, hb3⟩
          go_wp2_with fail
          go_ret
          exact ⟨rfl, bstep Hb2.out hb3⟩
        | true =>
          have hmay := Hmy2.out
          obtain ⟨hs1, hs2, hnd⟩ := may19_srcs hmay
          obtain ⟨hlen, htr, _⟩ := great22_parts Hgr2.out
          have Hnd := Lib.hid hnd
          have HSok := Lib.hid (sort_ok j.srcs (by omega) (by omega))
          have HMJ := Lib.hid (may19_may hmay)
          clear hnd
          obtain ⟨w3, hw3⟩ : ∃ w3, w3 = w2.alloc (.cells (jobC j (.slice As j.srcs.length cs)).toArray 29) := ⟨_, rfl⟩
          obtain ⟨w4, hw4⟩ : ∃ w4, w4 = w3.alloc (.cells #[] 24) := ⟨_, rfl⟩
          have hb3 : Below w2.heap.size w2 w3 := by rw [hw3]; exact balloc _ _
          have hb4 : Below w3.heap.size w3 w4 := by rw [hw4]; exact balloc _ _
          have hX3 : BoxAt 29 w3 w2.heap.size (jobC j (.slice As j.srcs.length cs)) := by rw [hw3]; exact BoxAt.new_ _ _ _
          have hU4 : OwnF 24 cU32 w4 w3.heap.size (.slice (some ⟨w3.heap.size, 0, none⟩) 0 0) [] := by rw [hw4]; exact OwnU.empty w3 w3.heap.size w3.heap.size rfl (Nat.le_refl _)
          have hx4 := ((X2.out.bl_ hb3).bl_ hb4).cell 4 _ rfl
          have hJ4 := byU_src HJ.out (bstep (bstep Hb2.out hb3) hb4)
          have hz2 := Hb2.out.size
          have hz3 := hb3.size
          have hz4 := hb4.size
          have HX3 := Lib.hid hX3
          have HU4 := Lib.hid hU4
          have HJ4 := Lib.hid hJ4
          have HB3 := Lib.hid hb3
          have HB4 := Lib.hid hb4
          have Hw3 := Lib.hid hw3
          have Hw4 := Lib.hid hw4
          have Hone : Hid (∀ u ∈ jobC j (.slice As j.srcs.length cs), u.oneCell' = true) := Lib.hid (jobC_one j As _ cs)
          clear hmay hw3 hw4 hb3 hb4 hX3 hU4 hJ4
          go_wp2_with (first
            | ((with_reducible refine wpList_load_aggGT ?_ 29 (.tmp 5) ?_ ⟨w.heap.size, 0, none⟩ ?_ (jobC j (.slice As j.srcs.length cs)) X2.out.cells Tryz.underlying29 ?_ ?_ ?_); exact rfl; exact rfl; exact rfl; exact rfl; exact infoJob15)
            | ((with_reducible refine wpList_alloc_z ?_ 29 ?_ infoJobZ (jobC zeroJ (.slice none 0 0)) ?_ ?_); exact rfl; exact rfl; exact rfl)
            | ((with_reducible refine wpList_store_new ?_ 29 (.tmp 9) (.tmp 32) ?_ (jobC zeroJ (.slice none 0 0)) (jobC j (.slice As j.srcs.length cs)) ?_ ?_ ?_ ?_ Hone.out ?_); exact rfl; exact rfl; exact rfl; exact rfl; exact infoJob_15; exact rfl; rw [← Hw3.out])
            | (rw [← Hw4.out])
            | (at_builtin
               refine wpList_appR rfl (.tmp 33) (.tmp 35) 25 rfl Tryz.underlying25 infoU32 rfl (by decide) (by decide) HU4.out HJ4.out rfl rfl (by simp; omega) hz4 ?_
               intro v5 w5 ho5 hx5
               have hb5 : Below w3.heap.size w4 w5 := hx5.below hz4 (by simp [Value.ownBlock])
               have Ho5 := Lib.hid (show OwnF 24 cU32 w5 w3.heap.size v5 j.srcs by simpa using ho5)
               have Hb5 := Lib.hid hb5
               have HM5 := Lib.hid (byU_src HM.out (((bstep (bstep Hb2.out HB3.out) HB4.out)).trans (hb5.mono (by omega))))
               have hz5 := hb5.size
               clear ho5 hx5 hb5)
            | (at_builtin
               refine wpList_appR rfl (.tmp 36) (.tmp 37) 25 rfl Tryz.underlying25 infoU32 rfl (by decide) (by decide) Ho5.out HM5.out rfl rfl (by omega) (by omega) ?_
               intro v6 w6 ho6 hx6
               have hb6 : Below w3.heap.size w5 w6 := hx6.below (by omega) (fun k hk => (Ho5.out.blk k hk).1)
               obtain ⟨Ak, ck, rfl, _⟩ := ho6.form'
               have Ho6 := Lib.hid ho6
               have hb36 := HB4.out.trans (Hb5.out.trans hb6)
               have X6 := HX3.out.bl_ hb36
               have hk4 := X6.cell 4 _ rfl
               have hf4 := X6.frozen 4
               have HX6 := Lib.hid X6
               have Hb36 := Lib.hid hb36
               clear ho6 hx6 hb6 hb36 X6))
          obtain ⟨w7, hw7⟩ : ∃ w7, w7 = w6.setCell ⟨w2.heap.size, 4, none⟩ (.slice Ak (j.srcs.length + more.length) ck) := ⟨_, rfl⟩
          rw [← hw7]
          have hX7 : BoxAt 29 w7 w2.heap.size (jobC j (.slice Ak (j.srcs.length + more.length) ck)) := by rw [hw7]; exact HX6.out.put 4 _
          have hch : Chg (fun k => k = w2.heap.size) w6 w7 := by rw [hw7]; exact Chg.set (P := fun k => k = w2.heap.size) _ ⟨w2.heap.size, 4, none⟩ _ rfl
          have hs36 := Hb36.out.size
          have hb27 : Below w2.heap.size w2 w7 := (HB3.out.trans (Hb36.out.mono hz3)).trans (hch.below (by omega) fun k hk => by omega)
          have hlk : (j.srcs ++ more).length = j.srcs.length + more.length := List.length_append
          have hO7 : OwnF 24 cU32 w7 w3.heap.size (.slice Ak (j.srcs.length + more.length) ck) (j.srcs ++ more) := by
            have h := OwnR.chgT Ho6.out hch (fun k hk e => by have := (Ho6.out.blk k hk).1; have := HX3.out.lt; omega) (fun _ h => h.elim)
            rw [hlk] at h
            exact h
          have hU7 : ByU w7 w7.heap.size (.slice Ak (j.srcs.length + more.length) ck) (j.srcs ++ more) := hO7.rowLt.mono (fun _ h => h) (fun _ h => h.elim)
          obtain ⟨kj, hkj⟩ : ∃ kj : GJob, kj = { j with srcs := j.srcs ++ more } := ⟨_, rfl⟩
          have HKat := Lib.hid (fun (W : World) (hW : Below w7.heap.size w7 W) => (⟨_, by rw [hkj]; rfl, by rw [hkj]; exact (hU7.below hW).more hW.size⟩ : JobAt W W.heap.size (.agg (jobC j (.slice Ak (j.srcs.length + more.length) ck)).toArray) kj))
          have Hkj := Lib.hid hkj
          have X7 := Lib.hid (X2.out.bl_ hb27)
          have K7 := Lib.hid hX7
          have Hb7 := Lib.hid (bstep Hb2.out hb27)
          have Hgo := Lib.hid (gof_any w7 (.slice A l.length c) l (ByE.moreT (HE.out.below Hb7.out) Hb7.out.size) (by omega))
          clear hw7 hX7 hch hs36 hb27 hO7 hU7 hkj HX6 Hb36 Ho6 hk4 hf4 HM5 Hb5 Ho5 hz5 hx4 Hone Hw4 Hw3 HB4 HB3 HJ4 HU4 HX3 hz2 hz3 hz4
          refine Hgo.out.mono ?_
          rintro _ w8 ⟨hb8, hcs⟩
          have Hb8 := Lib.hid hb8
          have X8 := Lib.hid (X7.out.bl_ hb8)
          have K8 := Lib.hid (K7.out.bl_ hb8)
          have Hbw8 := Lib.hid (bstep Hb7.out hb8)
          clear hb8 Hgo
          rcases hcs with ⟨_, rfl⟩ | ⟨hw0, L, hp, hsr, (⟨_, rfl⟩ | ⟨R, gg, hm, rfl, hgs, hG⟩)⟩
          · go_wp2_with fail
            refine (Haw.out _).mono ?_
            rintro _ w9 ⟨rfl, hb9⟩
            go_wp2_with fail
            go_ret
            exact ⟨rfl, bstep Hbw8.out hb9⟩
          · go_wp2_with fail
            refine (Haw.out _).mono ?_
            rintro _ w9 ⟨rfl, hb9⟩
            go_wp2_with fail
            go_ret
            exact ⟨rfl, bstep Hbw8.out hb9⟩
          · have HR := Lib.hid ((mrow_ok l L R hp hw0 hsr hm).goodT (by omega))
            have HG8 := Lib.hid hG
            obtain ⟨gk, hgk⟩ : ∃ gk, great22 kj = gk := ⟨_, rfl⟩
            have hgr := great22_any w8 _ kj (HKat.out w8 Hb8.out)
            rw [hgk] at hgr
            have Hgr := Lib.hid hgr
            have Hgk := Lib.hid hgk
            clear hgr hgk hw0 hp hsr hm hgs hG
            cases gk with
            | true =>
              go_wp2_with (first | ((with_reducible refine wpList_load_aggGT ?_ 29 (.tmp 9) ?_ ⟨w2.heap.size, 0, none⟩ ?_ (jobC j (.slice Ak (j.srcs.length + more.length) ck)) K8.out.cells Tryz.underlying29 ?_ ?_ ?_); exact rfl; exact rfl; exact rfl; exact rfl; exact infoJob15))
              refine Hgr.out.mono ?_
              rintro _ w9 ⟨rfl, hb9⟩
              have Hb9 := Lib.hid (bstep Hbw8.out hb9)
              clear hb9
              go_wp2_with fail
              refine (Haw.out _).mono ?_
              rintro _ wA ⟨rfl, hbA⟩
              go_wp2_with fail
              go_ret
              exact ⟨rfl, bstep Hb9.out hbA⟩
            | false =>
              obtain ⟨mk, hmk⟩ : ∃ mk, may19 kj = mk := ⟨_, rfl⟩
              have HmayK := Lib.hid (fun (W : World) (hW : Below w7.heap.size w7 W) => may19_any W _ kj (HKat.out W hW))
              rw [hmk] at HmayK
              have Hmk := Lib.hid hmk
              clear hmk
              go_wp2_with (first | ((with_reducible refine wpList_load_aggGT ?_ 29 (.tmp 9) ?_ ⟨w2.heap.size, 0, none⟩ ?_ (jobC j (.slice Ak (j.srcs.length + more.length) ck)) K8.out.cells Tryz.underlying29 ?_ ?_ ?_); exact rfl; exact rfl; exact rfl; exact rfl; exact infoJob15))
              refine Hgr.out.mono ?_
              rintro _ wa ⟨rfl, hba⟩
              have K8b := Lib.hid (K8.out.bl_ hba)
              have Hba := Lib.hid (bstep Hb8.out hba)
              have Hbwa := Lib.hid (bstep Hbw8.out hba)
              have HGa := Lib.hid ((HG8.out.below hba).more hba.size)
              have X8b := Lib.hid (X8.out.bl_ hba)
              clear hba Hgr
              go_wp2_with (first | ((with_reducible refine wpList_load_aggGT ?_ 29 (.tmp 9) ?_ ⟨w2.heap.size, 0, none⟩ ?_ (jobC j (.slice Ak (j.srcs.length + more.length) ck)) K8b.out.cells Tryz.underlying29 ?_ ?_ ?_); exact rfl; exact rfl; exact rfl; exact rfl; exact infoJob15))
              refine (HmayK.out wa Hba.out).mono ?_
              rintro _ w9 ⟨rfl, hb9⟩
              have K9 := Lib.hid (K8b.out.bl_ hb9)
              have X9 := Lib.hid (X8b.out.bl_ hb9)
              have Hb79 := Lib.hid (bstep Hba.out hb9)
              have Hb9 := Lib.hid (bstep Hbwa.out hb9)
              have HG9 := Lib.hid ((HGa.out.below hb9).more hb9.size)
              clear hb9 HmayK K8 K8b X8 X8b Hba Hbwa HGa HG8 Hb8 Hbw8
              cases mk with
              | false =>
                go_wp2_with fail
                refine (Haw.out _).mono ?_
                rintro _ wA ⟨rfl, hbA⟩
                go_wp2_with fail
                go_ret
                exact ⟨rfl, bstep Hb9.out hbA⟩
              | true =>
                obtain ⟨hk1, hk2, hknd⟩ := may19_srcs Hmk.out
                obtain ⟨hklen, hktr, _⟩ := great22_parts Hgk.out
                have HKM := Lib.hid (may19_may Hmk.out)
                obtain ⟨pa, hpa⟩ : ∃ pa, pa = pathP R j id := ⟨_, rfl⟩
                obtain ⟨pb, hpb⟩ : ∃ pb, pb = pathP R kj id := ⟨_, rfl⟩
                have HPa := Lib.hid (fun (W : World) (hW : Below w9.heap.size w9 W) => path_any W gg R HR.out ((HG9.out.below hW).more hW.size) _ j id hid (HJat.out W (bstep Hb9.out hW)) Hnd.out HSok.out (by omega) (by omega))
                have HPb := Lib.hid (fun (W : World) (hW : Below w9.heap.size w9 W) => path_any W gg R HR.out ((HG9.out.below hW).more hW.size) _ kj id hid (HKat.out W (bstep Hb79.out hW)) hknd (sort_ok kj.srcs (by omega) (by omega)) (by omega) (by omega))
                rw [← hpa] at HPa
                rw [← hpb] at HPb
                have Hpa := Lib.hid hpa
                have Hpb := Lib.hid hpb
                clear hpa hpb hknd
                go_wp2_with fail
                refine wp_region_typed [some 57, some 58, some 59, some 60, some 61, some 62, some 63, some 64, some 12, some 13] [57, 58, 59, 60, 61, 62, 63, 64, 12, 13]
                  [Ph.is (.pointer (some ⟨gg, 0, none⟩)),
                    Ph.is (.agg (jobC j (.slice As j.srcs.length cs)).toArray),
                    Ph.is (.int .u32 (id : Int)),
                    Ph.ownU w9.heap.size pa,
                    Ph.is (.pointer (some ⟨gg, 0, none⟩)),
                    Ph.is (.agg (jobC j (.slice Ak (j.srcs.length + more.length) ck)).toArray),
                    Ph.is (.int .u32 (id : Int)),
                    Ph.ownU w9.heap.size pb,
                    Ph.ownU w9.heap.size pa,
                    Ph.ownU w9.heap.size pb] rfl rfl (by kernel_rfl) (by kernel_rfl) ?_ ?_
                · refine ⟨?_, ?_, ?_, ?_, ?_, ?_, ?_, ?_, ?_, ?_, trivial⟩
                  · -- 0: slot 57 := Op.move t10
                    refine ob_yes fun f w' hb hp => ?_
                    simp [PreOf, factOf, valOf, Ph.is, Ph.by_, Ph.any, Region.binds, Ph.ownU] at hp
                    refine ⟨by simp [Gd, valOf, hp], ?_⟩
                    refine mild_val (.pointer (some ⟨gg, 0, none⟩)) ?_ rfl
                    simp [execOp, evalF, hp]
                  · -- 1: slot 58 := Op.load 29 t5
                    refine ob_yes fun f w' hb hp => ?_
                    simp [PreOf, factOf, valOf, Ph.is, Ph.by_, Ph.any, Region.binds, Ph.ownU] at hp
                    refine ⟨by simp [Gd, valOf, hp], ?_⟩
                    refine mild_val (.agg (jobC j (.slice As j.srcs.length cs)).toArray) ?_ rfl
                    have hr := run_loadVar_cells w' ⟨w.heap.size, 0, none⟩ 29 (jobC j (.slice As j.srcs.length cs)) (X9.out.bl_ hb).cells Tryz.underlying29 rfl infoJob15
                    simp [execOp, evalF, hp, Instr.loadAt, Instr.sureAddr, hr]
                  · -- 2: slot 59 := Op.move t3
                    refine ob_yes fun f w' hb hp => ?_
                    simp [PreOf, factOf, valOf, Ph.is, Ph.by_, Ph.any, Region.binds, Ph.ownU] at hp
                    refine ⟨by simp [Gd, valOf, hp], ?_⟩
                    refine mild_val (.int .u32 (id : Int)) ?_ rfl
                    simp [execOp, evalF, hp]
                  · -- 3: slot 60 := Op.call   value (Operand.func 11), args := #[t57, t58, t59], argTypes := #[32, 29, 24]  
                    refine ob_yes fun f w' hb hp => ?_
                    simp [PreOf, factOf, valOf, Ph.is, Ph.by_, Ph.any, Region.binds, Ph.ownU] at hp
                    refine ⟨by simp [Gd, valOf, hp], ?_⟩
                    refine mild_call 11 _ _ Tryz.f11 Tryz.func11 (by kernel_rfl) (by kernel_rfl) rfl ?_
                    simp [evalF, hp, Ph.is, Ph.by_, Ph.any, Ph.ownU]
                    refine (HPa.out w' hb).mono fun ev w8 h => ?_
                    obtain ⟨vp, rfl, ho, h2⟩ := h
                    exact ⟨_, rfl, h2, ho.more hb.size⟩
                  · -- 4: slot 61 := Op.move t10
                    refine ob_yes fun f w' hb hp => ?_
                    simp [PreOf, factOf, valOf, Ph.is, Ph.by_, Ph.any, Region.binds, Ph.ownU] at hp
                    refine ⟨by simp [Gd, valOf, hp], ?_⟩
                    refine mild_val (.pointer (some ⟨gg, 0, none⟩)) ?_ rfl
                    simp [execOp, evalF, hp]
                  · -- 5: slot 62 := Op.load 29 t9
                    refine ob_yes fun f w' hb hp => ?_
                    simp [PreOf, factOf, valOf, Ph.is, Ph.by_, Ph.any, Region.binds, Ph.ownU] at hp
                    refine ⟨by simp [Gd, valOf, hp], ?_⟩
                    refine mild_val (.agg (jobC j (.slice Ak (j.srcs.length + more.length) ck)).toArray) ?_ rfl
                    have hr := run_loadVar_cells w' ⟨w2.heap.size, 0, none⟩ 29 (jobC j (.slice Ak (j.srcs.length + more.length) ck)) (K9.out.bl_ hb).cells Tryz.underlying29 rfl infoJob15
                    simp [execOp, evalF, hp, Instr.loadAt, Instr.sureAddr, hr]
                  · -- 6: slot 63 := Op.move t3
                    refine ob_yes fun f w' hb hp => ?_
                    simp [PreOf, factOf, valOf, Ph.is, Ph.by_, Ph.any, Region.binds, Ph.ownU] at hp
                    refine ⟨by simp [Gd, valOf, hp], ?_⟩
                    refine mild_val (.int .u32 (id : Int)) ?_ rfl
                    simp [execOp, evalF, hp]
                  · -- 7: slot 64 := Op.call   value (Operand.func 11), args := #[t61, t62, t63], argTypes := #[32, 29, 24]  
                    refine ob_yes fun f w' hb hp => ?_
                    simp [PreOf, factOf, valOf, Ph.is, Ph.by_, Ph.any, Region.binds, Ph.ownU] at hp
                    refine ⟨by simp [Gd, valOf, hp], ?_⟩
                    refine mild_call 11 _ _ Tryz.f11 Tryz.func11 (by kernel_rfl) (by kernel_rfl) rfl ?_
                    simp [evalF, hp, Ph.is, Ph.by_, Ph.any, Ph.ownU]
                    refine (HPb.out w' hb).mono fun ev w8 h => ?_
                    obtain ⟨vp, rfl, ho, h2⟩ := h
                    exact ⟨_, rfl, h2, ho.more hb.size⟩
                  · -- 8: slot 12 := Op.assign t60
                    refine ob_yes fun f w' hb hp => ?_
                    simp [PreOf, factOf, valOf, Ph.is, Ph.by_, Ph.any, Region.binds, Ph.ownU] at hp
                    refine ⟨by simp [Gd, valOf, hp], ?_⟩
                    exact mild_val (f 60) (by simp [execOp, evalF]) (by first | exact hp.1 | simpa [Ph.ownU] using hp | exact hp)
                  · -- 9: slot 13 := Op.assign t64
                    refine ob_yes fun f w' hb hp => ?_
                    simp [PreOf, factOf, valOf, Ph.is, Ph.by_, Ph.any, Region.binds, Ph.ownU] at hp
                    refine ⟨by simp [Gd, valOf, hp], ?_⟩
                    exact mild_val (f 64) (by simp [execOp, evalF]) (by first | exact hp.1 | simpa [Ph.ownU] using hp | exact hp)
                · intro f wB hbB hp
                  simp only [PostOf, Ph.is, Ph.by_, Ph.any, Ph.ownU] at hp
                  obtain ⟨h0, h1, h2, h3, h4, h5, h6, h7, h8, h9, _⟩ := hp
                  simp only [fills, List.foldl_cons, List.foldl_nil, Act.put, List.setIfInBounds_toArray, List.set_cons_zero, List.set_cons_succ, h0, h1, h2, h4, h5, h6]
                  clear h0 h1 h2 h4 h5 h6
                  generalize f 60 = v60 at *
                  generalize f 64 = v64 at *
                  generalize f 12 = v12 at *
                  generalize f 13 = v13 at *
                  have hoa : OwnF 24 cU32 wB w9.heap.size v12 pa := h8
                  have hob : OwnF 24 cU32 wB w9.heap.size v13 pb := h9
                  have hpal : pa.length ≤ 1 + j.len.toNat := by rw [Hpa.out]; exact pathP_le R j id
                  have hpbl : pb.length ≤ 1 + kj.len.toNat := by rw [Hpb.out]; exact pathP_le R kj id
                  have hpl : 0 < pa.length ↔ id < walkersJ j := by rw [Hpa.out]; exact pathP_len R j id
                  have hpl2 : 0 < pb.length ↔ id < walkersJ kj := by rw [Hpb.out]; exact pathP_len R kj id
                  have hsame : id < walkersJ j → pa = pb := fun h => by
                    rw [Hpa.out, Hpb.out, Hkj.out]
                    exact (pathP_more R j more id HMJ.out (by rw [← Hkj.out]; exact HKM.out) h).symm
                  obtain ⟨Aa, ca, rfl, _⟩ := hoa.form'
                  obtain ⟨Ab, cb, rfl, _⟩ := hob.form'
                  have HOa := Lib.hid hoa
                  have HOb := Lib.hid hob
                  have XB := Lib.hid (X9.out.bl_ hbB)
                  have KB := Lib.hid (K9.out.bl_ hbB)
                  have HbB := Lib.hid (bstep Hb9.out hbB)
                  have Hb7B := Lib.hid (bstep Hb79.out hbB)
                  have HWj := Lib.hid (walkers19_any wB _ j (HJat.out wB HbB.out) Hmy2.out)
                  have HWk := Lib.hid (fun (W : World) (hW : Below w7.heap.size w7 W) => walkers19_any W _ kj (HKat.out W hW) Hmk.out)
                  have Hsame := Lib.hid hsame
                  have Hpl2 := Lib.hid hpl2
                  clear h3 h7 h8 h9 hoa hob hbB hsame hpl2 HPa HPb X9 K9 Hb9 Hb79 HG9 HKat HJat Hpa Hpb
                  go_wp2_with (first | ((with_reducible refine wpList_load_aggGT ?_ 29 (.tmp 5) ?_ ⟨w.heap.size, 0, none⟩ ?_ (jobC j (.slice As j.srcs.length cs)) XB.out.cells Tryz.underlying29 ?_ ?_ ?_); exact rfl; exact rfl; exact rfl; exact rfl; exact infoJob15))
                  refine HWj.out.mono ?_
                  rintro _ wC ⟨rfl, hbC⟩
                  have HbC := Lib.hid (bstep HbB.out hbC)
                  have Hb7C := Lib.hid (bstep Hb7B.out hbC)
                  have KC := Lib.hid (KB.out.bl_ hbC)
                  have HOa2 := Lib.hid ((OwnR.below_ HOa.out hbC).rowLt.mono (fun _ h => h) (fun _ h => h.elim) : ByU wC wC.heap.size (.slice Aa pa.length ca) pa)
                  have HOb2 := Lib.hid ((OwnR.below_ HOb.out hbC).rowLt.mono (fun _ h => h) (fun _ h => h.elim) : ByU wC wC.heap.size (.slice Ab pb.length cb) pb)
                  clear hbC HWj HbB Hb7B KB XB HOa HOb
                  by_cases hlt : id < walkersJ j
                  · have hdl : decide ((id : Int) < (walkersJ j : Int)) = true := decide_eq_true (by omega)
                    have hdl2 : decide (id < walkersJ j) = true := decide_eq_true hlt
                    have hp0 : decide ((pa.length : Int) > 0) = true := decide_eq_true (by have := hpl.2 hlt; omega)
                    have hp1 : decide (0 < pa.length) = true := decide_eq_true (hpl.2 hlt)
                    have hsm := Lib.hid (same_u wC wC.heap.size (Nat.le_refl _) (.slice Aa pa.length ca) (.slice Ab pb.length cb) pa pb HOa2.out HOb2.out (by omega) (by omega) true (decide_eq_true (Hsame.out hlt)).symm)
                    clear hlt hpl
                    generalize walkersJ j = wj at *
                    go_wp2_with fail
                    refine hsm.out.mono ?_
                    rintro _ wD ⟨rfl, hbD⟩
                    have HbD := Lib.hid (bstep HbC.out hbD)
                    clear hbD
                    go_wp2_with fail
                    refine (Haw.out _).mono ?_
                    rintro _ wE ⟨rfl, hbE⟩
                    go_wp2_with fail
                    go_ret
                    exact ⟨rfl, bstep HbD.out hbE⟩
                  · have hdl : decide ((id : Int) < (walkersJ j : Int)) = false := decide_eq_false (by omega)
                    have hdl2 : decide (id < walkersJ j) = false := decide_eq_false hlt
                    have hp0 : pa = [] := by
                      rcases Nat.eq_zero_or_pos pa.length with h | h
                      · exact List.eq_nil_of_length_eq_zero h
                      · exact absurd (hpl.1 h) hlt
                    clear hpl hpal Hsame HOa2
                    subst hp0
                    obtain ⟨bw, hbw⟩ : ∃ bw, decide (id < walkersJ kj) = bw := ⟨_, rfl⟩
                    have hbw1 : decide ((id : Int) < (walkersJ kj : Int)) = bw := by rw [← hbw]; exact decide_eq_decide.2 (by omega)
                    have hbw2 : decide ((pb.length : Int) > 0) = bw := by rw [← hbw]; exact decide_eq_decide.2 ⟨fun h => Hpl2.out.1 (by omega), fun h => by have := Hpl2.out.2 h; omega⟩
                    have hbw3 : decide (0 < pb.length) = bw := by rw [← hbw]; exact decide_eq_decide.2 Hpl2.out
                    have hbb : (bw == bw) = true := by simp
                    have HWk2 := Lib.hid (HWk.out wC Hb7C.out)
                    have Hbw := Lib.hid hbw
                    clear hlt HWk
                    generalize walkersJ j = wj at *
                    generalize walkersJ kj = wk at *
                    go_wp2_with (first | ((with_reducible refine wpList_load_aggGT ?_ 29 (.tmp 9) ?_ ⟨w2.heap.size, 0, none⟩ ?_ (jobC j (.slice Ak (j.srcs.length + more.length) ck)) KC.out.cells Tryz.underlying29 ?_ ?_ ?_); exact rfl; exact rfl; exact rfl; exact rfl; exact infoJob15))
                    refine HWk2.out.mono ?_
                    rintro _ wD ⟨rfl, hbD⟩
                    have HbD := Lib.hid (bstep HbC.out hbD)
                    clear hbD HWk2
                    go_wp2_with fail
                    refine (Haw.out _).mono ?_
                    rintro _ wE ⟨rfl, hbE⟩
                    go_wp2_with fail
                    go_ret
                    exact ⟨rfl, bstep HbD.out hbE⟩
end Go.Proofs.YtcffeepgfjpcaaaGreat

namespace Go.Proofs.YtcffeepgfjpcaaaGreat.topTape
open Go.Proofs.YtcffeepgfjpcaaaGreat
open Go.ChangeShapes Go.WideShapes Go.ChangeAt Go.RowKit
set_option linter.unusedVariables false
set_option linter.unusedSimpArgs false

theorem own : ownKnob Tryz.prog.godebug = none := by kernel_rfl
theorem laidOut : laidOutB Tryz.prog = true := by kernel_rfl

set_option maxRecDepth 100000 in
theorem walk (v0 : Value) (cs1 : List Value) (v2 v3 : Value) (w : World) (h0 : InC w 22 [v0]) (h1 : InC w 29 cs1) (h2 : InC w 25 [v2]) (h3 : InC w 24 [v3]) :
    Calls Tryz.prog 3 #[v0, .agg cs1.toArray, v2, v3] w fun e w' => e = .returned (.bool true) ∧ Below w.heap.size w w' := by
  obtain ⟨l, hl⟩ := h0.edges
  obtain ⟨j, vs, rfl, hj⟩ := h1.job
  obtain ⟨m, hm⟩ := h2.u32s
  obtain ⟨x, e3, _⟩ := InC.u32 (S := fun _ => True) Tryz.underlying24 h3
  injection e3 with e3
  subst e3
  obtain ⟨A, c, rfl, _⟩ := id hl
  obtain ⟨As, cs, rfl, _⟩ := id hj
  obtain ⟨Am, cm, rfl, _⟩ := id hm
  exact ttape_walk w A c l hl j As cs hj Am cm m hm x.toNat x.toNat_lt

set_option maxRecDepth 100000 in
theorem lifted (os : Os) (started : os.Started) (H : Type) (enc : TypeId × Value → H) :
    ReturnsInHanded {} Tryz.checked os 3 .any (Rows.topTapeSpec.pre6 enc Tryz.prog Tryz.f3 Rows.topTapeRow.domain false) (Rows.topTapeSpec.post enc Tryz.prog Tryz.f3 false true false false) := by
  refine returnsInHanded_of_change (C := Tryz.checked) own started (by kernel_rfl) Tryz.func3
    (ChangeSpec.witness6 (enc := enc) (C := Tryz.checked) false ⟨#[], #[.slice none 0 0, .agg #[.int .u8 0, .int .u64 0, .int .u32 0, .int .u32 0, .slice none 0 0, .int .u32 0, .int .u32 0, .int .u32 0, .int .u32 0, .int .u32 0, .int .u32 0, .int .u32 0, .int .u32 0, .int .u32 0, .int .u32 0], .slice none 0 0, .int .u32 0], []⟩ 8 (by kernel_rfl) (by kernel_rfl) (by kernel_rfl) (by kernel_rfl)) ?_
  intro W base args ds gs before hval0 hW hcnd _
  have hval : ∀ (j : Nat) t v, Tryz.f3.params[j]? = some t → args[j]? = some v → Value.okWide Tryz.prog W .any base t v := hval0
  have hW' := hW
  obtain ⟨p, q, hA0, hV, rfl, hfz, hnd⟩ := hW
  have hA : DataW.TrodAll enc Tryz.prog W 0 (fun _ => true) true Tryz.f3.params.toList args.toList ds p := hA0
  rw [Tryz.params3] at hA hval
  obtain ⟨v0, vs0, d0, ds0, p0, q0, hargs, rfl, rfl, h0, r0⟩ := trodAll_cons hA
  obtain ⟨v1, vs1, d1, ds1, p1, q1, rfl, rfl, rfl, h1, r1⟩ := trodAll_cons r0
  obtain ⟨v2, vs2, d2, ds2, p2, q2, rfl, rfl, rfl, h2, r2⟩ := trodAll_cons r1
  obtain ⟨v3, vs3, d3, ds3, p3, q3, rfl, rfl, rfl, h3, r3⟩ := trodAll_cons r2
  obtain ⟨rfl, rfl, rfl⟩ := trodAll_nil r3
  obtain rfl : args = #[v0, v1, v2, v3] := by cases args; simp_all
  obtain ⟨rfl, rfl⟩ := trodVars_none hV
  have k0 := h0
  have lt0 : ∀ x ∈ p0, x.block < W.heap.size := by obtain ⟨m, hm⟩ := k0; exact DataW.trod_lt m _ _ _ hm
  have i0 := InC.of h0
  obtain ⟨a0, len0, cap0, rfl⟩ := okWide_slice Tryz.underlying22 (hval 0 22 v0 rfl rfl)
  have j0 : InC W 22 [_] := i0
  have k1 := h1
  have lt1 : ∀ x ∈ p1, x.block < W.heap.size := by obtain ⟨m, hm⟩ := k1; exact DataW.trod_lt m _ _ _ hm
  have i1 := InC.of h1
  obtain ⟨cs1, rfl, j1⟩ := InC.agg Tryz.underlying29 (hval 1 29 v1 rfl rfl) i1
  have k2 := h2
  have lt2 : ∀ x ∈ p2, x.block < W.heap.size := by obtain ⟨m, hm⟩ := k2; exact DataW.trod_lt m _ _ _ hm
  have i2 := InC.of h2
  obtain ⟨a2, len2, cap2, rfl⟩ := okWide_slice Tryz.underlying25 (hval 2 25 v2 rfl rfl)
  have j2 : InC W 25 [_] := i2
  have k3 := h3
  have lt3 : ∀ x ∈ p3, x.block < W.heap.size := by obtain ⟨m, hm⟩ := k3; exact DataW.trod_lt m _ _ _ hm
  have i3 := InC.of h3
  obtain ⟨a3, rfl⟩ := okWide_int Tryz.underlying24 (hval 3 24 v3 rfl rfl)
  have j3 : InC W 24 [_] := i3
  clear hA0 hval0
  refine (walk _ cs1 _ _ W j0 j1 j2 j3).mono fun e W' ⟨he, bel⟩ => ?_
  subst he
  exact ⟨_, rfl, _, _, _, [], _, [], hW', trodAll_mk1 (shut_bool Tryz.underlying4 _), (trodAll_cons_mk (Below.trod laidOut (by kernel_rfl) (of_decide_eq_true (by kernel_rfl)) k0 bel lt0) (trodAll_cons_mk (Below.trod laidOut (by kernel_rfl) (of_decide_eq_true (by kernel_rfl)) k1 bel lt1) (trodAll_cons_mk (Below.trod laidOut (by kernel_rfl) (of_decide_eq_true (by kernel_rfl)) k2 bel lt2) (trodAll_cons_mk (Below.trod laidOut (by kernel_rfl) (of_decide_eq_true (by kernel_rfl)) k3 bel lt3) trodAll_mk0)))), rfl, bel.frame _, fun h => by cases h⟩

theorem over : Rows.topTapeRow.holds Tryz.pinned (OpenSpec.ofChange Rows.topTapeSpec) :=
  OpenClaim.holds_of_wide 3 Tryz.f3 rfl rfl rfl rfl rfl rfl rfl ⟨rfl, rfl, rfl, rfl, rfl⟩ rfl rfl rfl rfl rfl (by kernel_rfl) Tryz.func3 (by kernel_rfl)
    (of_decide_eq_true (by kernel_rfl)) (by unfold Func.isWrapper; first | (rw [if_pos (by decide +kernel)]; kernel_rfl) | (rw [if_neg (by decide +kernel)]; exact ⟨rfl, rfl⟩))
    (fun os started H enc _ => lifted os started H enc)

theorem proved : Rows.TopTapeSaid := over
#print axioms proved
end Go.Proofs.YtcffeepgfjpcaaaGreat.topTape
