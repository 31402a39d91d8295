/- Lemmas for the law TopMapped: merge.Each's iterator; merge.Rows: what is held between the yields; merge.Each and slices.Values as values; merge.Rows; text.Words; slices.SortFunc at rows of rows of bytes: the laying of the shelf contract; slices.SortFunc at keys: a permutation, sorted by the keys' numbers; gaps.Find: the binary search; a vertex' row in a graph (printed by wip/gen/topfind.py); graph.Of: the rows of the sorted keys of edges; edge.One; palmerref11.Lines; palmerref12.Read; a text's lines, cut one by one; text.Lines; text.Lines' lines as an iterator; edge.Read; palmertop.weight; maps of a job's numbers. No condition. -/
import Derived.Test.YtcffeepgfjpcaaaGreatZTopMapped3
import Derived.Sort.CutIn
import Derived.Shelf.SlGeneric
import Derived.Ground.SlsfProg
import Derived.Shelf.SlSortCmp.Whole1
import Derived.Test.YtcffeepgfjpcaaaGreatProg
import Derived.Shelf.SlSortCmp.NoneTotal
import Derived.WalkMore
import Derived.Maps.RangeWalk
import Derived.Maps.OwnSet
import Derived.Maps.Views
namespace Go.Proofs.YtcffeepgfjpcaaaGreat
set_option linter.unusedSimpArgs false
set_option linter.unusedVariables false
open Go.RowKit Go.Shelf
attribute [local go_sem] Oper.semAt_some

theorem infoMerger : (Tryz.prog.info? 166).map (fun i => (i.zero, i.size, i.bytes)) = some (some (.agg #[.int .u32 0, .slice none 0 0, .slice none 0 0]), 3, 56) := by kernel_rfl
theorem func_not_nilK_ (d : Nat) (W : World) (fn : Fn) (bs : Array Value) : (Op.equalIn (d + 1) 129 (.func fn #[] bs) .nilFunc).run Tryz.prog W = .ok false W := by
  have hu : Tryz.prog.underlying 129 = some (.func #[172] #[] false) := by kernel_rfl
  unfold Op.equalIn
  simp [Sem.run_bind, run_underlying hu, go_sem]
theorem func_not_nilK (W : World) (fn : Fn) (bs : Array Value) : (binOp .eql 129 (.func fn #[] bs) .nilFunc).run Tryz.prog W = .ok (.bool false) W := by
  have h := func_not_nilK_ 9999 W fn bs
  have e : (binOp .eql 129 (.func fn #[] bs) .nilFunc).run Tryz.prog W = ((Op.equalIn (9999 + 1) 129 (.func fn #[] bs) .nilFunc).run Tryz.prog W).andThen fun a w' => .ok (.bool a) w' := by
    simp [binOp, go_sem, Op.equal, Op.maxDepth]
  rw [e, h]
  rfl
theorem roundIn_wide {n n' : Nat} {P : Program} {l l' : Nat} {f : FuncId} {tmps : Array Value} {assign body : Code} {w : World} {R : Ending → World → Prop} (h : RoundIn Fence.wide n P l f tmps assign body w R) : RoundIn (Fence.wide.inRound l') n' P l f tmps assign body w R :=
  ⟨trivial, fun c cs _ => h.2 c cs (room_wide _)⟩

set_option maxRecDepth 100000 in
set_option maxHeartbeats 3200000 in
theorem each_iter (n : Nat) (hn : 3 ≤ n) (w : World) (V L0 : Nat) (hV : L0 ≤ V) (hVw : V < w.heap.size) (L : List GEdge) (vals : List Value) (kb Bs : Nat) (A : Option Addr) (c : Nat)
    (hkb : BoxAt 129 w kb [.func (.func 97) #[] #[.pointer (some ⟨Bs, 0, none⟩)]]) (hbs : BoxAt 70 w Bs [.slice A vals.length c]) (hlen : vals.length = L.length) (hl20 : L.length ≤ 1048576)
    (hcell : ∀ i, (h : i < vals.length) → ∃ ad, A = some ad ∧ ad.block < L0 ∧ w.cell? (ad.add i) = some vals[i])
    (hkeys : ∀ i, (h : i < vals.length) → By w L0 vals[i] (keyL (L[i]'(by omega)))) (hsort : L.Pairwise fun a b => a.num ≤ b.num) (hwt : ∀ x ∈ L, x.wt ≠ 0) :
    IterZ (α := Value × Int) Tryz.prog n 92 #[.pointer (some ⟨kb, 0, none⟩)] encE [166, 48] rowBlk (KrM V L0 (w.heap.size + 2))
      (fun pre x W => ∃ r va, (eachY L ⟨0, []⟩)[pre.length]? = some (r, x.2) ∧ x.1 = .agg #[.int .u32 (r.fr.toNat : Int), va] ∧ OwnF 48 cArc W w.heap.size va r.arcs)
      (fun xs _ => xs.length = (eachY L ⟨0, []⟩).length) (fun _ => True) (fun _ => True) w := by
  intro l J Jx W hW hJ hJx hY h0
  have hfn := func_not_nilK
  have hsW := hW.size
  obtain ⟨w0, hw0⟩ : ∃ w0, w0 = (W.alloc (.cells #[.func (.yield l) #[] #[]] 164)).alloc (.cells [.int .u32 0, .slice none 0 0, .slice none 0 0].toArray 166) := ⟨_, rfl⟩
  have hb0 : Below W.heap.size W w0 := by rw [hw0]; exact bstep (balloc _ _) (balloc _ _)
  have hkW := ((hkb.below hkb.lt hW).bl_ hb0).cell 0 _ rfl
  have hy0 : BoxAt 164 w0 W.heap.size [.func (.yield l) #[] #[]] := by rw [hw0]; exact (BoxAt.new_ _ W [.func (.yield l) #[] #[]]).alloc _
  have hg0 : BoxAt 166 w0 (W.heap.size + 1) (mgC 0 (.slice none 0 0) (.slice none 0 0)) := by
    rw [hw0]
    have := BoxAt.new_ 166 (W.alloc (.cells #[.func (.yield l) #[] #[]] 164)) (mgC 0 (.slice none 0 0) (.slice none 0 0))
    rwa [World.size_alloc] at this
  have hz0 : w0.heap.size = W.heap.size + 2 := by rw [hw0]; simp
  have Hw0 := Lib.hid hw0
  have Hb0 := Lib.hid hb0
  have Hy0 := Lib.hid hy0
  have Hg0 := Lib.hid hg0
  have hbW := hW.mono (show L0 ≤ w.heap.size by omega)
  have hbsW := hbs.below hbs.lt hW
  have hcW : ∀ i, (h : i < vals.length) → ∃ ad, A = some ad ∧ ad.block < L0 ∧ W.cell? (ad.add i) = some vals[i] := fun i h => by
    obtain ⟨ad, e, h1, h2⟩ := hcell i h
    exact ⟨ad, e, h1, (hW.cell (p := ad.add i) (by rw [add_block]; omega)).trans h2⟩
  have HY := Lib.hid hY
  have HJ := Lib.hid hJ
  have HJx := Lib.hid hJx
  have HcW := Lib.hid hcW
  have HkyW := Lib.hid hkeys
  have HbsW := Lib.hid hbsW
  have HbW := Lib.hid hbW
  have H0 := Lib.hid h0
  have Hsort := Lib.hid hsort
  have Hwt := Lib.hid hwt
  clear hw0 hb0 hy0 hg0 hY hJ hJx hcW hbsW hbW hcell hkeys hkb hbs hW h0 hsort hwt
  refine callsIn_of_wp_marks Tryz.func92 rfl trivial ?_ rfl
  simp only [Tryz.ntmps92, List.size_toArray, List.length_cons, List.length_nil, Nat.reduceAdd, Nat.reduceSub, Array.replicate_succ, Array.replicate_zero, List.push_toArray, List.append_toArray, List.nil_append, List.cons_append]
  gi_wp2_with (first
    | ((with_reducible refine wpListIn_alloc_z ?_ 166 ?_ infoMerger [.int .u32 0, .slice none 0 0, .slice none 0 0] ?_ ?_); exact rfl; exact rfl; exact rfl; rw [← Hw0.out]))
  refine range_x (α := Nat) (encs := fun i => #[vals.getD i undef]) (gf := 97) (lb := #[.pointer (some ⟨Bs, 0, none⟩)]) rfl (enters_of Tryz.func97 (by kernel_rfl) rfl)
    (Kr := fun X Y => Below L0 X Y) (fun h k => h.trans k) (fun W2 q o o' h1 h2 h3 => ⟨rfl, rfl, rfl, by simp, fun k hk => World.putObj_heap_other (by omega)⟩) (fun _ => rfl)
    (vals_iter (n - 1) (by omega) w0 L0 Bs (by omega) A c vals (by omega) (HbsW.out.bl_ Hb0.out) (fun i h => by obtain ⟨ad, e, h1, h2⟩ := HcW.out i h; exact ⟨ad, e, h1, (Hb0.out.cell (p := ad.add i) (by rw [add_block]; omega)).trans h2⟩))
    (fun pre W' => EachI J L l (W.heap.size + 1) W.heap.size L0 W.heap.size w pre.length W')
    (fun c pre W' => c = .ret ∧ ((∃ xs, xs.length = (eachY L ⟨0, []⟩).length ∧ J xs W') ∨ ∃ ys, Jx ys W'))
    ?hI ?hIx (fun _ _ _ _ h _ _ => h) ?h0
    (fun _ pre x a' W' => a' = { tmps := #[.func (.yield l) #[] #[], .pointer (some ⟨kb, 0, none⟩), .pointer (some ⟨W.heap.size, 0, none⟩), .pointer (some ⟨W.heap.size + 1, 0, none⟩), vals.getD x undef, undef, undef, undef, undef, .func (.func 97) #[] #[.pointer (some ⟨Bs, 0, none⟩)], .bool false, .func (.func 97) #[] #[.pointer (some ⟨Bs, 0, none⟩)], vals.getD x undef, undef, undef, undef, undef, undef, undef, undef, undef, undef, undef, undef, undef, undef, undef, undef, undef, undef, undef, undef, undef, undef, undef, undef, undef, undef, undef, undef, undef, undef, undef, undef, undef, undef, undef, undef, undef], defers := [] } ∧ x = pre.length ∧ x < vals.length ∧ EachI J L l (W.heap.size + 1) W.heap.size L0 W.heap.size w pre.length W') ?hAx ?assign ?body ?done ?stop
  case hI => exact fun pre X Y row h hg hr => h.own (by omega) HJ.out hg fun r e => ⟨by have := (hr r e).1; omega, (hr r e).2⟩
  case hIx =>
    rintro c pre X Y row ⟨rfl, h⟩ hg hr
    refine ⟨rfl, ?_⟩
    rcases h with ⟨xs, h1, h2⟩ | ⟨ys, h1⟩
    · exact .inl ⟨xs, h1, HJ.out.own h2 hg fun r e => ⟨by have := (hr r e).1; omega, (hr r e).2⟩⟩
    · exact .inr ⟨ys, HJx.out.own h1 hg fun r e => ⟨by have := (hr r e).1; omega, (hr r e).2⟩⟩
  case h0 =>
    refine ⟨[], .slice none 0 0, .slice none 0 0, W.heap.size, ⟨0, []⟩, [], HJ.out.below H0.out Hb0.out, Hg0.out, OwnF.nil_ _ _, by omega, Nat.le_refl _, fun x h => by simp at h, World.ownsRow_nil _ _ _ _, fun x _ => ?_, Hy0.out, ⟨[], rfl, rfl⟩, HbW.out.trans (Hb0.out.mono (by omega)), Nat.zero_le _, by simp [gsum]⟩
    have : (keyL x).length = 12 := keyL_length x
    cases hk : keyL x with
    | nil => rw [hk] at this; cases this
    | cons a t => simp [Lib.compareBytes]
  case hAx =>
    rintro pre x a' _ X Y row ⟨h1, h2, h3, h4⟩ hg hr
    exact ⟨h1, h2, h3, h4.own (by omega) HJ.out hg fun r e => ⟨by have := (hr r e).1; omega, (hr r e).2⟩⟩
  case assign =>
    intro lq pre x W2 hl hi hR
    have HI := Lib.hid hi
    clear hi
    gi_wp2
    exact ⟨KeepsFrom.refl _ _, Below.refl _ _, by omega, HI.out⟩
  case body =>
    rintro lq pre k _ W1 hlq ⟨rfl, hk, hkl, ys, va, vl, base, cur, last, q1, q2, q3, q4, q5, q6, q7, q8, q9, q10, q11, q12, q13⟩ -
    have hpk : (pre ++ [k]).length = k + 1 := by rw [List.length_append, List.length_singleton, hk]
    rw [← hk] at q8 q10 q12
    have hkL : k < L.length := by omega
    obtain ⟨x, hx⟩ : ∃ x, x = L[k] := ⟨_, rfl⟩
    obtain ⟨vk, hvk⟩ : ∃ vk, vk = vals.getD k undef := ⟨_, rfl⟩
    have hvk2 : vals[k] = vk := by rw [hvk]; simp [List.getD, hkl]
    have hby1 : By W1 L0 vk (keyL x) := by rw [← hvk2, hx]; exact (HkyW.out k hkl).below q11
    have hle := q8 x (by rw [hx]; exact List.getElem?_eq_getElem hkL)
    have hw0x : x.wt ≠ 0 := Hwt.out x (by rw [hx]; exact List.getElem_mem hkL)
    have hdr : L.drop k = x :: L.drop (k + 1) := by rw [hx]; exact List.drop_eq_getElem_cons hkL
    rw [hdr] at q10
    have hs1 : W.heap.size + 2 ≤ W1.heap.size := by have := q2.lt; have := q9.lt; omega
    obtain ⟨Aa, ca, rfl, hc1, hc2, hAf⟩ := q3.form'
    have hmay := may_any22 W1 W1.heap.size (W.heap.size + 1) x vk vl last cur.fr.toNat ca Aa cur.arcs q2 (hby1.more (by omega)) q7.by_ (q3.rowLt.mono (fun _ h => h) (fun _ h => h.elim)) (Nat.le_refl _) hle hw0x q13 (by omega)
    rw [mgE_eq] at hmay
    have Hmay := Lib.hid hmay
    have Q1 := Lib.hid q1
    have Q2 := Lib.hid q2
    have Q3 := Lib.hid q3
    have Q6 := Lib.hid q6
    have Q7 := Lib.hid q7
    have Q9 := Lib.hid q9
    have Q10 := Lib.hid q10
    have Q11 := Lib.hid q11
    have Hby := Lib.hid hby1
    have Hx := Lib.hid hx
    have Hvk := Lib.hid hvk
    have hcy := q9.cell 0 _ rfl
    have Hone : Hid (∀ u ∈ edgeC x, u.oneCell' = true) := Lib.hid fun u hu => by
      simp [edgeC] at hu
      rcases hu with rfl | rfl | rfl <;> rfl
    rw [← hvk]
    have Hpk := Lib.hid hpk
    clear hpk hmay q1 q2 q3 q6 q7 q8 q9 q10 q11 hby1 hx hvk hvk2 hle hdr H0 Hb0 Hw0 Hy0 Hg0 HbW hcy hk
    cases ho : overP cur x with
    | true =>
      rw [ho] at Hmay
      simp only [if_true] at Hmay
      gi_wp2
      refine ⟨trivial, fun _ => by omega, ?_⟩
      refine (CallsIn.inRound lq (callsIn_wide.2 Hmay.out)).mono ?_
      rintro _ W2 ⟨rfl, hb2⟩
      have hs2 := hb2.size
      obtain ⟨W3, hW3⟩ : ∃ W3, W3 = W2.alloc (.cells (edgeC x).toArray 55) := ⟨_, rfl⟩
      have hb3 : Below W1.heap.size W1 W3 := by rw [hW3]; exact bstep hb2 (balloc _ _)
      have HW3 := Lib.hid hW3
      have Hb3 := Lib.hid hb3
      have hcy3 := (Q9.out.bl_ hb3).cell 0 _ rfl
      have hJ3 : J ys W3 := HJ.out.below Q1.out hb3
      obtain ⟨fn, tmps, assign, body, hy, hR⟩ := HY.out ys (.agg #[.int .u32 0, .slice none 0 0], 10) W3 hJ3 (by
        obtain ⟨es, he, hel⟩ := Q10.out
        refine ⟨⟨0, []⟩, .slice none 0 0, ?_, rfl, OwnF.nil_ _ _⟩
        rw [he, eachY_over ho, ← hel]
        simp) trivial
      have HR := Lib.hid hR
      unfold edgeV
      clear hW3 hb3 hb2 hR hJ3
      gi_wp2_with (first
        | ((with_reducible refine wpListIn_alloc_z ?_ 55 ?_ infoEdge zeroEc ?_ ?_); exact rfl; exact rfl; exact rfl)
        | ((with_reducible refine wpListIn_store_new ?_ 55 (.tmp 5) (.tmp 16) ?_ zeroEc (edgeC x) ?_ ?_ ?_ ?_ Hone.out ?_); exact rfl; exact rfl; exact rfl; exact rfl; exact infoEdge3; exact rfl; rw [← HW3.out]))
      refine ⟨fun _ => by omega, ?_⟩
      refine (roundIn_wide HR.out).mono ?_
      have Hkf := Lib.hid (keepsBelow Hb3.out w0.heap.size)
      have Hn4 : Hid ((ys ++ [((.agg #[.int .u32 0, .slice none 0 0], 10) : Value × Int)]).length = (eachY L ⟨0, []⟩).length) := Lib.hid (by
        obtain ⟨es, he, hel⟩ := Q10.out
        rw [he, eachY_over ho, List.length_append, List.length_append, hel]
        rfl)
      clear hy hcy3 HR
      rintro e W4 (⟨rfl, hJ4, hk4, -⟩ | ⟨rfl, hJ4, hk4⟩)
      · have Hk4 := Lib.hid (keepsMono hk4.kf (show w.heap.size + 2 ≤ w0.heap.size by omega))
        have HJ4 := Lib.hid hJ4
        clear hk4 hJ4
        gi_wp2
        exact ⟨Hkf.out.trans Hk4.out, rfl, .inl ⟨_, Hn4.out, HJ4.out⟩⟩
      · have Hk4 := Lib.hid (keepsMono hk4 (show w.heap.size + 2 ≤ w0.heap.size by omega))
        have HJ4 := Lib.hid hJ4
        clear hk4 hJ4
        gi_wp2
        exact ⟨Hkf.out.trans Hk4.out, rfl, .inr ⟨_, HJ4.out⟩⟩
    | false =>
      rw [ho] at Hmay
      simp only [Bool.false_eq_true, if_false] at Hmay
      gi_wp2
      refine ⟨trivial, fun _ => by omega, ?_⟩
      refine (CallsIn.inRound lq (callsIn_wide.2 Hmay.out)).mono ?_
      rintro _ W2 ⟨rfl, hb2⟩
      have hs2 := hb2.size
      obtain ⟨W3, hW3⟩ : ∃ W3, W3 = W2.alloc (.cells (edgeC x).toArray 55) := ⟨_, rfl⟩
      have hb3 : Below W1.heap.size W1 W3 := by rw [hW3]; exact bstep hb2 (balloc _ _)
      have hE3 : BoxAt 55 W3 W2.heap.size (edgeC x) := by rw [hW3]; exact BoxAt.new_ _ _ _
      have hG3 := Q2.out.bl_ hb3
      have hz3 : W3.heap.size = W2.heap.size + 1 := by rw [hW3]; simp
      have hrc : ∀ (j : Nat) (v : Value), [Value.int .u32 (cur.fr.toNat : Int), Value.slice Aa cur.arcs.length ca][j]? = some v → W3.cell? ((⟨W.heap.size + 1, 0, none⟩ : Addr).add j) = some v := fun j v h => hG3.cells j v (by
        match j, h with
        | 0, h => exact h
        | 1, h => exact h)
      obtain ⟨W4, hW4⟩ : ∃ W4, W4 = W3.alloc (.cells [Value.int .u32 (cur.fr.toNat : Int), Value.slice Aa cur.arcs.length ca].toArray 132) := ⟨_, rfl⟩
      have hb4 : Below W3.heap.size W3 W4 := by rw [hW4]; exact balloc _ _
      have hD4 : BoxAt 132 W4 W3.heap.size [Value.int .u32 (cur.fr.toNat : Int), Value.slice Aa cur.arcs.length ca] := by rw [hW4]; exact BoxAt.new_ _ _ _
      have hE4 := hE3.bl_ hb4
      have hG4 := hG3.bl_ hb4
      have hfull := full_any W4 (W.heap.size + 1) x cur.fr.toNat cur.arcs.length ca Aa vl hG4
      rw [full_eq] at hfull
      have hz4 : W4.heap.size = W3.heap.size + 1 := by rw [hW4]; simp
      have HW3 := Lib.hid hW3
      have HW4 := Lib.hid hW4
      have Hb4 := Lib.hid (bstep hb3 hb4)
      have HG4 := Lib.hid hG4
      have HE4 := Lib.hid hE4
      have HD4 := Lib.hid hD4
      have Hrc := Lib.hid hrc
      have Hfull := Lib.hid hfull
      have Hone2 := Lib.hid (rowC_one cur.fr.toNat Aa cur.arcs.length ca)
      have Hz3 := Lib.hid hz3
      have Hz4 := Lib.hid hz4
      unfold edgeV at Hfull ⊢
      clear hW3 hW4 hb2 hb3 hb4 hG3 hG4 hE3 hE4 hD4 hrc hfull hz3 hz4
      gi_wp2_with (first
        | ((with_reducible refine wpListIn_alloc_z ?_ 55 ?_ infoEdge zeroEc ?_ ?_); exact rfl; exact rfl; exact rfl)
        | ((with_reducible refine wpListIn_store_new ?_ 55 (.tmp 5) (.tmp 16) ?_ zeroEc (edgeC x) ?_ ?_ ?_ ?_ Hone.out ?_); exact rfl; exact rfl; exact rfl; exact rfl; exact infoEdge3; exact rfl; rw [← HW3.out])
        | ((with_reducible refine wpListIn_load_agg ?_ 132 (.tmp 24) ?_ ⟨W.heap.size + 1, 0, none⟩ ?_ [.int .u32 (cur.fr.toNat : Int), .slice Aa cur.arcs.length ca] Hrc.out Tryz.underlying132 ?_ ?_ ?_); exact rfl; exact rfl; exact rfl; exact rfl; exact infoRow2)
        | ((with_reducible refine wpListIn_alloc_z ?_ 132 ?_ infoRow [.int .u32 0, .slice none 0 0] ?_ ?_); exact rfl; exact rfl; exact rfl)
        | ((with_reducible refine wpListIn_store_new ?_ 132 (.tmp 7) (.tmp 25) ?_ [.int .u32 0, .slice none 0 0] [.int .u32 (cur.fr.toNat : Int), .slice Aa cur.arcs.length ca] ?_ ?_ ?_ ?_ Hone2.out ?_); exact rfl; exact rfl; exact rfl; exact rfl; exact infoRow2; exact rfl; rw [← HW4.out])
        | ((with_reducible refine wpListIn_load_agg ?_ 55 (.tmp 5) ?_ ⟨W2.heap.size, 0, none⟩ ?_ (edgeC x) HE4.out.cells Tryz.underlying55 ?_ ?_ ?_); exact rfl; exact rfl; exact rfl; exact rfl; exact infoEdge3))
      -- BODY2
      refine ⟨trivial, fun _ => by omega, ?_⟩
      refine (CallsIn.inRound lq (callsIn_wide.2 Hfull.out)).mono ?_
      rintro _ W5 ⟨rfl, hb5⟩
      have hB5 : Below W1.heap.size W1 W5 := bstep Hb4.out hb5
      have hG5 := HG4.out.bl_ hb5
      have hE5 := HE4.out.bl_ hb5
      have hD5 := HD4.out.bl_ hb5
      have hY5 := Q9.out.bl_ hB5
      have hA5 := Q3.out.below_ hB5
      have hJ5 : J ys W5 := HJ.out.below Q1.out hB5
      have hs5 := hB5.size
      have hs54 := hb5.size
      clear Hfull Hmay Hrc HW3 HW4 HE4 HD4 HG4 Hb4 Hone2 hb5
      cases hf : fullP cur x with
      | false =>
        obtain ⟨ys6, hys6⟩ : ∃ ys6, ys6 = ys := ⟨_, rfl⟩
        obtain ⟨W6, hW6⟩ : ∃ W6, W6 = W5 := ⟨_, rfl⟩
        have hJ6 : J ys6 W6 := by rw [hys6, hW6]; exact hJ5
        have hG6 : BoxAt 166 W6 (W.heap.size + 1) (mgC cur.fr.toNat (.slice Aa cur.arcs.length ca) vl) := by rw [hW6]; exact hG5
        have hE6 : BoxAt 55 W6 W2.heap.size (edgeC x) := by rw [hW6]; exact hE5
        have hA6 : OwnF 48 cArc W6 base (.slice Aa cur.arcs.length ca) cur.arcs := by rw [hW6]; exact hA5
        have hY6 : BoxAt 164 W6 W.heap.size [.func (.yield l) #[] #[]] := by rw [hW6]; exact hY5
        have hB6 : Below L0 W1 W6 := by rw [hW6]; exact hB5.mono (by omega)
        have hK6 : KeepsFrom w0.heap.size W1 W6 := by rw [hW6]; exact keepsBelow hB5 _
        have hq6 : ∀ y ∈ ys6, ∀ q, rowBlk y = some q → q < (if fullP cur x = true then W6.heap.size else base) ∧ q ≠ W.heap.size + 1 := by
          rw [hys6, hf]
          simp only [Bool.false_eq_true, if_false]
          exact Q6.out
        have hes6 : ∃ es, eachY L ⟨0, []⟩ = es ++ eachY (L.drop (k + 1)) (takeP cur x) ∧ es.length = ys6.length := by
          obtain ⟨es, he, hel⟩ := Q10.out
          rw [eachY_go ho, hf] at he
          rw [hys6]
          exact ⟨es, by simpa using he, hel⟩
        rw [← hW6]
        clear hJ5 hG5 hE5 hD5 hY5 hA5 hB5 hys6 hW6 Q1 Q2 Q3 Q6 Q9 Q10
        have htk := take_any22 W6 (W.heap.size + 1) base x cur (.slice Aa cur.arcs.length ca) vl hG6 hA6 (by have := hB6.size; omega) (by omega) ho
        unfold edgeV at htk
        have Htk := Lib.hid htk
        have HJ6 := Lib.hid hJ6
        have HG6 := Lib.hid hG6
        have HE6 := Lib.hid hE6
        have HA6 := Lib.hid hA6
        have HY6 := Lib.hid hY6
        have HB6 := Lib.hid hB6
        have HK6 := Lib.hid hK6
        have Hq6 := Lib.hid hq6
        have Hes6 := Lib.hid hes6
        have hs6 := hB6.size
        clear htk hJ6 hG6 hE6 hA6 hY6 hB6 hK6 hq6 hes6
        gi_upto_region 11 with ((with_reducible refine And.intro ?_ ?_); (intro f hf; cases hf))
        gi_wp2_with ((with_reducible refine wpListIn_load_agg ?_ 55 (.tmp 5) ?_ ⟨W2.heap.size, 0, none⟩ ?_ (edgeC x) HE6.out.cells Tryz.underlying55 ?_ ?_ ?_); exact rfl; exact rfl; exact rfl; exact rfl; exact infoEdge3)
        refine ⟨trivial, fun _ => by omega, ?_⟩
        refine (CallsIn.inRound lq (callsIn_wide.2 Htk.out)).mono ?_
        rintro _ W7 ⟨rfl, va7, b7, hG7, hA7, hc7, hb7, hb7', hb7f⟩
        have hs7 := hc7.size
        have hPg : ∀ r, (r = W.heap.size + 1 ∨ (fullP cur x = false ∧ (Value.slice Aa cur.arcs.length ca).ownBlock = some r)) → W.heap.size ≤ r := fun r hr => by
          rcases hr with rfl | ⟨_, hr⟩
          · omega
          · have := (HA6.out.blk r hr).1; omega
        have hB7 : Below L0 W1 W7 := HB6.out.trans (hc7.below (B := L0) (by omega) fun r hr => by have := hPg r hr; omega)
        have hJ7 : J ys6 W7 := HJ.out ys6 W6 W7 _ HJ6.out hc7 fun r hr hlt => ⟨hPg r hr, by
          rcases hr with rfl | ⟨hff, hr⟩
          · exact ⟨_, HG6.out, .inr ⟨_, rfl, by simp, fun y hy e => (Hq6.out y hy _ e).2 rfl⟩⟩
          · obtain ⟨cu, hcu⟩ := OwnR.blkT HA6.out r hr
            refine ⟨_, hcu, .inr ⟨_, rfl, by simp, fun y hy e => ?_⟩⟩
            have h1 := (HA6.out.blk r hr).1
            have h2 := (Hq6.out y hy _ e).1
            rw [hff] at h2
            simp only [Bool.false_eq_true, if_false] at h2
            omega⟩
        have hY7 : BoxAt 164 W7 W.heap.size [.func (.yield l) #[] #[]] := HY6.out.chg hc7 fun hp => by
          rcases hp with h | ⟨_, h⟩
          · omega
          · exact ownR_ne_boxT (by decide) HA6.out HY6.out _ h rfl
        have hK7 : KeepsFrom w0.heap.size W1 W7 := HK6.out.trans (keepsChg hc7 _ fun r hr _ => by
          rcases hr with rfl | ⟨_, hr⟩
          · exact ⟨_, HG6.out, rfl⟩
          · obtain ⟨cu, hcu⟩ := OwnR.blkT HA6.out r hr
            exact ⟨_, hcu, rfl⟩)
        have hby7 : By W7 W7.heap.size vk (keyL x) := (Hby.out.below hB7).more (by omega)
        have hcl := clone8 W7 vk (keyL x) hby7 (by rw [keyL_length]; omega)
        have Hcl := Lib.hid hcl
        have HG7 := Lib.hid hG7
        have HA7 := Lib.hid hA7
        have HB7 := Lib.hid hB7
        have HJ7 := Lib.hid hJ7
        have HY7 := Lib.hid hY7
        have HK7 := Lib.hid hK7
        have Hb7f := Lib.hid hb7f
        have Hq7 : Hid (∀ y ∈ ys6, ∀ q, rowBlk y = some q → q < b7 ∧ q ≠ W.heap.size + 1) := Lib.hid fun y hy q hq => by
          obtain ⟨h1, h2⟩ := Hq6.out y hy q hq
          refine ⟨?_, h2⟩
          cases hff : fullP cur x with
          | true => rw [hff] at h1; rw [hb7f hff]; exact h1
          | false => rw [hff] at h1; simp only [Bool.false_eq_true, if_false] at h1; omega
        clear hcl hG7 hA7 hc7 hB7 hJ7 hY7 hK7 hb7f hPg hby7 Htk HJ6 HG6 HE6 HA6 HY6 HB6 HK6 Hq6
        gi_wp2
        refine ⟨trivial, fun _ => by omega, ?_⟩
        refine (CallsIn.inRound lq (callsIn_wide.2 Hcl.out)).mono ?_
        rintro _ W8 ⟨v8, rfl, ho8, hb8⟩
        have hs8 := hb8.size
        have hG8 := HG7.out.bl_ hb8
        have hc8 := hG8.cell 2 _ rfl
        have hf8 := hG8.frozen 2
        have hA8 := HA7.out.below_ hb8
        have hY8 := HY7.out.bl_ hb8
        obtain ⟨A8, c8, rfl, _⟩ := ho8.by_
        have HG8 := Lib.hid hG8
        have HA8 := Lib.hid hA8
        have HY8 := Lib.hid hY8
        have Ho8 := Lib.hid ho8
        have Hb8 := Lib.hid hb8
        clear hG8 hA8 hY8 ho8 hb8 HG7 HA7 HY7 Hcl
        gi_wp2
        have hset : Chg (fun r => r = W.heap.size + 1) W8 (W8.setCell ⟨W.heap.size + 1, 2, none⟩ (Value.slice A8 (keyL x).length c8)) := Chg.set _ _ _ rfl
        refine ⟨(HK7.out.trans (keepsBelow Hb8.out _)).trans (keepsChg hset _ fun r hr _ => by subst hr; exact ⟨_, HG8.out, rfl⟩), (HB7.out.trans (Hb8.out.mono (by omega))).trans (hset.below (by omega) fun r hr => by omega), ?_, trivial⟩
        dsimp only
        rw [Hpk.out]
        refine ⟨ys6, va7, .slice A8 (keyL x).length c8, b7, takeP cur x, keyL x, HJ.out ys6 W8 _ _ (HJ.out.below HJ7.out Hb8.out) hset (fun r hr _ => by subst hr; exact ⟨by omega, _, HG8.out, .inr ⟨_, rfl, by simp, fun y hy e => (Hq7.out y hy _ e).2 rfl⟩⟩),
          HG8.out.put 2 _, OwnR.chgT HA8.out hset (fun r hr e => ownR_ne_boxT (by decide) HA8.out HG8.out r hr e) (fun _ h => h.elim), by simp only [World.setCell, Array.size_modify]; omega, by omega, Hq7.out, owChg hset (fun r cs hr e => by subst hr; exact absurd (HG8.out.symm.trans e) (by intro h; injection h with h; injection h with _ h _; exact absurd h (by decide))) (Ho8.out.mono (by omega)), fun y hy => ?_, HY8.out.chg hset (by omega), Hes6.out,
          ((Q11.out.trans HB7.out).trans (Hb8.out.mono (by omega))).trans (hset.below (by omega) fun r hr => by omega), by have := takeP_len (cur := cur) (x := x); omega, takeP_sum ho⟩
        obtain ⟨hk1, hye⟩ := List.getElem?_eq_some_iff.1 hy
        rw [cmp_key]
        have hnum : x.num ≤ y.num := by
          rw [Hx.out, ← hye]
          exact List.pairwise_iff_getElem.1 Hsort.out k (k + 1) hkL hk1 (by omega)
        rw [if_neg (by omega)]
        split <;> omega
      | true =>
        obtain ⟨fn, tmps, assign, body, hy, hR⟩ := HY.out ys (.agg #[.int .u32 (cur.fr.toNat : Int), .slice Aa cur.arcs.length ca], 0) W5 hJ5 (by
          obtain ⟨es, he, hel⟩ := Q10.out
          refine ⟨cur, .slice Aa cur.arcs.length ca, ?_, rfl, hA5.more (by omega)⟩
          rw [he, eachY_go ho, hf, ← hel]
          simp) trivial
        have HR := Lib.hid hR
        have HJ5 := Lib.hid hJ5
        have HG5 := Lib.hid hG5
        have HE5 := Lib.hid hE5
        have HD5 := Lib.hid hD5
        have HA5 := Lib.hid hA5
        have HY5 := Lib.hid hY5
        have HB5 := Lib.hid hB5
        have hcy5 := hY5.cell 0 _ rfl
        clear hR hJ5 hG5 hE5 hD5 hY5 hA5 hB5 Q1 Q2 Q3 Q9
        gi_wp2_with ((with_reducible refine wpListIn_load_aggG ?_ 132 (.tmp 7) ?_ ⟨W3.heap.size, 0, none⟩ ?_ [.int .u32 (cur.fr.toNat : Int), .slice Aa cur.arcs.length ca] HD5.out.cells Tryz.underlying132 ?_ ?_ ?_); exact rfl; exact rfl; exact rfl; exact rfl; exact infoRow2)
        refine ⟨fun _ => by omega, ?_⟩
        refine (roundIn_wide HR.out).mono ?_
        have Hkf := Lib.hid (keepsBelow HB5.out w0.heap.size)
        clear hy hcy5 HR
        rintro e W6 (⟨rfl, hJ7, hk4, -⟩ | ⟨rfl, hJ7, hk4⟩)
        · obtain ⟨ys6, hys6⟩ : ∃ ys6, ys6 = ys ++ [((.agg #[.int .u32 (cur.fr.toNat : Int), .slice Aa cur.arcs.length ca], 0) : Value × Int)] := ⟨_, rfl⟩
          have hJ6 : J ys6 W6 := by rw [hys6]; exact hJ7
          have hG6 : BoxAt 166 W6 (W.heap.size + 1) (mgC cur.fr.toNat (.slice Aa cur.arcs.length ca) vl) := hk4.kr.box HG5.out (by omega) (.inr (by decide))
          have hE6 : BoxAt 55 W6 W2.heap.size (edgeC x) := hk4.kr.box HE5.out (by omega) (.inr (by decide))
          have hA6 : OwnF 48 cArc W6 base (.slice Aa cur.arcs.length ca) cur.arcs := krOwnT (by decide) hk4.kr (by omega) HA5.out
          have hY6 : BoxAt 164 W6 W.heap.size [.func (.yield l) #[] #[]] := hk4.kr.box HY5.out (by omega) (.inr (by decide))
          have hB6 : Below L0 W1 W6 := (HB5.out.mono (by omega)).trans hk4.bl
          have hK6 : KeepsFrom w0.heap.size W1 W6 := Hkf.out.trans (keepsMono hk4.kf (show w.heap.size + 2 ≤ w0.heap.size by omega))
          have hs56 := hk4.kr.size
          have hq6 : ∀ y ∈ ys6, ∀ q, rowBlk y = some q → q < (if fullP cur x = true then W6.heap.size else base) ∧ q ≠ W.heap.size + 1 := by
            rw [hys6, hf]
            simp only [if_true]
            intro y hy q hq
            rcases List.mem_append.1 hy with h | h
            · obtain ⟨h1, h2⟩ := Q6.out y h q hq
              exact ⟨by omega, h2⟩
            · rw [List.mem_singleton] at h
              subst h
              exact ⟨by have := (HA5.out.blk q hq).2; omega, ownR_ne_boxT (by decide) HA5.out HG5.out q hq⟩
          have hes6 : ∃ es, eachY L ⟨0, []⟩ = es ++ eachY (L.drop (k + 1)) (takeP cur x) ∧ es.length = ys6.length := by
            obtain ⟨es, he, hel⟩ := Q10.out
            rw [eachY_go ho, hf] at he
            rw [hys6]
            exact ⟨es ++ [(cur, 0)], by rw [he]; simp, by simp [hel]⟩
          clear hJ7 hk4 HJ5 HG5 HE5 HD5 HA5 HY5 HB5 Hkf hys6 Q6 Q10
          have htk := take_any22 W6 (W.heap.size + 1) base x cur (.slice Aa cur.arcs.length ca) vl hG6 hA6 (by have := hB6.size; omega) (by omega) ho
          unfold edgeV at htk
          have Htk := Lib.hid htk
          have HJ6 := Lib.hid hJ6
          have HG6 := Lib.hid hG6
          have HE6 := Lib.hid hE6
          have HA6 := Lib.hid hA6
          have HY6 := Lib.hid hY6
          have HB6 := Lib.hid hB6
          have HK6 := Lib.hid hK6
          have Hq6 := Lib.hid hq6
          have Hes6 := Lib.hid hes6
          have hs6 := hB6.size
          clear htk hJ6 hG6 hE6 hA6 hY6 hB6 hK6 hq6 hes6
          gi_upto_region 11 with ((with_reducible refine And.intro ?_ ?_); (intro f hf; cases hf))
          gi_wp2_with ((with_reducible refine wpListIn_load_agg ?_ 55 (.tmp 5) ?_ ⟨W2.heap.size, 0, none⟩ ?_ (edgeC x) HE6.out.cells Tryz.underlying55 ?_ ?_ ?_); exact rfl; exact rfl; exact rfl; exact rfl; exact infoEdge3)
          refine ⟨trivial, fun _ => by omega, ?_⟩
          refine (CallsIn.inRound lq (callsIn_wide.2 Htk.out)).mono ?_
          rintro _ W7 ⟨rfl, va7, b7, hG7, hA7, hc7, hb7, hb7', hb7f⟩
          have hs7 := hc7.size
          have hPg : ∀ r, (r = W.heap.size + 1 ∨ (fullP cur x = false ∧ (Value.slice Aa cur.arcs.length ca).ownBlock = some r)) → W.heap.size ≤ r := fun r hr => by
            rcases hr with rfl | ⟨_, hr⟩
            · omega
            · have := (HA6.out.blk r hr).1; omega
          have hB7 : Below L0 W1 W7 := HB6.out.trans (hc7.below (B := L0) (by omega) fun r hr => by have := hPg r hr; omega)
          have hJ7 : J ys6 W7 := HJ.out ys6 W6 W7 _ HJ6.out hc7 fun r hr hlt => ⟨hPg r hr, by
            rcases hr with rfl | ⟨hff, hr⟩
            · exact ⟨_, HG6.out, .inr ⟨_, rfl, by simp, fun y hy e => (Hq6.out y hy _ e).2 rfl⟩⟩
            · obtain ⟨cu, hcu⟩ := OwnR.blkT HA6.out r hr
              refine ⟨_, hcu, .inr ⟨_, rfl, by simp, fun y hy e => ?_⟩⟩
              have h1 := (HA6.out.blk r hr).1
              have h2 := (Hq6.out y hy _ e).1
              rw [hff] at h2
              simp only [Bool.false_eq_true, if_false] at h2
              omega⟩
          have hY7 : BoxAt 164 W7 W.heap.size [.func (.yield l) #[] #[]] := HY6.out.chg hc7 fun hp => by
            rcases hp with h | ⟨_, h⟩
            · omega
            · exact ownR_ne_boxT (by decide) HA6.out HY6.out _ h rfl
          have hK7 : KeepsFrom w0.heap.size W1 W7 := HK6.out.trans (keepsChg hc7 _ fun r hr _ => by
            rcases hr with rfl | ⟨_, hr⟩
            · exact ⟨_, HG6.out, rfl⟩
            · obtain ⟨cu, hcu⟩ := OwnR.blkT HA6.out r hr
              exact ⟨_, hcu, rfl⟩)
          have hby7 : By W7 W7.heap.size vk (keyL x) := (Hby.out.below hB7).more (by omega)
          have hcl := clone8 W7 vk (keyL x) hby7 (by rw [keyL_length]; omega)
          have Hcl := Lib.hid hcl
          have HG7 := Lib.hid hG7
          have HA7 := Lib.hid hA7
          have HB7 := Lib.hid hB7
          have HJ7 := Lib.hid hJ7
          have HY7 := Lib.hid hY7
          have HK7 := Lib.hid hK7
          have Hb7f := Lib.hid hb7f
          have Hq7 : Hid (∀ y ∈ ys6, ∀ q, rowBlk y = some q → q < b7 ∧ q ≠ W.heap.size + 1) := Lib.hid fun y hy q hq => by
            obtain ⟨h1, h2⟩ := Hq6.out y hy q hq
            refine ⟨?_, h2⟩
            cases hff : fullP cur x with
            | true => rw [hff] at h1; rw [hb7f hff]; exact h1
            | false => rw [hff] at h1; simp only [Bool.false_eq_true, if_false] at h1; omega
          clear hcl hG7 hA7 hc7 hB7 hJ7 hY7 hK7 hb7f hPg hby7 Htk HJ6 HG6 HE6 HA6 HY6 HB6 HK6 Hq6
          gi_wp2
          refine ⟨trivial, fun _ => by omega, ?_⟩
          refine (CallsIn.inRound lq (callsIn_wide.2 Hcl.out)).mono ?_
          rintro _ W8 ⟨v8, rfl, ho8, hb8⟩
          have hs8 := hb8.size
          have hG8 := HG7.out.bl_ hb8
          have hc8 := hG8.cell 2 _ rfl
          have hf8 := hG8.frozen 2
          have hA8 := HA7.out.below_ hb8
          have hY8 := HY7.out.bl_ hb8
          obtain ⟨A8, c8, rfl, _⟩ := ho8.by_
          have HG8 := Lib.hid hG8
          have HA8 := Lib.hid hA8
          have HY8 := Lib.hid hY8
          have Ho8 := Lib.hid ho8
          have Hb8 := Lib.hid hb8
          clear hG8 hA8 hY8 ho8 hb8 HG7 HA7 HY7 Hcl
          gi_wp2
          have hset : Chg (fun r => r = W.heap.size + 1) W8 (W8.setCell ⟨W.heap.size + 1, 2, none⟩ (Value.slice A8 (keyL x).length c8)) := Chg.set _ _ _ rfl
          refine ⟨(HK7.out.trans (keepsBelow Hb8.out _)).trans (keepsChg hset _ fun r hr _ => by subst hr; exact ⟨_, HG8.out, rfl⟩), (HB7.out.trans (Hb8.out.mono (by omega))).trans (hset.below (by omega) fun r hr => by omega), ?_, trivial⟩
          dsimp only
          rw [Hpk.out]
          refine ⟨ys6, va7, .slice A8 (keyL x).length c8, b7, takeP cur x, keyL x, HJ.out ys6 W8 _ _ (HJ.out.below HJ7.out Hb8.out) hset (fun r hr _ => by subst hr; exact ⟨by omega, _, HG8.out, .inr ⟨_, rfl, by simp, fun y hy e => (Hq7.out y hy _ e).2 rfl⟩⟩),
            HG8.out.put 2 _, OwnR.chgT HA8.out hset (fun r hr e => ownR_ne_boxT (by decide) HA8.out HG8.out r hr e) (fun _ h => h.elim), by simp only [World.setCell, Array.size_modify]; omega, by omega, Hq7.out, owChg hset (fun r cs hr e => by subst hr; exact absurd (HG8.out.symm.trans e) (by intro h; injection h with h; injection h with _ h _; exact absurd h (by decide))) (Ho8.out.mono (by omega)), fun y hy => ?_, HY8.out.chg hset (by omega), Hes6.out,
            ((Q11.out.trans HB7.out).trans (Hb8.out.mono (by omega))).trans (hset.below (by omega) fun r hr => by omega), by have := takeP_len (cur := cur) (x := x); omega, takeP_sum ho⟩
          obtain ⟨hk1, hye⟩ := List.getElem?_eq_some_iff.1 hy
          rw [cmp_key]
          have hnum : x.num ≤ y.num := by
            rw [Hx.out, ← hye]
            exact List.pairwise_iff_getElem.1 Hsort.out k (k + 1) hkL hk1 (by omega)
          rw [if_neg (by omega)]
          split <;> omega
        · have Hk4 := Lib.hid (keepsMono hk4 (show w.heap.size + 2 ≤ w0.heap.size by omega))
          have HJ7 := Lib.hid hJ7
          clear hk4 hJ7
          gi_wp2
          exact ⟨Hkf.out.trans Hk4.out, rfl, .inr ⟨_, HJ7.out⟩⟩
  case done =>
    rintro D xs W2 hD rfl ⟨ys, va, vl, base, cur, last, q1, q2, q3, q4, q5, q6, q7, q8, q9, q10, q11, q12, q13⟩ hK
    rw [List.length_range] at q10
    rw [hlen, List.drop_length] at q10
    obtain ⟨Aa, ca, rfl, hc1, hc2, hAf⟩ := q3.form'
    have hrc : ∀ (j : Nat) (v : Value), [Value.int .u32 (cur.fr.toNat : Int), Value.slice Aa cur.arcs.length ca][j]? = some v → W2.cell? ((⟨W.heap.size + 1, 0, none⟩ : Addr).add j) = some v := fun j v h => q2.cells j v (by
      match j, h with
      | 0, h => exact h
      | 1, h => exact h)
    have hcy := q9.cell 0 _ rfl
    have hcg := q2.cell 1 _ rfl
    have Hrc := Lib.hid hrc
    have Q1 := Lib.hid q1
    have Q3 := Lib.hid q3
    have Q10 := Lib.hid q10
    have hs2 := q11.size
    have hDw : w.heap.size + 2 ≤ D := by omega
    clear q1 q2 q3 q6 q7 q8 q9 q10 q11 hrc
    rcases Nat.eq_zero_or_pos cur.arcs.length with h0 | h0
    · have hd : decide (0 < cur.arcs.length) = false := by simp [h0]
      have Hh0 := Lib.hid h0
      have Hn : Hid (ys.length = (eachY L ⟨0, []⟩).length) := Lib.hid (by
        obtain ⟨es, he, hel⟩ := Q10.out
        rw [he, ← hel]
        simp [eachY, curL, h0])
      clear h0
      gi_wp2
      refine ⟨by simp, .inl ⟨_, _, rfl, run_takeDeferred hK, ?_⟩⟩
      exact ⟨_, results_none rfl _ _ _, ⟨_, rfl⟩, .inl ⟨ys, Hn.out, HJ.out.putObj _ Q1.out (by omega) hK rfl⟩⟩
    · have hd : decide (0 < cur.arcs.length) = true := by simp [h0]
      have Hn : Hid ((ys ++ [((.agg #[.int .u32 (cur.fr.toNat : Int), .slice Aa cur.arcs.length ca], 0) : Value × Int)]).length = (eachY L ⟨0, []⟩).length) := Lib.hid (by
        obtain ⟨es, he, hel⟩ := Q10.out
        rw [he, List.length_append, List.length_append, hel]
        simp [eachY, curL_some h0])
      obtain ⟨fn, tmps, assign, body, hy, hR⟩ := HY.out ys (.agg #[.int .u32 (cur.fr.toNat : Int), .slice Aa cur.arcs.length ca], 0) W2 Q1.out (by
        obtain ⟨es, he, hel⟩ := Q10.out
        refine ⟨cur, .slice Aa cur.arcs.length ca, ?_, rfl, Q3.out.more (by omega)⟩
        rw [he, ← hel]
        simp [eachY, curL_some h0]) trivial
      have HR := Lib.hid hR
      have Hh0 := Lib.hid h0
      clear hR h0
      gi_wp2_with ((with_reducible refine wpListIn_load_agg ?_ 132 (.tmp 46) ?_ ⟨W.heap.size + 1, 0, none⟩ ?_ [.int .u32 (cur.fr.toNat : Int), .slice Aa cur.arcs.length ca] Hrc.out Tryz.underlying132 ?_ ?_ ?_); exact rfl; exact rfl; exact rfl; exact rfl; exact infoRow2)
      refine ⟨fun _ => by omega, ?_⟩
      refine (roundIn_wide (l' := 0) HR.out).mono ?_
      clear hy hcy hcg HR Hrc Q1 Q3 Q10
      rintro e W4 (⟨rfl, hJ4, hk4, -⟩ | ⟨rfl, hJ4, hk4⟩)
      · have hK4 := hk4.kf.same _ _ hDw hK rfl
        have HJ4 := Lib.hid hJ4
        clear hk4 hJ4 hK
        gi_wp2
        refine ⟨by simp, .inl ⟨_, _, rfl, run_takeDeferred hK4, ?_⟩⟩
        exact ⟨_, results_none rfl _ _ _, ⟨_, rfl⟩, .inl ⟨_, Hn.out, HJ.out.putObj _ HJ4.out (by omega) hK4 rfl⟩⟩
      · have hK4 := hk4.same _ _ hDw hK rfl
        have HJ4 := Lib.hid hJ4
        clear hk4 hJ4 hK
        gi_wp2
        refine ⟨by simp, .inl ⟨_, _, rfl, run_takeDeferred hK4, ?_⟩⟩
        exact ⟨_, results_none rfl _ _ _, ⟨_, rfl⟩, .inr ⟨_, trivial, HJx.out.putObj _ HJ4.out (by omega) hK4 rfl⟩⟩
  case stop =>
    rintro D c pre W2 hD _ ⟨rfl, h⟩ hK
    have H := Lib.hid h
    clear h
    gi_wp2
    refine ⟨by simp, .inl ⟨_, _, rfl, run_takeDeferred hK, ?_⟩⟩
    refine ⟨_, results_none rfl _ _ _, ⟨_, rfl⟩, ?_⟩
    rcases H.out with ⟨xs, h1, h2⟩ | ⟨ys, h1⟩
    · exact .inl ⟨xs, h1, HJ.out.putObj _ h2 (by omega) hK rfl⟩
    · exact .inr ⟨ys, trivial, HJx.out.putObj _ h1 (by omega) hK rfl⟩
end Go.Proofs.YtcffeepgfjpcaaaGreat

namespace Go.Proofs.YtcffeepgfjpcaaaGreat
set_option linter.unusedSimpArgs false
set_option linter.unusedVariables false
open Go.RowKit Go.Shelf
attribute [local go_sem] Oper.semAt_some

theorem eachY_mrow : ∀ (l : List GEdge) (cur : GRow) (out : List GRow), (∀ i r e, (eachY l cur)[i]? = some (r, e) → e = 0 ∨ (e = 10 ∧ i + 1 = (eachY l cur).length ∧ mrow l cur out = none)) ∧
    ((∀ x ∈ eachY l cur, x.2 = 0) → mrow l cur out = some (out ++ (eachY l cur).map Prod.fst))
  | [], cur, out => by
    refine ⟨fun i r e h => .inl ?_, fun _ => ?_⟩
    · have := List.mem_of_getElem? h
      simp only [eachY, List.mem_map] at this
      obtain ⟨_, _, h2⟩ := this
      injection h2 with h3 h4
      exact h4.symm
    · simp [eachY, mrow, Function.comp_def]
  | x :: t, cur, out => by
    cases ho : overP cur x with
    | true =>
      rw [eachY_over ho]
      refine ⟨fun i r e h => ?_, fun h => ?_⟩
      · match i, h with
        | 0, h =>
          injection h with h
          injection h with h1 h2
          exact .inr ⟨h2.symm, rfl, by rw [mrow, if_pos ho]⟩
      · have := h _ (List.mem_singleton.2 rfl)
        cases this
    | false =>
      obtain ⟨h1, h2⟩ := eachY_mrow t (takeP cur x) (if fullP cur x then out ++ [cur] else out)
      rw [eachY_go ho]
      have hm : mrow (x :: t) cur out = mrow t (takeP cur x) (if fullP cur x then out ++ [cur] else out) := by rw [mrow, if_neg (by simp [ho])]
      rw [hm]
      refine ⟨fun i r e h => ?_, fun h => ?_⟩
      · cases hf : fullP cur x with
        | false =>
          rw [hf] at h
          simp only [Bool.false_eq_true, if_false, List.nil_append] at h ⊢
          rw [hf] at h1
          exact h1 i r e h
        | true =>
          rw [hf] at h
          simp only [if_true] at h ⊢
          rw [hf] at h1
          match i, h with
          | 0, h =>
            simp only [List.cons_append, List.nil_append, List.getElem?_cons_zero] at h
            injection h with h
            injection h with h3 h4
            exact .inl h4.symm
          | i + 1, h =>
            simp only [List.cons_append, List.nil_append, List.getElem?_cons_succ] at h
            rcases h1 i r e h with h | ⟨a, b, c⟩
            · exact .inl h
            · exact .inr ⟨a, by simp; omega, c⟩
      · rw [h2 fun y hy => h y (List.mem_append.2 (.inr hy))]
        cases hf : fullP cur x <;> simp
theorem eachY_len : ∀ (l : List GEdge) (cur : GRow), (eachY l cur).length ≤ l.length + 1
  | [], cur => by simp only [eachY, List.length_map, curL]; split <;> simp
  | x :: t, cur => by
    rw [eachY]
    split
    · simp
    · have := eachY_len t (takeP cur x)
      split <;> simp <;> omega
theorem vals_any (w : World) (A : Option Addr) (n c : Nat) : Calls Tryz.prog 60 #[.slice A n c] w fun e w' => e = .returned (.func (.func 97) #[] #[.pointer (some ⟨w.heap.size, 0, none⟩)]) ∧ w' = w.alloc (.cells #[.slice A n c] 70) := by
  go_enter Tryz.func60, Tryz.ntmps60
  go_wp2_with fail
  go_ret
  exact ⟨rfl, rfl⟩
theorem meach_any (w : World) (f : Fn) (bs : Array Value) : Calls Tryz.prog 59 #[.func f #[] bs] w fun e w' => e = .returned (.func (.func 92) #[] #[.pointer (some ⟨w.heap.size, 0, none⟩)]) ∧ w' = w.alloc (.cells #[.func f #[] bs] 129) := by
  go_enter Tryz.func59, Tryz.ntmps59
  go_wp2_with fail
  go_ret
  exact ⟨rfl, rfl⟩
/-- what a yielded value leads to -/
def YOk (L : List GEdge) (base : Nat) (i : Nat) (x : Value × Int) (W : World) : Prop :=
  ∃ r va, (eachY L ⟨0, []⟩)[i]? = some (r, x.2) ∧ x.1 = .agg #[.int .u32 (r.fr.toNat : Int), va] ∧ OwnF 48 cArc W base va r.arcs
def rawE (x : Value × Int) : Value × Value :=
  match x.1 with
  | .agg a => (a.getD 0 undef, a.getD 1 undef)
  | _ => (undef, undef)
def goodE (L : List GEdge) (base : Nat) (xs : List (Value × Int)) (W : World) : Prop := ∀ i x, xs[i]? = some x → YOk L base i x W ∧ x.2 = 0
theorem YOk.chg {L : List GEdge} {base i : Nat} {x : Value × Int} {W W' : World} {P : Nat → Prop} (h : YOk L base i x W) (hc : Chg P W W') (hP : ∀ k, P k → rowBlk x ≠ some k) : YOk L base i x W' := by
  obtain ⟨r, va, h1, h2, h3⟩ := h
  refine ⟨r, va, h1, h2, OwnR.chgT h3 hc (fun k hk hp => hP k hp ?_) (fun _ h => h.elim)⟩
  unfold rowBlk
  rw [h2]
  exact hk
theorem YOk.kr {L : List GEdge} {base i V L0 : Nat} {x : Value × Int} {W W' : World} (h : YOk L base i x W) (hk : KrR V L0 W W') (hV : V < base) : YOk L base i x W' := by
  obtain ⟨r, va, h1, h2, h3⟩ := h
  exact ⟨r, va, h1, h2, krOwnT (by decide) hk hV h3⟩
theorem goodE.kr {L : List GEdge} {base V L0 : Nat} {xs : List (Value × Int)} {W W' : World} (h : goodE L base xs W) (hk : KrR V L0 W W') (hV : V < base) : goodE L base xs W' := fun i x hx => ⟨(h i x hx).1.kr hk hV, (h i x hx).2⟩
/-- rows that were yielded read -/
theorem rowsOfE {W : World} {base b2 : Nat} {L : List GEdge} {va : Value} {xs : List (Value × Int)} (h : OwnF 132 cRaw W base va (xs.map rawE)) (hb : base ≤ b2) (hg : goodE L b2 xs W) (hlen : xs.length = (eachY L ⟨0, []⟩).length) :
    RowsF W base va ((eachY L ⟨0, []⟩).map Prod.fst) := by
  obtain ⟨A, c, e, h1, h2, h3⟩ := h.row
  refine ⟨A, c, by simpa [hlen] using e, by simpa [hlen] using h1, h2, fun hn => ?_⟩
  obtain ⟨ad, e1, hO, hc⟩ := h3 (by simpa [hlen] using hn)
  refine ⟨ad, e1, hO, fun i x hx => ?_⟩
  rw [List.getElem?_map] at hx
  obtain ⟨y, hy, rfl⟩ := Option.map_eq_some_iff.1 hx
  have hi : i < xs.length := by rw [hlen]; exact (List.getElem?_eq_some_iff.1 hy).1
  obtain ⟨⟨r, vr, g1, g2, g3⟩, g4⟩ := hg i xs[i] (List.getElem?_eq_getElem hi)
  rw [hy] at g1
  injection g1 with g1
  have g1' : y.1 = r := by rw [g1]
  obtain ⟨cs, ⟨rfl, _, _⟩, hcs⟩ := hc i (rawE xs[i]) (by rw [List.getElem?_map, List.getElem?_eq_getElem hi]; rfl)
  have hraw : rawE xs[i] = (.int .u32 (r.fr.toNat : Int), vr) := by unfold rawE; rw [g2]; rfl
  rw [hraw] at hcs
  refine ⟨_, ⟨vr, ?_, ?_⟩, hcs⟩
  · rw [g1']
  · rw [g1']
    exact g3.row.mono (fun _ h => ⟨by omega, h.2⟩) (fun _ h => h.elim)
end Go.Proofs.YtcffeepgfjpcaaaGreat

namespace Go.Proofs.YtcffeepgfjpcaaaGreat
set_option linter.unusedSimpArgs false
set_option linter.unusedVariables false
open Go.RowKit Go.Shelf
attribute [local go_sem] Oper.semAt_some

theorem chgBelow {P : Nat → Prop} {X Y : World} {m : Nat} (h : Chg P X Y) (hm : m ≤ X.heap.size) (hP : ∀ k, P k → k < X.heap.size → m ≤ k) : Below m X Y :=
  (h.more (Q := fun k => P k ∧ k < X.heap.size) fun k hk hp => ⟨hp, hk⟩).below hm fun k hk => hP k hk.1 hk.2
theorem YOk.blk {L : List GEdge} {base i : Nat} {x : Value × Int} {W : World} (h : YOk L base i x W) : ∀ k, rowBlk x = some k → ∃ cur, W.heap[k]? = some (.cells cur 48 (0, 0)) := by
  obtain ⟨r, va, h1, h2, h3⟩ := h
  intro k hk
  unfold rowBlk at hk
  rw [h2] at hk
  exact OwnR.blkT h3 k hk
theorem goodE.chg {L : List GEdge} {B : Nat} {xs : List (Value × Int)} {W W' : World} {P : Nat → Prop} (h : goodE L B xs W) (hc : Chg P W W') (hP : ∀ k, P k → k < B) : goodE L B xs W' := fun i x hx =>
  ⟨(h i x hx).1.chg hc fun k hp hk => by
    obtain ⟨r, va, h1, h2, h3⟩ := (h i x hx).1
    unfold rowBlk at hk
    rw [h2] at hk
    have := (h3.blk k hk).1
    have := hP k hp
    omega, (h i x hx).2⟩
theorem goodE.own {L : List GEdge} {B : Nat} {xs : List (Value × Int)} {X Y : World} {row : Option Nat} (h : goodE L B xs X) (hg : X.grownBy Y row) (hr : ∀ r, row = some r → ∃ o : Obj, X.heap[r]? = some o ∧ o.isCells = false) : goodE L B xs Y := fun i x hx => by
  obtain ⟨⟨r, va, h1, h2, h3⟩, h4⟩ := h i x hx
  exact ⟨⟨r, va, h1, h2, OwnR.ownk h3 hg hr⟩, h4⟩
def RowsI (L : List GEdge) (m B : Nat) (w : World) (pre : List (Value × Int)) (W : World) : Prop :=
  (∃ va, BoxAt 74 W (m + 2) [va] ∧ OwnF 132 cRaw W m va (pre.map rawE)) ∧ goodE L B pre W ∧ BoxAt 74 W m [.slice none 0 0] ∧ BoxAt 33 W (m + 1) [.int .i64 0] ∧ B ≤ W.heap.size ∧ Below m w W ∧ pre.length ≤ (eachY L ⟨0, []⟩).length
theorem YOk.abm {L : List GEdge} {B B2 i : Nat} {s : List (Value × Int)} {x : Value × Int} {X Y : World} {P : Nat → Prop} (h : YOk L B2 i x X) (hxs : x ∈ s) (hc : Chg P X Y)
    (hP : ∀ r, P r → r < X.heap.size → B ≤ r ∧ ∃ o : Obj, X.heap[r]? = some o ∧ (o.isCells = false ∨ ∃ T, cellsTy o = some T ∧ T ∈ [166, 48] ∧ ∀ x ∈ s, rowBlk x ≠ some r)) : YOk L B2 i x Y :=
  h.chg hc fun k hp hk => by
    obtain ⟨cur, hcur⟩ := h.blk k hk
    obtain ⟨_, o, ho, hor⟩ := hP k hp (Array.getElem?_eq_some_iff.1 hcur).1
    rw [hcur] at ho
    injection ho with ho
    rcases hor with hor | ⟨T, _, _, hor⟩
    · rw [← ho] at hor; cases hor
    · exact hor x hxs hk
theorem RowsI.abm (L : List GEdge) (m B : Nat) (w : World) (hB : m + 2 < B) (hw : m ≤ w.heap.size) : AbM B [166, 48] rowBlk (RowsI L m B w) := by
  rintro pre X Y P ⟨⟨va, i1, i2⟩, i3, i4, i5, i6, i7, i8⟩ hc hP
  refine ⟨⟨va, i1.chg hc (fun hp => by have := (hP _ hp i1.lt).1; omega), OwnR.chgT i2 hc (fun k hk hp => ?_) (fun _ h => h.elim)⟩, fun i x hx => ⟨(i3 i x hx).1.abm (List.mem_of_getElem? hx) hc hP, (i3 i x hx).2⟩, i4.chg hc (fun hp => by have := (hP _ hp i4.lt).1; omega), i5.chg hc (fun hp => by have := (hP _ hp i5.lt).1; omega),
    Nat.le_trans i6 hc.size, i7.trans (chgBelow hc (by omega) fun k hk hlt => by have := (hP k hk hlt).1; omega), i8⟩
  obtain ⟨cur, hcur⟩ := OwnR.blkT i2 k hk
  obtain ⟨_, o, ho, hor⟩ := hP k hp (Array.getElem?_eq_some_iff.1 hcur).1
  rw [hcur] at ho
  injection ho with ho
  subst ho
  rcases hor with hor | ⟨T, hT, hT2, _⟩
  · cases hor
  · injection hT with hT
    subst hT
    exact absurd hT2 (by decide)

set_option maxRecDepth 100000 in
set_option maxHeartbeats 3200000 in
theorem mrows_any (w : World) (L : List GEdge) (vals : List Value) (A : Option Addr) (c : Nat) (hlen : vals.length = L.length) (hl20 : L.length ≤ 1048576)
    (hcell : ∀ i, (h : i < vals.length) → ∃ ad, A = some ad ∧ ad.block < w.heap.size ∧ w.cell? (ad.add i) = some vals[i])
    (hkeys : ∀ i, (h : i < vals.length) → By w w.heap.size vals[i] (keyL (L[i]'(by omega)))) (hsort : L.Pairwise fun a b => a.num ≤ b.num) (hwt : ∀ x ∈ L, x.wt ≠ 0) :
    Calls Tryz.prog 34 #[.slice A vals.length c] w fun e w' => ∃ v' er, e = .returned (.tuple #[v', .int .i64 er]) ∧ Below w.heap.size w w' ∧
      ((∃ R, mrow L ⟨0, []⟩ [] = some R ∧ er = 0 ∧ RowsF w' w.heap.size v' R) ∨ (mrow L ⟨0, []⟩ [] = none ∧ er = 10 ∧ v' = .slice none 0 0)) := by
  obtain ⟨w1, hw1⟩ : ∃ w1, w1 = ((w.alloc (.cells #[.slice none 0 0] 74)).alloc (.cells #[.int .i64 0] 33)).alloc (.cells #[.slice none 0 0] 74) := ⟨_, rfl⟩
  have hb1 : Below w.heap.size w w1 := by rw [hw1]; exact bstep (bstep (balloc _ _) (balloc _ _)) (balloc _ _)
  have hz1 : w1.heap.size = w.heap.size + 3 := by rw [hw1]; simp
  have hA1 : BoxAt 74 w1 w.heap.size [.slice none 0 0] := by rw [hw1]; exact ((BoxAt.new_ 74 w [.slice none 0 0]).alloc _).alloc _
  have hE1 : BoxAt 33 w1 (w.heap.size + 1) [.int .i64 0] := by
    rw [hw1]
    have := (BoxAt.new_ 33 (w.alloc (.cells #[.slice none 0 0] 74)) [.int .i64 0]).alloc (.cells #[.slice none 0 0] 74)
    rwa [World.size_alloc] at this
  have hV1 : BoxAt 74 w1 (w.heap.size + 2) [.slice none 0 0] := by
    rw [hw1]
    have := BoxAt.new_ 74 ((w.alloc (.cells #[.slice none 0 0] 74)).alloc (.cells #[.int .i64 0] 33)) [.slice none 0 0]
    rwa [World.size_alloc, World.size_alloc] at this
  obtain ⟨w2, hw2⟩ : ∃ w2, w2 = w1.alloc (.cells #[.slice A vals.length c] 70) := ⟨_, rfl⟩
  obtain ⟨w3, hw3⟩ : ∃ w3, w3 = w2.alloc (.cells #[.func (.func 97) #[] #[.pointer (some ⟨w1.heap.size, 0, none⟩)]] 129) := ⟨_, rfl⟩
  have hz2 : w2.heap.size = w1.heap.size + 1 := by rw [hw2]; simp
  have hz3 : w3.heap.size = w2.heap.size + 1 := by rw [hw3]; simp
  have hb2 : Below w1.heap.size w1 w2 := by rw [hw2]; exact balloc _ _
  have hb3 : Below w2.heap.size w2 w3 := by rw [hw3]; exact balloc _ _
  have hS3 : BoxAt 70 w3 w1.heap.size [.slice A vals.length c] := by
    refine BoxAt.bl_ (w := w2) ?_ hb3
    rw [hw2]
    exact BoxAt.new_ _ _ _
  have hK3 : BoxAt 129 w3 w2.heap.size [.func (.func 97) #[] #[.pointer (some ⟨w1.heap.size, 0, none⟩)]] := by rw [hw3]; exact BoxAt.new_ _ _ _
  have hb13 : Below w1.heap.size w1 w3 := bstep hb2 hb3
  have hbw3 : Below w.heap.size w w3 := bstep hb1 hb13
  have hv := fun W => vals_any W A vals.length c
  have hm := fun W => meach_any W (.func 97) #[.pointer (some ⟨w1.heap.size, 0, none⟩)]
  have Hw1 := Lib.hid hw1
  have Hw2 := Lib.hid hw2
  have Hw3 := Lib.hid hw3
  have Hit := Lib.hid (each_iter 4 (by omega) w3 (w.heap.size + 2) w.heap.size (by omega) (by omega) L vals w2.heap.size w1.heap.size A c hK3 hS3 hlen hl20 (fun i h => by
    obtain ⟨ad, e, h1, h2⟩ := hcell i h
    exact ⟨ad, e, h1, (hbw3.cell (p := ad.add i) (by rw [add_block]; omega)).trans h2⟩) (fun i h => (hkeys i h).below hbw3) hsort hwt)
  have HI0 : Hid (RowsI L w.heap.size w3.heap.size w [] w3) := Lib.hid ⟨⟨_, hV1.bl_ hb13, OwnF.nil_ _ _⟩, fun i x h => by simp at h, hA1.bl_ hb13, hE1.bl_ hb13, Nat.le_refl _, hbw3, Nat.zero_le _⟩
  have hab := RowsI.abm L w.heap.size w3.heap.size w (by omega) (Nat.le_refl _)
  have Hab := Lib.hid hab
  have Hv := Lib.hid hv
  have Hm := Lib.hid hm
  have Hy := Lib.hid (eachY_mrow L ⟨0, []⟩ [])
  have Hyl := Lib.hid (eachY_len L ⟨0, []⟩)
  have Hlen := Lib.hid hlen
  have Hz3 : Hid (w3.heap.size = w.heap.size + 5) := Lib.hid (by omega)
  have Hz2 : Hid (w2.heap.size = w.heap.size + 4) := Lib.hid (by omega)
  have Hz1 := Lib.hid hz1
  clear hz1 hz2 hz3 hlen hw1 hw2 hw3 hb1 hb2 hb3 hb13 hbw3 hA1 hE1 hV1 hS3 hK3 hcell hkeys hsort hwt hab hv hm
  refine (callsIn_wide (n := 5)).1 ?_
  refine callsIn_of_wp_marks Tryz.func34 rfl trivial ?_ rfl
  simp only [Tryz.ntmps34, List.size_toArray, List.length_cons, List.length_nil, Nat.reduceAdd, Nat.reduceSub, Array.replicate_succ, Array.replicate_zero, List.push_toArray, List.append_toArray, List.nil_append, List.cons_append]
  gi_wp2
  rw [← Hw1.out]
  refine ⟨trivial, ?_⟩
  refine (callsIn_wide.2 (Hv.out w1)).mono ?_
  rintro _ _ ⟨rfl, rfl⟩
  rw [← Hw2.out]
  gi_wp2
  refine ⟨trivial, ?_⟩
  refine (callsIn_wide.2 (Hm.out w2)).mono ?_
  rintro _ _ ⟨rfl, rfl⟩
  rw [← Hw3.out]
  gi_wp2
  have hR3 := Hz3.out
  refine range_z (α := Value × Int) (encs := encE) (gf := 92) (lb := #[.pointer (some ⟨w2.heap.size, 0, none⟩)]) (Ts := [166, 48]) (blk := rowBlk) rfl (enters_of Tryz.func92 (by kernel_rfl) rfl)
    (Kr := KrM (w.heap.size + 2) w.heap.size (w3.heap.size + 2)) (fun h k => h.trans k)
    (fun W o o' h1 h2 => ⟨KrR.putObj _ _ W _ o o' h1 h2, ⟨rfl, rfl, rfl, by simp, fun k hk => World.putObj_heap_other (by omega)⟩, KeepsFrom.of_grownBy (grownBy_putObj' W _ o') fun j e => by injection e with e; omega⟩)
    (fun _ => rfl) Hit.out
    (fun pre W => RowsI L w.heap.size w3.heap.size w pre W)
    (fun c pre W => c = .ret ∧ BoxAt 74 W w.heap.size [.slice none 0 0] ∧ BoxAt 33 W (w.heap.size + 1) [.int .i64 10] ∧ mrow L ⟨0, []⟩ [] = none ∧ Below w.heap.size w W)
    Hab.out ?hIx (fun _ _ _ _ h _ _ => h) HI0.out
    (fun _ pre x a' W => ∃ Bx, w3.heap.size ≤ Bx ∧ BoxAt 132 W Bx [(rawE x).1, (rawE x).2] ∧ YOk L w3.heap.size pre.length x W ∧ RowsI L w.heap.size w3.heap.size w pre W ∧ a' = { tmps := #[.slice A vals.length c, undef, .pointer (some ⟨w.heap.size, 0, none⟩), .pointer (some ⟨w.heap.size + 1, 0, none⟩), .pointer (some ⟨w.heap.size + 1 + 1, 0, none⟩), .pointer (some ⟨Bx, 0, none⟩), .int .i64 x.2, .slice A vals.length c, .func (.func 97) #[] #[.pointer (some ⟨w1.heap.size, 0, none⟩)], .func (.func 92) #[] #[.pointer (some ⟨w2.heap.size, 0, none⟩)], x.1, .int .i64 x.2, undef, undef, undef, undef, undef, undef, undef, undef], defers := [] }) ?hAx ?assign ?body ?done ?stop
  case hIx =>
    rintro cd pre X Y P ⟨rfl, i1, i2, i3, i4⟩ hc hP
    exact ⟨rfl, i1.chg hc (fun hp => by have := (hP _ hp i1.lt).1; omega), i2.chg hc (fun hp => by have := (hP _ hp i2.lt).1; omega), i3, i4.trans (chgBelow hc i4.size fun k hk hlt => by have := (hP k hk hlt).1; omega)⟩
  case hAx =>
    rintro pre x a' _ X Y row ⟨Bx, i1, i2, i3, i4, i5⟩ hg hr
    have hr2 := fun r e => (hr r e).2
    refine ⟨Bx, i1, i2.ownk hg hr2, ?_, Hab.out.own i4 hg hr, i5⟩
    obtain ⟨r, va, j1, j2, j3⟩ := i3
    exact ⟨r, va, j1, j2, OwnR.ownk j3 hg hr2⟩
  case assign =>
    rintro lq pre x W hlq hI hR
    have hR2 : YOk L w3.heap.size pre.length x W := hR
    obtain ⟨r, va, j1, j2, j3⟩ := hR
    obtain ⟨Ax, cx, rfl, _, _, _⟩ := j3.form'
    have hraw : rawE x = (.int .u32 (r.fr.toNat : Int), .slice Ax r.arcs.length cx) := by unfold rawE; rw [j2]; rfl
    have HI := Lib.hid hI
    have HR := Lib.hid hR2
    have Hone := Lib.hid (rowC_one r.fr.toNat Ax r.arcs.length cx)
    have Hraw := Lib.hid hraw
    have hls := hI.2.2.2.2.1
    obtain ⟨x1, x2⟩ := x
    simp only at j2
    subst j2
    clear hR2 j1 j3 hraw hI hR3
    gi_wp2_with (first
      | ((with_reducible refine wpListIn_alloc_z ?_ 132 ?_ infoRow [.int .u32 0, .slice none 0 0] ?_ ?_); exact rfl; exact rfl; exact rfl)
      | ((with_reducible refine wpListIn_store_new ?_ 132 (.tmp 5) (.tmp 10) ?_ [.int .u32 0, .slice none 0 0] [.int .u32 (r.fr.toNat : Int), .slice Ax r.arcs.length cx] ?_ ?_ ?_ ?_ Hone.out ?_); exact rfl; exact rfl; exact rfl; exact rfl; exact infoRow2; exact rfl))
    have hba := balloc W (.cells #[Value.int .u32 (r.fr.toNat : Int), Value.slice Ax r.arcs.length cx] 132)
    refine ⟨(KeepsOthers.alloc _ _).from _, ⟨KrR.ofBelow hba, hba.mono (by have := Hz3.out; omega), (KeepsOthers.alloc _ _).from _⟩, W.heap.size, hls, ?_, ?_, Hab.out.below HI.out hba, rfl⟩
    · rw [Hraw.out]
      exact BoxAt.new_ 132 W [.int .u32 (r.fr.toNat : Int), .slice Ax r.arcs.length cx]
    · exact HR.out.chg (Chg.ofBelow (P := fun _ => False) hba) fun _ h => h.elim
  case body =>
    rintro lq pre x a' W hlq ⟨Bx, hBx, iX, iY, ⟨⟨va, i1, i2⟩, i3, i4, i5, i6, i7, i8⟩, rfl⟩ -
    obtain ⟨r, vr, j1, j2, j3⟩ := id iY
    obtain ⟨Ax, cx, rfl, _, _, _⟩ := j3.form'
    have hraw : rawE x = (.int .u32 (r.fr.toNat : Int), .slice Ax r.arcs.length cx) := by unfold rawE; rw [j2]; rfl
    rw [hraw] at iX
    have hlm : (pre.map rawE).length = pre.length := List.length_map ..
    obtain ⟨Av, cv, rfl, _, _, _⟩ := i2.form'
    have hneV : Value.ownBlock (.slice Av (pre.map rawE).length cv) ≠ some (w.heap.size + 2) := fun e => by
      obtain ⟨cur, hcur⟩ := i2.blkT _ e
      have : W.heap[w.heap.size + 2]? = _ := i1
      rw [hcur] at this
      injection this with this
      injection this with _ h2 _
      exact absurd h2 (by decide)
    rw [hlm] at i1 i2 hneV
    have hcV := i1.cell 0 _ rfl
    have hlt := (List.getElem?_eq_some_iff.1 j1).1
    have I1 := Lib.hid i1
    have I2 := Lib.hid i2
    have I3 := Lib.hid i3
    have I4 := Lib.hid i4
    have I5 := Lib.hid i5
    have I7 := Lib.hid i7
    have IX := Lib.hid iX
    have IY := Lib.hid iY
    have HneV := Lib.hid hneV
    have Hraw := Lib.hid hraw
    have h7s := i7.size
    have hy1 := Hy.out.1 pre.length r x.2 j1
    have Hy1 := Lib.hid hy1
    have hlen20 : pre.length ≤ 1048577 := by have := Hyl.out; omega
    have J2 := Lib.hid j2
    obtain ⟨x1, x2⟩ := x
    simp only at j2
    subst j2
    dsimp only at Hy1 ⊢
    clear hy1 i1 i2 i3 i4 i5 i7 iX iY hneV hraw j1 j3 hR3
    by_cases hx2 : x2 = 0
    · have Hx2 := Lib.hid hx2
      subst hx2
      gi_wp2_with (first
        | ((with_reducible refine wpListIn_load_agg ?_ 132 (.tmp 5) ?_ ⟨Bx, 0, none⟩ ?_ [.int .u32 (r.fr.toNat : Int), .slice Ax r.arcs.length cx] IX.out.cells Tryz.underlying132 ?_ ?_ ?_); exact rfl; exact rfl; exact rfl; exact rfl; exact infoRow2)
        | ((with_reducible refine wpListIn_slice_row ?_ (.tmp 16) ?_ (.int .u32 (r.fr.toNat : Int)) (.slice Ax r.arcs.length cx) ?_ ?_ ?_); exact rfl; exact rfl; exact rfl; exact rfl)
        | ((with_reducible refine wpListIn_app1R (C := cRaw) ?_ (.tmp 15) (.tmp 17) 74 ?_ Tryz.underlying74 infoRow ?_ ?_ ?_ [.int .u32 (r.fr.toNat : Int), .slice Ax r.arcs.length cx] I2.out (y := (Value.int .u32 (r.fr.toNat : Int), Value.slice Ax r.arcs.length cx)) ?_ ?_ ?_ ?_ ?_ ?_); exact rfl; exact rfl; exact (by kernel_rfl); exact (by decide); exact (by decide); exact ⟨rfl, rfl, rfl⟩; exact rfl; exact rfl; exact (by rw [hlm]; omega); exact (by omega)
           intro v6 w6 ho6 hx6
           have hV6 := I1.out.grown hx6.gr HneV.out
           obtain ⟨A6, c6, rfl, _, _, _⟩ := ho6.form'
           have hl6 : (pre.map rawE ++ [((Value.int .u32 (r.fr.toNat : Int)), Value.slice Ax r.arcs.length cx)]).length = pre.length + 1 := by simp
           rw [hl6] at ho6 hx6
           have hcV6 := hV6.cell 0 _ rfl
           have hfV6 := hV6.frozen 0
           have Ho6 := Lib.hid ho6
           have Hx6 := Lib.hid hx6
           have HV6 := Lib.hid hV6
           clear ho6 hx6 hV6
           rw [hl6]
           refine wpListIn_store_sl rfl (.tmp 4) (.tmp 18) rfl (w.heap.size + 1 + 1) 0 A6 (pre.length + 1) c6 _ rfl rfl hcV6 hfV6 ?_))
      have hz3 := Hz3.out
      have h6s := Hx6.out.gr.size
      have hne6 := Hx6.out.ne (g := w.heap.size + 2) (by omega) HneV.out
      have hc1 : Chg (fun k => (Value.slice Av pre.length cv).ownBlock = some k) W w6 := Chg.ofGrown Hx6.out.gr fun k e => e
      have hc2 : Chg (fun k => k = w.heap.size + 2) w6 (w6.setCell ⟨w.heap.size + 1 + 1, 0, none⟩ (.slice A6 (pre.length + 1) c6)) := Chg.set _ _ _ rfl
      have hkf : ∀ B, KeepsFrom B W (w6.setCell ⟨w.heap.size + 1 + 1, 0, none⟩ (.slice A6 (pre.length + 1) c6)) := fun B => (keepsChg hc1 B fun r hr _ => by
          obtain ⟨cur, hcur⟩ := OwnR.blkT I2.out r hr
          exact ⟨_, hcur, rfl⟩).trans (keepsChg hc2 B fun r hr _ => by subst hr; exact ⟨_, HV6.out, rfl⟩)
      have hkr : KrR (w.heap.size + 2) w.heap.size W (w6.setCell ⟨w.heap.size + 1 + 1, 0, none⟩ (.slice A6 (pre.length + 1) c6)) := KrR.trans (KrR.ofGrown Hx6.out.gr fun k e => .inr (by
          obtain ⟨cur, hcur⟩ := OwnR.blkT I2.out k e
          exact ⟨(I2.out.blk k e).1, _, hcur, rfl⟩)) (KrR.ofGrown (gset w6 ⟨w.heap.size + 1 + 1, 0, none⟩ _) fun k e => .inl (by injection e with e; exact e.symm))
      have hbl : Below w.heap.size W (w6.setCell ⟨w.heap.size + 1 + 1, 0, none⟩ (.slice A6 (pre.length + 1) c6)) := (Hx6.out.below (B := w.heap.size) h7s (fun q hq => (I2.out.blk q hq).1)).setCell (p := ⟨w.heap.size + 1 + 1, 0, none⟩) (by show w.heap.size ≤ w.heap.size + 1 + 1; omega) _
      have hss : (w6.setCell ⟨w.heap.size + 1 + 1, 0, none⟩ (.slice A6 (pre.length + 1) c6)).heap.size = w6.heap.size := by simp [World.setCell]
      refine ⟨hkf _, ⟨hkr, hbl, hkf _⟩, ⟨⟨_, HV6.out.put 0 (.slice A6 (pre.length + 1) c6), ?_⟩, ?_, hkr.box I4.out (by omega) (.inr (by decide)), hkr.box I5.out (by omega) (.inr (by decide)), by omega, I7.out.trans hbl, by rw [List.length_append, List.length_singleton]; omega⟩, trivial⟩
      · have e : (pre ++ [((.agg #[.int .u32 (r.fr.toNat : Int), .slice Ax r.arcs.length cx], 0) : Value × Int)]).map rawE = pre.map rawE ++ [((Value.int .u32 (r.fr.toNat : Int)), Value.slice Ax r.arcs.length cx)] := by
          rw [List.map_append, List.map_singleton, Hraw.out]
        rw [e]
        exact OwnR.chgT Ho6.out hc2 (fun k hk e => hne6 (by rw [hk, e])) (fun _ h => h.elim)
      · intro i y hy
        rcases Nat.lt_or_ge i pre.length with h | h
        · rw [List.getElem?_append_left h] at hy
          exact ⟨(I3.out i y hy).1.kr hkr (by omega), (I3.out i y hy).2⟩
        · rw [List.getElem?_append_right h] at hy
          have h0 : i - pre.length = 0 := by
            have := (List.getElem?_eq_some_iff.1 hy).1
            simp at this
            omega
          rw [h0] at hy
          injection hy with hy
          subst hy
          have e : i = pre.length := by omega
          subst e
          exact ⟨IY.out.kr hkr (by omega), rfl⟩
    · rcases Hy1.out with h | ⟨rfl, h1, h2⟩
      · exact absurd h hx2
      have H2 := Lib.hid h2
      have hc4 := I4.out.cell 0 _ rfl
      have hf4 := I4.out.frozen 0
      have hc5 := (I5.out.other ⟨w.heap.size, 0, none⟩ (.slice none 0 0) (by show w.heap.size ≠ w.heap.size + 1; omega)).cell 0 _ rfl
      have hf5 := (I5.out.other ⟨w.heap.size, 0, none⟩ (.slice none 0 0) (by show w.heap.size ≠ w.heap.size + 1; omega)).frozen 0
      clear h1 h2 hx2
      gi_wp2
      have hz3 := Hz3.out
      have hcA : Chg (fun k => k = w.heap.size) W (W.setCell ⟨w.heap.size, 0, none⟩ (.slice none 0 0)) := Chg.set _ _ _ rfl
      have hcB : Chg (fun k => k = w.heap.size + 1) (W.setCell ⟨w.heap.size, 0, none⟩ (.slice none 0 0)) ((W.setCell ⟨w.heap.size, 0, none⟩ (.slice none 0 0)).setCell ⟨w.heap.size + 1, 0, none⟩ (.int .i64 10)) := Chg.set _ _ _ rfl
      have hA2 := I4.out.put 0 (.slice none 0 0)
      have hB2 := I5.out.other ⟨w.heap.size, 0, none⟩ (.slice none 0 0) (by show w.heap.size ≠ w.heap.size + 1; omega)
      refine ⟨(keepsChg hcA _ fun r hr _ => by subst hr; exact ⟨_, I4.out, rfl⟩).trans (keepsChg hcB _ fun r hr _ => by subst hr; exact ⟨_, hB2, rfl⟩), rfl, hA2.other ⟨w.heap.size + 1, 0, none⟩ _ (by show w.heap.size + 1 ≠ w.heap.size; omega), hB2.put 0 _, H2.out, ?_⟩
      exact (I7.out.setCell (p := ⟨w.heap.size, 0, none⟩) (Nat.le_refl _) _).setCell (p := ⟨w.heap.size + 1, 0, none⟩) (by show w.heap.size ≤ w.heap.size + 1; omega) _
  case done =>
    rintro D xs W hD hS ⟨⟨va, i1, i2⟩, i3, i4, i5, i6, i7, i8⟩ hK
    have hz3 := Hz3.out
    have hall : ∀ y ∈ eachY L ⟨0, []⟩, y.2 = 0 := fun y hy => by
      obtain ⟨i, hi, rfl⟩ := List.mem_iff_getElem.1 hy
      have hi2 : i < xs.length := by rw [hS]; exact hi
      obtain ⟨⟨r, va, h1, _, _⟩, h2⟩ := i3 i xs[i] (List.getElem?_eq_getElem hi2)
      rw [List.getElem?_eq_getElem hi] at h1
      injection h1 with h1
      rw [h1]
      exact h2
    have hm := Hy.out.2 hall
    rw [List.nil_append] at hm
    obtain ⟨Av, cv, rfl, _⟩ := i2.form'
    have hlx : (xs.map rawE).length = xs.length := List.length_map ..
    rw [hlx] at i1
    have hc6 := i1.cell 0 _ rfl
    have hc4 := i4.cell 0 _ rfl
    have hf4 := i4.frozen 0
    have hB2 := i5.other ⟨w.heap.size, 0, none⟩ (.slice Av xs.length cv) (by show w.heap.size ≠ w.heap.size + 1; omega)
    have hc5 := hB2.cell 0 _ rfl
    have hf5 := hB2.frozen 0
    have HB2 := Lib.hid hB2
    have I4 := Lib.hid i4
    have I7 := Lib.hid i7
    have I2 := Lib.hid i2
    have I3 := Lib.hid i3
    have I5 := Lib.hid i5
    have HS := Lib.hid hS
    have Hlx := Lib.hid hlx
    have HM := Lib.hid hm
    clear hS i1 i2 i3 i4 i5 i7 hB2 hm hall hlx hR3 hz3
    gi_wp2
    have hz3 := Hz3.out
    have hA3 := (I4.out.put 0 (.slice Av xs.length cv)).other ⟨w.heap.size + 1, 0, none⟩ (.int .i64 0) (by show w.heap.size + 1 ≠ w.heap.size; omega)
    have hB3 := HB2.out.put 0 (.int .i64 0)
    have hb7 : Below w.heap.size w ((W.setCell ⟨w.heap.size, 0, none⟩ (.slice Av xs.length cv)).setCell ⟨w.heap.size + 1, 0, none⟩ (.int .i64 0)) :=
      (I7.out.setCell (p := ⟨w.heap.size, 0, none⟩) (Nat.le_refl _) _).setCell (p := ⟨w.heap.size + 1, 0, none⟩) (by show w.heap.size ≤ w.heap.size + 1; omega) _
    obtain ⟨W3, hW3⟩ : ∃ W3, W3 = (W.setCell ⟨w.heap.size, 0, none⟩ (.slice Av xs.length cv)).setCell ⟨w.heap.size + 1, 0, none⟩ (.int .i64 0) := ⟨_, rfl⟩
    have hcA : Chg (fun k => k = w.heap.size) W (W.setCell ⟨w.heap.size, 0, none⟩ (.slice Av xs.length cv)) := Chg.set _ _ _ rfl
    have hcB : Chg (fun k => k = w.heap.size + 1) (W.setCell ⟨w.heap.size, 0, none⟩ (.slice Av xs.length cv)) W3 := by rw [hW3]; exact Chg.set _ _ _ rfl
    have hi2 : OwnF 132 cRaw W3 w.heap.size (.slice Av (xs.map rawE).length cv) (xs.map rawE) :=
      OwnR.chgT (OwnR.chgT I2.out hcA (fun k hk e => ownR_ne_boxT (by decide) I2.out I4.out k hk e) (fun _ h => h.elim)) hcB (fun k hk e => ownR_ne_boxT (by decide) I2.out I5.out k hk e) (fun _ h => h.elim)
    have hg3 := (I3.out.chg hcA fun k e => by omega).chg hcB fun k e => by omega
    rw [← hW3] at hA3 hB3 hb7 ⊢
    have hs3 : W.heap.size ≤ W3.heap.size := by rw [hW3]; simp [World.setCell]
    have hK3 : W3.heap[D]? = some (.deferred (some [])) := by
      rw [hW3]
      exact (Below.heap_setCell _ _ _ D (by show D ≠ w.heap.size + 1; omega)).trans ((Below.heap_setCell _ _ _ D (by show D ≠ w.heap.size; omega)).trans hK)
    clear hW3 hcA hcB hc4 hc5 hc6 hf4 hf5
    refine ⟨by simp, .inl ⟨_, _, rfl, run_takeDeferred hK3, ?_⟩⟩
    have hgp := grownBy_putObj' W3 D (.deferred none)
    have hrp : ∀ r, some D = some r → ∃ o : Obj, W3.heap[r]? = some o ∧ o.isCells = false := fun r e => by cases e; exact ⟨_, hK3, rfl⟩
    have hA4 := (hA3.ownk hgp hrp).cell 0 _ rfl
    have hB4 := (hB3.ownk hgp hrp).cell 0 _ rfl
    have hrf := rowsOfE (OwnR.ownk hi2 hgp hrp) (b2 := w3.heap.size) (by omega) (hg3.own hgp hrp) HS.out
    rw [Hlx.out] at hrf
    refine ⟨.tuple #[.slice Av xs.length cv, .int .i64 0], ?_, _, 0, rfl, hb7.trans (belowK_b (w := w) (Nat.le_refl _) W3 D _ _ (by omega) hK3 rfl rfl), .inl ⟨_, HM.out, rfl, hrf⟩⟩
    clear hrf hi2 hg3 hb7
    simp [results, Tryz.f34, go_sem, hA4, hB4]
  case stop =>
    rintro D cd pre W hD _ ⟨rfl, i1, i2, i3, i4⟩ hK
    have hz3 := Hz3.out
    have hgp := grownBy_putObj' W D (.deferred none)
    have hrp : ∀ r, some D = some r → ∃ o : Obj, W.heap[r]? = some o ∧ o.isCells = false := fun r e => by cases e; exact ⟨_, hK, rfl⟩
    have hA4 := (i1.ownk hgp hrp).cell 0 _ rfl
    have hB4 := (i2.ownk hgp hrp).cell 0 _ rfl
    have hb7 := i4.trans (belowK_b (w := w) (Nat.le_refl _) W D _ (.deferred none) (by omega) hK rfl rfl)
    have H7 := Lib.hid hb7
    have H3 := Lib.hid i3
    clear i1 i2 i3 i4 hb7 hgp hrp hR3 hz3
    gi_wp2
    refine ⟨by simp, .inl ⟨_, _, rfl, run_takeDeferred hK, ?_⟩⟩
    refine ⟨.tuple #[.slice none 0 0, .int .i64 10], ?_, _, 10, rfl, H7.out, .inr ⟨H3.out, rfl, rfl⟩⟩
    simp [results, Tryz.f34, go_sem, hA4, hB4]
end Go.Proofs.YtcffeepgfjpcaaaGreat

namespace Go.Proofs.YtcffeepgfjpcaaaGreat
set_option linter.unusedSimpArgs false
set_option linter.unusedVariables false
open Go.RowKit Go.Shelf
attribute [local go_sem] Oper.semAt_some

theorem wpListIn_store_ss {F : Fence} {n : Nat} {ops : Array Oper} {rest : List Oper} {o : Oper} {a : Act} {w : World} {Q : Exit → Act → World → Prop} (hgd : o.guard = none) (x y : Operand) (ho : o.op = .store 86 x y) (g off : Nat) (A : Option Addr) (m c : Nat) (old : Value) (hx : a.eval x = .pointer (some ⟨g, off, none⟩)) (hy : a.eval y = .slice A m c)
    (hc : w.cell? ⟨g, off, none⟩ = some old) (hf : w.frozen? ⟨g, off, none⟩ = false)
    (h : wpListIn F n Tryz.prog ops Q rest (a.put o.dst undef) (w.setCell ⟨g, off, none⟩ (.slice A m c))) : wpListIn F n Tryz.prog ops Q (o :: rest) a w :=
  wpListIn_plain hgd fun K hK => by
    unfold Oper.wpIn
    refine ⟨by simp [Oper.about, ho], ?_⟩
    rw [Oper.semAt_plain F _ _ (by rw [ho]; intro c hc'; cases hc')]
    have hr : (execOp a.eval o).run Tryz.prog w = .ok .skip (w.setCell ⟨g, off, none⟩ (.slice A m c)) := by
      unfold execOp
      simp only [ho, hx, hy]
      simp [go_sem, hc, hf]
    rw [hr]
    exact hK _ _ h
def WordsI (m Bs : Nat) (w : World) (pre : List (List UInt8)) (W : World) : Prop :=
  (∃ va, BoxAt 86 W m [va] ∧ OwnF 9 cS W (Bs + 1) va pre) ∧ Below m w W ∧ Bs + 1 ≤ W.heap.size
theorem WordsI.abb (m Bs B : Nat) (w : World) (hm : m < Bs) (hB : Bs < B) (hw : m ≤ w.heap.size) : AbB B Bs (WordsI m Bs w) := by
  rintro pre X Y P ⟨⟨va, i1, i2⟩, i3, i4⟩ hc hP
  refine ⟨⟨va, i1.chg hc (fun hp => by rcases hP _ hp i1.lt with h | ⟨h, _⟩ <;> omega), OwnR.chgT i2 hc (fun k hk hp => ?_) (fun _ h => h.elim)⟩, i3.trans (chgBelow hc (Nat.le_trans hw i3.size) fun k hk hlt => by rcases hP k hk hlt with h | ⟨h, _⟩ <;> omega), Nat.le_trans i4 hc.size⟩
  obtain ⟨cur, hcur⟩ := OwnR.blkT i2 k hk
  have hge := (i2.blk k hk).1
  rcases hP k hp (Array.getElem?_eq_some_iff.1 hcur).1 with h | ⟨_, o, ho, hor⟩
  · omega
  · rw [hcur] at ho
    injection ho with ho
    subst ho
    cases hor
set_option maxRecDepth 100000 in
set_option maxHeartbeats 3200000 in
theorem twords_any (w : World) (l : List UInt8) (hl : l.length ≤ 1048576) :
    Calls Tryz.prog 69 #[.string (bst l)] w fun e w' => ∃ v', e = .returned v' ∧ OwnF 9 cS w' w.heap.size v' (wordsP l) ∧ Below w.heap.size w w' := by
  obtain ⟨w1, hw1⟩ : ∃ w1, w1 = w.alloc (.cells #[.slice none 0 0] 86) := ⟨_, rfl⟩
  have hz1 : w1.heap.size = w.heap.size + 1 := by rw [hw1]; simp
  have hb1 : Below w.heap.size w w1 := by rw [hw1]; exact balloc _ _
  have hV1 : BoxAt 86 w1 w.heap.size [.slice none 0 0] := by rw [hw1]; exact BoxAt.new_ _ _ _
  have hv := each_any w1 l
  obtain ⟨Bs, hBs⟩ : ∃ Bs, Bs = w1.heap.size := ⟨_, rfl⟩
  rw [← hBs] at hv
  have Hw1 := Lib.hid hw1
  have Hv := Lib.hid hv
  have HV1 := Lib.hid hV1
  have Hb1 := Lib.hid hb1
  have Hz1 := Lib.hid hz1
  have HBs := Lib.hid hBs
  have Hwl := Lib.hid (wordsP_len l)
  clear hw1 hv hV1 hb1 hz1 hBs
  refine (callsIn_wide (n := 5)).1 ?_
  refine callsIn_of_wp_marks Tryz.func69 rfl trivial ?_ rfl
  simp only [Tryz.ntmps69, List.size_toArray, List.length_cons, List.length_nil, Nat.reduceAdd, Nat.reduceSub, Array.replicate_succ, Array.replicate_zero, List.push_toArray, List.append_toArray, List.nil_append, List.cons_append]
  gi_wp2
  rw [← Hw1.out]
  refine ⟨trivial, ?_⟩
  refine (callsIn_wide.2 Hv.out).mono ?_
  rintro _ w2 ⟨rfl, hX2, hb2, hz2⟩
  have hBe := HBs.out
  have hze := Hz1.out
  have hV2 := HV1.out.bl_ (hBe ▸ hb2)
  have hbw2 : Below w.heap.size w w2 := Hb1.out.trans (hb2.mono (by omega))
  have Hit := Lib.hid (eachw_iter 4 (by omega) w2 Bs l hl hX2)
  have HI0 : Hid (WordsI w.heap.size Bs w [] w2) := Lib.hid ⟨⟨_, hV2, OwnF.nil_ _ _⟩, hbw2, by omega⟩
  have hab := WordsI.abb w.heap.size Bs w2.heap.size w (by omega) (by omega) (Nat.le_refl _)
  have Hab := Lib.hid hab
  have HG : Hid (Bs < w2.heap.size ∧ w.heap.size < Bs ∧ Bs = w.heap.size + 1) := Lib.hid (by omega)
  clear hX2 hb2 hV2 hbw2 hab hz2 hBe hze
  gi_wp2
  refine range_b (α := List UInt8) (encs := fun x => #[.string (bst x)]) (gf := 117) (lb := #[.pointer (some ⟨Bs, 0, none⟩)]) rfl (enters_of Tryz.func117 (by kernel_rfl) rfl)
    (Bs := Bs) HG.out.1 (Kr := KrB Bs) (fun h k => Eq.trans k h)
    (fun W o o' h1 h2 => World.putObj_heap_other (by have := HG.out; omega))
    (fun _ => rfl) Hit.out
    (fun pre W => WordsI w.heap.size Bs w pre W)
    (fun c pre W => False)
    Hab.out (fun _ _ _ _ _ h _ _ => h.elim) (fun _ _ _ _ h _ _ => h) HI0.out
    (fun _ pre x a' W => WordsI w.heap.size Bs w pre W ∧ x.length ≤ 1048576 ∧ pre.length ≤ l.length ∧ a' = { tmps := #[.string (bst l), undef, .slice none 0 0, .pointer (some ⟨w.heap.size, 0, none⟩), .string (bst x), .string (bst l), .func (.func 117) #[] #[.pointer (some ⟨Bs, 0, none⟩)], .string (bst x), undef, undef, undef, undef, undef], defers := [] }) ?hAx ?assign ?body ?done ?stop
  case hAx =>
    rintro pre x a' _ X Y row ⟨i1, i2⟩ hg hr
    exact ⟨Hab.out _ _ _ (fun k => row = some k) i1 ⟨hg.os, hg.tape, hg.output, hg.size, fun k hk hn => hg.block k hk fun e => hn e.symm⟩ fun r e _ => .inr (hr r e), i2⟩
  case assign =>
    rintro lq pre x W hlq hI ⟨hx1, hx2, hx3⟩
    have HI := Lib.hid hI
    clear hI
    dsimp only
    gi_wp2
    exact ⟨KeepsFrom.refl _ _, (rfl : KrB Bs W W), HI.out⟩
  case body =>
    rintro lq pre x a' W hlq ⟨⟨⟨va, i1, i2⟩, i3, i4⟩, hx1, hx3, rfl⟩ -
    obtain ⟨Av, cv, rfl, _, _, _⟩ := i2.form'
    have hneV : Value.ownBlock (.slice Av pre.length cv) ≠ some w.heap.size := fun e => by
      have := (i2.blk _ e).1
      have := HG.out
      omega
    have hneB : Value.ownBlock (.slice Av pre.length cv) ≠ some Bs := fun e => by
      have := (i2.blk _ e).1
      omega
    have hmx : (bst x).size ≤ maxLen := by rw [bst_size]; unfold maxLen; omega
    have hcV := i1.cell 0 _ rfl
    have I1 := Lib.hid i1
    have I2 := Lib.hid i2
    have I3 := Lib.hid i3
    have I4 := Lib.hid i4
    have Hmx := Lib.hid hmx
    have HneV := Lib.hid hneV
    have HneB := Lib.hid hneB
    clear i1 i2 i3 i4 hneV hneB hmx
    gi_wp2_with (
      (with_reducible refine wpListIn_app1R (C := cS) ?_ (.tmp 8) (.tmp 10) 86 ?_ Tryz.underlying86 infoS ?_ ?_ ?_ [.string (bst x)] I2.out (y := x) ?_ ?_ ?_ ?_ ?_ ?_); exact rfl; exact rfl; exact (by kernel_rfl); exact (by decide); exact (by decide); exact ⟨rfl, Hmx.out⟩; exact rfl; exact rfl; exact (by omega); exact I4.out
      intro v6 w6 ho6 hx6
      have hV6 := I1.out.grown hx6.gr HneV.out
      obtain ⟨A6, c6, rfl, _, _, _⟩ := ho6.form'
      have hl6 : (pre ++ [x]).length = pre.length + 1 := by simp
      rw [hl6] at ho6 hx6
      have hcV6 := hV6.cell 0 _ rfl
      have hfV6 := hV6.frozen 0
      have Ho6 := Lib.hid ho6
      have Hx6 := Lib.hid hx6
      have HV6 := Lib.hid hV6
      clear ho6 hx6 hV6
      rw [hl6]
      refine wpListIn_store_ss rfl (.tmp 3) (.tmp 11) rfl w.heap.size 0 A6 (pre.length + 1) c6 _ rfl rfl hcV6 hfV6 ?_)
    have h6s := Hx6.out.gr.size
    have hne6 := Hx6.out.ne (g := w.heap.size) (by have := HG.out; have := I4.out; omega) HneV.out
    have hneB6 := HneB.out
    have hc1 : Chg (fun k => (Value.slice Av pre.length cv).ownBlock = some k) W w6 := Chg.ofGrown Hx6.out.gr fun k e => e
    have hc2 : Chg (fun k => k = w.heap.size) w6 (w6.setCell ⟨w.heap.size, 0, none⟩ (.slice A6 (pre.length + 1) c6)) := Chg.set _ _ _ rfl
    have hkf : ∀ B, KeepsFrom B W (w6.setCell ⟨w.heap.size, 0, none⟩ (.slice A6 (pre.length + 1) c6)) := fun B => (keepsChg hc1 B fun r hr _ => by
        obtain ⟨cur, hcur⟩ := OwnR.blkT I2.out r hr
        exact ⟨_, hcur, rfl⟩).trans (keepsChg hc2 B fun r hr _ => by subst hr; exact ⟨_, HV6.out, rfl⟩)
    have hkb : KrB Bs W (w6.setCell ⟨w.heap.size, 0, none⟩ (.slice A6 (pre.length + 1) c6)) :=
      (Below.heap_setCell _ _ _ Bs (by show Bs ≠ w.heap.size; have := HG.out; omega)).trans (hc1.block Bs (by have := I4.out; omega) hneB6)
    have hbl : Below w.heap.size W (w6.setCell ⟨w.heap.size, 0, none⟩ (.slice A6 (pre.length + 1) c6)) :=
      (Hx6.out.below (B := w.heap.size) (I3.out.size) (fun q hq => by have := (I2.out.blk q hq).1; have := HG.out; omega)).setCell (p := ⟨w.heap.size, 0, none⟩) (Nat.le_refl _) _
    have hss : (w6.setCell ⟨w.heap.size, 0, none⟩ (.slice A6 (pre.length + 1) c6)).heap.size = w6.heap.size := by simp [World.setCell]
    refine ⟨hkf _, hkb, ⟨⟨_, HV6.out.put 0 (.slice A6 (pre.length + 1) c6), ?_⟩, I3.out.trans hbl, by have := I4.out; omega⟩, trivial⟩
    exact OwnR.chgT Ho6.out hc2 (fun k hk e => hne6 (by rw [hk, e])) (fun _ h => h.elim)
  case done =>
    rintro D xs W hD hS ⟨⟨va, i1, i2⟩, i3, i4⟩ hK
    have hc := i1.cell 0 _ rfl
    have I2 := Lib.hid i2
    have I3 := Lib.hid i3
    have HS := Lib.hid hS
    clear i1 i2 i3 hS
    gi_wp2
    have hgp := grownBy_putObj' W D (.deferred none)
    have hrp : ∀ r, some D = some r → ∃ o : Obj, W.heap[r]? = some o ∧ o.isCells = false := fun r e => by cases e; exact ⟨_, hK, rfl⟩
    have hG := HG.out
    have hb7 := I3.out.trans (belowK_b (w := w) (Nat.le_refl _) W D _ (.deferred none) (by omega) hK rfl rfl)
    refine ⟨by simp, .inl ⟨_, _, rfl, run_takeDeferred hK, ?_⟩⟩
    refine ⟨va, ?_, va, rfl, ?_, hb7⟩
    · simp [results, Tryz.f69, go_sem]
    · have := (OwnR.ownk I2.out hgp hrp).more (base' := w.heap.size) (by omega)
      rwa [HS.out] at this
  case stop =>
    rintro D c pre W hD hSp hIx hK
    exact hIx.elim
end Go.Proofs.YtcffeepgfjpcaaaGreat

namespace Go.Proofs.YtcffeepgfjpcaaaGreat
set_option linter.unusedVariables false
open Go.Shelf
def sortL_ren : Go.Shelf.Ren := ⟨fun | 6 => 32 | 15 => 57 | 14 => 56 | 28 => 90 | 29 => 91 | 20 => 82 | 21 => 83 | 22 => 84 | 23 => 85 | 24 => 86 | 25 => 87 | 26 => 88 | 27 => 89 | 46 => 109 | 47 => 110 | 48 => 111 | 49 => 112 | 50 => 113 | 57 => 123 | n => n, fun | 22 => 70 | 24 => 40 | 25 => 73 | 3 => 3 | 39 => 124 | 0 => 0 | 53 => 24 | 55 => 23 | 4 => 4 | 46 => 157 | 45 => 156 | 50 => 60 | 5 => 5 | 9 => 9 | 66 => 185 | 70 => 189 | 76 => 200 | 77 => 201 | n => n, fun | n => n⟩
theorem sortL : Go.Proofs.SlLaysF.n6 Tryz.prog sortL_ren := {
  mixed := by kernel_rfl
  f6 := ⟨Tryz.f32.name, by decide, Tryz.func32.trans (congrArg some (by kernel_rfl))⟩
  f14 := ⟨Tryz.f56.name, by decide, Tryz.func56.trans (congrArg some (by kernel_rfl))⟩
  f15 := Tryz.func57.trans (congrArg some (by kernel_rfl))
  f20 := ⟨Tryz.f82.name, by decide, Tryz.func82.trans (congrArg some (by kernel_rfl))⟩
  f21 := ⟨Tryz.f83.name, by decide, Tryz.func83.trans (congrArg some (by kernel_rfl))⟩
  f22 := ⟨Tryz.f84.name, by decide, Tryz.func84.trans (congrArg some (by kernel_rfl))⟩
  f23 := ⟨Tryz.f85.name, by decide, Tryz.func85.trans (congrArg some (by kernel_rfl))⟩
  f24 := ⟨Tryz.f86.name, by decide, Tryz.func86.trans (congrArg some (by kernel_rfl))⟩
  f25 := ⟨Tryz.f87.name, by decide, Tryz.func87.trans (congrArg some (by kernel_rfl))⟩
  f26 := ⟨Tryz.f88.name, by decide, Tryz.func88.trans (congrArg some (by kernel_rfl))⟩
  f27 := ⟨Tryz.f89.name, by decide, Tryz.func89.trans (congrArg some (by kernel_rfl))⟩
  f28 := Tryz.func90.trans (congrArg some (by kernel_rfl))
  f29 := Tryz.func91.trans (congrArg some (by kernel_rfl))
  f46 := ⟨Tryz.f109.name, by decide, Tryz.func109.trans (congrArg some (by kernel_rfl))⟩
  f47 := Tryz.func110.trans (congrArg some (by kernel_rfl))
  f48 := Tryz.func111.trans (congrArg some (by kernel_rfl))
  f49 := ⟨Tryz.f112.name, by decide, Tryz.func112.trans (congrArg some (by kernel_rfl))⟩
  f50 := ⟨Tryz.f113.name, by decide, Tryz.func113.trans (congrArg some (by kernel_rfl))⟩
  f57 := ⟨Tryz.f123.name, by decide, Tryz.func123.trans (congrArg some (by kernel_rfl))⟩
  t0 := Tryz.underlying0
  a0 := Tryz.isAgg0
  z0 := Tryz.sizeOf0
  v0 := Tryz.zeroValue0
  t3 := Tryz.underlying3
  a3 := Tryz.isAgg3
  z3 := Tryz.sizeOf3
  v3 := Tryz.zeroValue3
  t4 := Tryz.underlying4
  a4 := Tryz.isAgg4
  z4 := Tryz.sizeOf4
  v4 := Tryz.zeroValue4
  t5 := Tryz.underlying5
  a5 := Tryz.isAgg5
  z5 := Tryz.sizeOf5
  v5 := Tryz.zeroValue5
  t9 := Tryz.underlying9
  a9 := Tryz.isAgg9
  z9 := Tryz.sizeOf9
  v9 := Tryz.zeroValue9
  t22 := Tryz.underlying70
  a22 := Tryz.isAgg70
  z22 := Tryz.sizeOf70
  v22 := Tryz.zeroValue70
  a24 := Tryz.isAgg40
  z24 := Tryz.sizeOf40
  t25 := Tryz.underlying73
  a25 := Tryz.isAgg73
  z25 := Tryz.sizeOf73
  v25 := Tryz.zeroValue73
  t39 := Tryz.underlying124
  a39 := Tryz.isAgg124
  z39 := Tryz.sizeOf124
  v39 := Tryz.zeroValue124
  t45 := Tryz.underlying156
  a45 := Tryz.isAgg156
  z45 := Tryz.sizeOf156
  v45 := Tryz.zeroValue156
  t46 := Tryz.underlying157
  a46 := Tryz.isAgg157
  z46 := Tryz.sizeOf157
  v46 := Tryz.zeroValue157
  t50 := Tryz.underlying60
  a50 := Tryz.isAgg60
  z50 := Tryz.sizeOf60
  v50 := Tryz.zeroValue60
  t53 := Tryz.underlying24
  a53 := Tryz.isAgg24
  z53 := Tryz.sizeOf24
  v53 := Tryz.zeroValue24
  t55 := Tryz.underlying23
  a55 := Tryz.isAgg23
  z55 := Tryz.sizeOf23
  v55 := Tryz.zeroValue23
  t66 := Tryz.underlying185
  a66 := Tryz.isAgg185
  z66 := Tryz.sizeOf185
  v66 := Tryz.zeroValue185
  t70 := Tryz.underlying189
  a70 := Tryz.isAgg189
  z70 := Tryz.sizeOf189
  v70 := Tryz.zeroValue189
  t76 := Tryz.underlying200
  a76 := Tryz.isAgg200
  z76 := Tryz.sizeOf200
  v76 := Tryz.zeroValue200
  t77 := Tryz.underlying201
  a77 := Tryz.isAgg201
  z77 := Tryz.sizeOf201
  v77 := Tryz.zeroValue201 }
end Go.Proofs.YtcffeepgfjpcaaaGreat

namespace Go.Proofs.YtcffeepgfjpcaaaGreat
set_option linter.unusedSimpArgs false
set_option linter.unusedVariables false
open Go.RowKit Go.Shelf Go.Sort

theorem sortWorld_chg {α : Type} [Inhabited α] (enc : α → Value) (w : World) (blk off n : Nat) (d : Array α) (os : Array Obj) : Chg (fun k => k = blk) w (sortWorld enc w blk off n d os) := by
  have hsz : (putRow enc (Go.Sort.ahead w n) blk off d).heap.size = w.heap.size := size_putRow enc (Go.Sort.ahead w n) blk off d
  refine ⟨rfl, rfl, rfl, ?_, fun k hk hn => ?_⟩
  · unfold sortWorld
    rw [size_grow, hsz]
    omega
  · unfold sortWorld grow
    have hk2 : k < (putRow enc (Go.Sort.ahead w n) blk off d).heap.size := by rw [hsz]; exact hk
    show ((putRow enc (Go.Sort.ahead w n) blk off d).heap ++ os)[k]? = w.heap[k]?
    rw [Array.getElem?_append_left hk2]
    show ((w.heap.modify blk _)[k]?) = w.heap[k]?
    rw [Array.getElem?_modify, if_neg (fun e => hn e.symm)]
theorem extract_all {β : Type} (a : Array β) (m : Nat) (h : a.size = m) : a.extract 0 m = a := by
  subst h
  exact Array.extract_size
/-- the order of keys -/
def cfK {n : Nat} (L : Fin n → GEdge) (i j : Fin n) : Int := Lib.compareBytes (keyL (L i)) (keyL (L j))
theorem cfK_lt {n : Nat} (L : Fin n → GEdge) (i j : Fin n) : ltOf (cfK L) i j = decide ((L i).num < (L j).num) := by
  unfold ltOf cfK
  rw [cmp_key]
  by_cases h : (L i).num < (L j).num
  · rw [if_pos h]; simp [h]
  · rw [if_neg h]
    split <;> simp [h]
theorem cfK_swo {n : Nat} (L : Fin n → GEdge) : SWO (ltOf (cfK L)) := by
  refine ⟨fun x => ?_, fun x y z h1 h2 => ?_, fun x y z h1 h2 => ?_⟩
  · rw [cfK_lt]; simp
  · rw [cfK_lt] at *
    simp only [decide_eq_true_eq] at *
    omega
  · rw [cfK_lt] at *
    simp only [decide_eq_false_iff_not] at *
    omega

set_option maxRecDepth 100000 in
set_option maxHeartbeats 1600000 in
theorem ksort_any (w : World) (blk cap : Nat) (vals : List Value) (L : List GEdge) (hlen : vals.length = L.length) (hpos : 0 < L.length) (hl20 : L.length ≤ 1048576) (hblk : blk < w.heap.size)
    (hcell : ∀ i, (h : i < vals.length) → w.cell? ⟨blk, i, none⟩ = some vals[i] ∧ w.frozen? ⟨blk, i, none⟩ = false) (h1 : ∀ v ∈ vals, v.oneCell' = true)
    (K : Nat → Prop) (hK : ∀ k, K k → k < w.heap.size ∧ k ≠ blk) (hkeys : ∀ i, (h : i < vals.length) → RowOn c8 w K K vals[i] (keyL (L[i]'(by omega)))) :
    Calls Tryz.prog 32 #[.slice (some ⟨blk, 0, none⟩) vals.length cap, .func (.func 33) #[] #[]] w fun e w' => e = .returned (.tuple #[]) ∧
      ∃ (vals' : List Value) (L' : List GEdge), ∃ hl : vals'.length = L'.length, L'.Perm L ∧ L'.Pairwise (fun a b => a.num ≤ b.num) ∧ (∀ i, (h : i < vals'.length) → w'.cell? ⟨blk, i, none⟩ = some vals'[i]) ∧
        (∀ i, (h : i < vals'.length) → RowOn c8 w' K K vals'[i] (keyL (L'[i]'(by omega)))) ∧ Chg (fun k => k = blk) w w' := by
  obtain ⟨n, hn⟩ : ∃ n, n = vals.length := ⟨_, rfl⟩
  have hn0 : 0 < n := by omega
  haveI : Inhabited (Fin n) := ⟨⟨0, hn0⟩⟩
  obtain ⟨enc, henc⟩ : ∃ enc : Fin n → Value, enc = fun i => vals[i.1]'(by have := i.2; omega) := ⟨_, rfl⟩
  obtain ⟨F, hF⟩ : ∃ F : Fin n → GEdge, F = fun i => L[i.1]'(by have := i.2; omega) := ⟨_, rfl⟩
  obtain ⟨d, hd⟩ : ∃ d : Array (Fin n), d = Array.ofFn id := ⟨_, rfl⟩
  have hds : d.size = n := by rw [hd]; simp
  have hdi : ∀ j, (h : j < n) → d[j]! = ⟨j, h⟩ := fun j h => by
    rw [getElem!_pos d j (by omega)]
    subst hd
    simp
  have hH : Holds enc w blk 0 d := fun j hj => by
    have hj2 : j < n := by omega
    rw [hdi j hj2, henc, Nat.zero_add]
    exact hcell j (by omega)
  have hkeysC : ∀ W, Chg (fun k => k = blk) w W → ∀ i : Fin n, RowOn c8 W K K (enc i) (keyL (F i)) := fun W hW i => by
    rw [henc, hF]
    have hsame : ∀ p : Addr, K p.block → W.cell? p = w.cell? p := fun p hp => World.cell?_of_block (hW.block p.block (hK _ hp).1 (hK _ hp).2)
    exact (hkeys i.1 (by have := i.2; omega)).keep hsame hsame
  have hcmp : CmpLays1 Tryz.prog 33 #[] enc (cfK F) blk 0 d.size w := fun m os dk hs x y => by
    have hc := sortWorld_chg enc w blk 0 m dk os
    have hby : ∀ i : Fin n, By (sortWorld enc w blk 0 m dk os) (sortWorld enc w blk 0 m dk os).heap.size (enc i) (keyL (F i)) := fun i =>
      RowOn.toBy ((hkeysC _ hc i).mono (fun k hk => Nat.lt_of_lt_of_le (hK k hk).1 hc.size) (fun k hk => hk))
    refine (bcmp_any _ _ _ (enc x) (enc y) _ _ (hby x) (hby y)).mono ?_
    rintro e w' ⟨rfl, rfl⟩
    exact ⟨rfl, 0, #[], by rw [grow_empty]; rfl⟩
  have h1e : OneCell enc := fun x => by rw [henc]; exact h1 _ (List.getElem_mem _)
  have hsl := Any.slices_SortFunc sortL enc h1e (cfK F) (cfK_swo F) 33 #[] blk 0 cap d w (enters_of Tryz.func33 (by kernel_rfl) rfl) hcmp hH hblk (by omega)
  rw [hds] at hsl
  rw [← hn]
  refine hsl.mono ?_
  rintro e w' ⟨rfl, d', m, os, ⟨hp1, hp2, hp3⟩, hsrt, rfl⟩
  have hc := sortWorld_chg enc w blk 0 m d' os
  have hd's : d'.size = n := by rw [hp1, hds]
  have hHol := holds_sortWorld enc w blk 0 m d d' os hblk hH hp1
  refine ⟨rfl, d'.toList.map enc, d'.toList.map F, by simp, ?_, ?_, ?_, ?_, hc⟩
  · have e1 : d'.toList.Perm d.toList := by
      have a1 : d'.extract 0 n = d' := extract_all d' n hd's
      have a2 : d.extract 0 n = d := extract_all d n hds
      rw [a1, a2] at hp3
      exact hp3
    have e2 : d.toList.map F = L := by
      apply List.ext_getElem
      · simp [hds]; omega
      · intro i h1 h2
        simp [hd, hF]
    rw [← e2]
    exact e1.map F
  · rw [List.pairwise_iff_getElem]
    intro i j hi hj hij
    have hi2 : i < d'.size := by simpa using hi
    have hj2 : j < d'.size := by simpa using hj
    have := hsrt i j (Nat.zero_le _) hij (by omega)
    rw [cfK_lt, getElem!_pos d' i hi2, getElem!_pos d' j hj2] at this
    simp only [decide_eq_false_iff_not] at this
    simp only [List.getElem_map, Array.getElem_toList]
    omega
  · intro i hi
    have hi2 : i < d'.size := by simpa using hi
    have := (hHol i hi2).1
    rw [getElem!_pos d' i hi2, Nat.zero_add] at this
    simpa using this
  · intro i hi
    simp only [List.getElem_map, Array.getElem_toList]
    exact hkeysC _ hc _
theorem ksort_none (w : World) (p : Option Addr) (cap : Nat) (fv : Value) :
    Calls Tryz.prog 32 #[.slice p 0 cap, fv] w fun e w' => e = .returned (.tuple #[]) ∧ w' = w := AnyF.slices_SortFunc_none (ρ := sortL_ren) { sortL with } p cap fv w
end Go.Proofs.YtcffeepgfjpcaaaGreat

namespace Go.Proofs.YtcffeepgfjpcaaaGreat
set_option linter.unusedSimpArgs false
set_option linter.unusedVariables false
open Go.RowKit

set_option maxRecDepth 100000 in
set_option maxHeartbeats 800000 in
theorem isnan32 (w : World) (a : Nat) (ha : a < 4294967296) : Calls Tryz.prog 104 #[.int .u32 (a : Int)] w fun e w' => e = .returned (.bool false) ∧ w = w' := by
  go_enter Tryz.func104, Tryz.ntmps104
  go_wp2_with fail
  go_ret
  exact ⟨rfl, rfl⟩
def cmp3 (a b : Nat) : Int := if a < b then -1 else if b < a then 1 else 0
set_option maxRecDepth 100000 in
set_option maxHeartbeats 800000 in
theorem compare32 (w : World) (a b : Nat) (ha : a < 4294967296) (hb : b < 4294967296) : Calls Tryz.prog 74 #[.int .u32 (a : Int), .int .u32 (b : Int)] w fun e w' => e = .returned (.int .i64 (cmp3 a b)) ∧ w = w' := by
  have hc : cmp3 a b = if a < b then -1 else if b < a then 1 else 0 := rfl
  by_cases h1 : a < b
  · rw [if_pos h1] at hc
    rw [hc]
    clear hc
    go_enter Tryz.func74, Tryz.ntmps74
    go_wp2_with fail
    refine (isnan32 w a ha).mono ?_
    rintro _ _ ⟨rfl, rfl⟩
    go_wp2_with fail
    refine (isnan32 w b hb).mono ?_
    rintro _ _ ⟨rfl, rfl⟩
    go_wp2_with fail
    go_ret
    exact ⟨rfl, rfl⟩
  · rw [if_neg h1] at hc
    have hd1 : decide ((a : Int) < (b : Int)) = false := by simp; omega
    have hd1' : decide (a < b) = false := by simp; omega
    by_cases h2 : b < a
    · rw [if_pos h2] at hc
      rw [hc]
      clear hc h1
      go_enter Tryz.func74, Tryz.ntmps74
      go_wp2_with fail
      refine (isnan32 w a ha).mono ?_
      rintro _ _ ⟨rfl, rfl⟩
      go_wp2_with fail
      refine (isnan32 w b hb).mono ?_
      rintro _ _ ⟨rfl, rfl⟩
      go_wp2_with fail
      go_ret
      exact ⟨rfl, rfl⟩
    · rw [if_neg h2] at hc
      rw [hc]
      have hd2 : decide ((b : Int) < (a : Int)) = false := by simp; omega
      have hd2' : decide (b < a) = false := by simp; omega
      clear hc h1 h2
      go_enter Tryz.func74, Tryz.ntmps74
      go_wp2_with fail
      refine (isnan32 w a ha).mono ?_
      rintro _ _ ⟨rfl, rfl⟩
      go_wp2_with fail
      refine (isnan32 w b hb).mono ?_
      rintro _ _ ⟨rfl, rfl⟩
      go_wp2_with fail
      go_ret
      exact ⟨rfl, rfl⟩
set_option maxRecDepth 100000 in
set_option maxHeartbeats 800000 in
theorem find1_any (w : World) (a x b : Nat) (ha : a < 4294967296) (hb : b < 4294967296) : Calls Tryz.prog 76 #[.agg #[.int .u32 (a : Int), .int .u32 (x : Int)], .int .u32 (b : Int)] w fun e w' => e = .returned (.int .i64 (cmp3 a b)) ∧ Below w.heap.size w w' := by
  have hc := fun W => compare32 W a b ha hb
  have Hc := Lib.hid hc
  clear hc
  generalize cmp3 a b = c at *
  go_enter Tryz.func76, Tryz.ntmps76
  go_wp2_with fail
  refine (Hc.out _).mono ?_
  rintro _ _ ⟨rfl, rfl⟩
  go_wp2_with fail
  go_ret
  exact ⟨rfl, balloc _ _⟩
/-- where an end stands among rising ones -/
def FoundAt (l : List GArc) (t : Nat) (i : Nat) (b : Bool) : Prop :=
  i ≤ l.length ∧ (∀ j, (h : j < l.length) → j < i → (l[j]).to.toNat < t) ∧ (∀ j, (h : j < l.length) → i ≤ j → t ≤ (l[j]).to.toNat) ∧ b = decide (∃ h : i < l.length, (l[i]).to.toNat = t)
set_option maxRecDepth 100000 in
set_option maxHeartbeats 1600000 in
theorem bsf_any (w : World) (B : Nat) (v : Value) (l : List GArc) (hl : l.length ≤ 4294967296) (t : Nat) (ht : t < 4294967296) (h : ByA w B v l) (hB : B ≤ w.heap.size) (hs : ∀ i j, (hi : i < j) → (hj : j < l.length) → (l[i]'(by omega)).to.toNat < (l[j]).to.toNat) :
    Calls Tryz.prog 75 #[v, .int .u32 (t : Int), .func (.func 76) #[] #[]] w fun e w' => ∃ i b, e = .returned (.tuple #[.int .i64 (i : Nat), .bool b]) ∧ FoundAt l t i b ∧ Below w.heap.size w w' := by
  obtain ⟨A, c, rfl, hc1, hc2⟩ := h.form
  unfold maxLen at hc2
  have Hs := Lib.hid hs
  clear hs
  go_enter Tryz.func75, Tryz.ntmps75
  go_wp2_with fail
  go_loopw [9, 10] (fun lo hi wr => ∃ a b : Nat, lo = .int .i64 a ∧ hi = .int .i64 b ∧ a ≤ b ∧ b ≤ l.length ∧ (∀ j, (h : j < l.length) → j < a → (l[j]).to.toNat < t) ∧ (∀ j, (h : j < l.length) → b ≤ j → t ≤ (l[j]).to.toNat) ∧ Below w.heap.size w wr) (fun lo hi _ => (intOf hi).toNat - (intOf lo).toNat)
  case atStart => exact ⟨0, l.length, rfl, rfl, by omega, by omega, fun j _ hj => by omega, fun j hj1 hj2 => by omega, Below.refl _ _⟩
  case round =>
    obtain ⟨a, b, rfl, rfl, hab, hbn, hlo, hhi, hbl⟩ := hrel
    have hsz := hbl.size
    have Hlo := Lib.hid hlo
    have Hhi := Lib.hid hhi
    clear hlo hhi
    by_cases hlt : a < b
    · obtain ⟨m, hm⟩ : ∃ m, m = (a + b) / 2 := ⟨_, rfl⟩
      have hmi : ((a : Int) + (b : Int)) / 2 = ((m : Nat) : Int) := by omega
      have hml : m < l.length := by omega
      obtain ⟨ad, rfl, hadb, hx0, hx1⟩ := (h.below (hbl.mono hB)).cells m hml
      have hto := u32_lt (l[m]).to
      have hf := fun W => find1_any W (l[m]).to.toNat (l[m]).wt.toNat t hto ht
      have Hf := Lib.hid hf
      have hcm : cmp3 (l[m]).to.toNat t = if (l[m]).to.toNat < t then -1 else if t < (l[m]).to.toNat then 1 else 0 := rfl
      have hlow : (l[m]).to.toNat < t → ∀ j, (h : j < l.length) → j < m + 1 → (l[j]).to.toNat < t := fun hl j hj hjm => by
        rcases Nat.lt_or_ge j m with h | h
        · have := Hs.out j m h hml; omega
        · obtain rfl : j = m := by omega
          exact hl
      have hhigh : ¬ (l[m]).to.toNat < t → ∀ j, (h : j < l.length) → m ≤ j → t ≤ (l[j]).to.toNat := fun hl j hj hjm => by
        rcases Nat.lt_or_ge m j with h | h
        · have := Hs.out m j h hj; omega
        · obtain rfl : j = m := by omega
          omega
      have Hlow := Lib.hid hlow
      have Hhigh := Lib.hid hhigh
      have Hcm := Lib.hid hcm
      have Hm := Lib.hid hm
      clear hf hlow hhigh hcm hm
      generalize cmp3 (l[m]).to.toNat t = C at *
      generalize (l[m]).wt.toNat = wx at *
      generalize (l[m]).to.toNat = x at *
      by_cases hcase : x < t
      · have hC : C = -1 := by rw [Hcm.out, if_pos hcase]
        subst hC
        have hlow := Hlow.out hcase
        have Hlow2 := Lib.hid hlow
        clear hlow hcase Hcm Hhigh Hlow
        go_wp2_with (go_at_call 76; refine (Hf.out _).mono ?_; rintro _ w1 ⟨rfl, hb1⟩)
        go_roundw
        case rel => exact ⟨m + 1, b, by go_num, rfl, by have := Hm.out; omega, hbn, Hlow2.out, Hhi.out, bstep hbl hb1⟩
        case measure => have := Hm.out; simp [intOf]; omega
      · have hC : C = 0 ∨ C = 1 := by
          rw [Hcm.out, if_neg hcase]
          split
          · right; rfl
          · left; rfl
        have hhigh := Hhigh.out hcase
        have Hhigh2 := Lib.hid hhigh
        clear hhigh hcase Hcm Hhigh Hlow
        rcases hC with rfl | rfl
        all_goals
          go_wp2_with (go_at_call 76; refine (Hf.out _).mono ?_; rintro _ w1 ⟨rfl, hb1⟩)
          go_roundw
          case rel => exact ⟨a, m, rfl, by go_num, by have := Hm.out; omega, by omega, Hlo.out, Hhigh2.out, bstep hbl hb1⟩
          case measure => have := Hm.out; simp [intOf]; omega
    · obtain rfl : b = a := by omega
      by_cases hbl2 : b < l.length
      · obtain ⟨ad, rfl, hadb, hx0, hx1⟩ := (h.below (hbl.mono hB)).cells b hbl2
        have hto := u32_lt (l[b]).to
        have hf := fun W => find1_any W (l[b]).to.toNat (l[b]).wt.toNat t hto ht
        have Hf := Lib.hid hf
        have hcm : cmp3 (l[b]).to.toNat t = if (l[b]).to.toNat < t then -1 else if t < (l[b]).to.toNat then 1 else 0 := rfl
        have hge := Hhi.out b hbl2 (Nat.le_refl _)
        have hfd : FoundAt l t b (decide (∃ h : b < l.length, (l[b]).to.toNat = t)) := ⟨hbn, Hlo.out, Hhi.out, rfl⟩
        rw [if_neg (by omega)] at hcm
        have hdec : decide (∃ h : b < l.length, (l[b]).to.toNat = t) = decide ((l[b]).to.toNat = t) := decide_eq_decide.2 ⟨fun ⟨_, h⟩ => h, fun h => ⟨hbl2, h⟩⟩
        rw [hdec] at hfd
        have Hfd := Lib.hid hfd
        clear hf hdec hfd
        generalize cmp3 (l[b]).to.toNat t = C at *
        generalize (l[b]).wt.toNat = wx at *
        generalize (l[b]).to.toNat = x at *
        by_cases hcase : t < x
        · rw [if_pos hcase] at hcm
          subst hcm
          have hD : decide (x = t) = false := by simp; omega
          rw [hD] at Hfd
          clear hcase hD hge
          go_wp2_with (go_at_call 76; refine (Hf.out _).mono ?_; rintro _ w1 ⟨rfl, hb1⟩)
          go_ret2
          exact ⟨b, _, rfl, Hfd.out, bstep hbl hb1⟩
        · rw [if_neg hcase] at hcm
          subst hcm
          have hD : decide (x = t) = true := by simp; omega
          rw [hD] at Hfd
          clear hcase hD hge
          go_wp2_with (go_at_call 76; refine (Hf.out _).mono ?_; rintro _ w1 ⟨rfl, hb1⟩)
          go_ret2
          exact ⟨b, _, rfl, Hfd.out, bstep hbl hb1⟩
      · have hfd : FoundAt l t b (decide (∃ h : b < l.length, (l[b]).to.toNat = t)) := ⟨hbn, Hlo.out, Hhi.out, rfl⟩
        rw [decide_eq_false (fun ⟨h, _⟩ => hbl2 h)] at hfd
        have Hfd := Lib.hid hfd
        have hd : decide (b < l.length) = false := by simpa using hbl2
        clear hfd
        go_wp2_with fail
        go_ret2
        exact ⟨b, _, rfl, Hfd.out, hbl⟩

theorem rise_lt (l : List GArc) (hr : rise none l = true) : ∀ i j, (hi : i < j) → (hj : j < l.length) → (l[i]'(by omega)).to.toNat < (l[j]).to.toNat := by
  intro i j hi hj
  induction j with
  | zero => omega
  | succ j ih =>
    have h1 := nextOf_le l (j + 1) hj hr
    rw [nextOf_succ l j (by omega)] at h1
    rcases Nat.lt_or_ge i j with h | h
    · have := ih h (by omega); omega
    · obtain rfl : i = j := by omega
      omega
set_option maxRecDepth 100000 in
set_option maxHeartbeats 800000 in
theorem gapsfind_any (w : World) (B : Nat) (v : Value) (l : List GArc) (hl : l.length ≤ 4294967296) (t : Nat) (ht : t < 4294967296) (h : ByA w B v l) (hB : B ≤ w.heap.size) (hr : rise none l = true) :
    Calls Tryz.prog 44 #[v, .int .u32 (t : Int)] w fun e w' => ∃ i b, e = .returned (.tuple #[.int .i64 (i : Nat), .bool b]) ∧ FoundAt l t i b ∧ Below w.heap.size w w' := by
  have hs := bsf_any w B v l hl t ht h hB (rise_lt l hr)
  have Hs := Lib.hid hs
  obtain ⟨A, c, rfl, hc1, hc2⟩ := h.form
  clear hs h
  go_enter Tryz.func44, Tryz.ntmps44
  go_wp2_with fail
  refine Hs.out.mono ?_
  rintro _ w1 ⟨i, b, rfl, hf, hb1⟩
  have Hf := Lib.hid hf
  clear hf
  go_wp2_with fail
  go_ret2
  exact ⟨i, b, rfl, Hf.out, hb1⟩
end Go.Proofs.YtcffeepgfjpcaaaGreat

namespace Go.Proofs.YtcffeepgfjpcaaaGreat
set_option linter.unusedSimpArgs false
set_option linter.unusedVariables false
open Go.RowKit

set_option maxRecDepth 100000 in
set_option maxHeartbeats 800000 in
theorem rfind1_any (w : World) (a x c : Nat) (A : Option Addr) (b : Nat) (ha : a < 4294967296) (hb : b < 4294967296) : Calls Tryz.prog 73 #[.agg #[.int .u32 (a : Int), .slice A x c], .int .u32 (b : Int)] w fun e w' => e = .returned (.int .i64 (cmp3 a b)) ∧ Below w.heap.size w w' := by
  have hc := fun W => compare32 W a b ha hb
  have Hc := Lib.hid hc
  clear hc
  generalize cmp3 a b = cc at *
  go_enter Tryz.func73, Tryz.ntmps73
  go_wp2_with fail
  refine (Hc.out _).mono ?_
  rintro _ _ ⟨rfl, rfl⟩
  go_wp2_with fail
  go_ret
  exact ⟨rfl, balloc _ _⟩
/-- where an end stands among rising ones -/
def RowAt (l : List GRow) (t : Nat) (i : Nat) (b : Bool) : Prop :=
  i ≤ l.length ∧ (∀ j, (h : j < l.length) → j < i → (l[j]).fr.toNat < t) ∧ (∀ j, (h : j < l.length) → i ≤ j → t ≤ (l[j]).fr.toNat) ∧ b = decide (∃ h : i < l.length, (l[i]).fr.toNat = t)
set_option maxRecDepth 100000 in
set_option maxHeartbeats 1600000 in
theorem bsfR_any (w : World) (B : Nat) (v : Value) (l : List GRow) (hl : l.length ≤ 4294967296) (t : Nat) (ht : t < 4294967296) (h : ByRw w B v l) (hB : B ≤ w.heap.size) (hs : ∀ i j, (hi : i < j) → (hj : j < l.length) → (l[i]'(by omega)).fr.toNat < (l[j]).fr.toNat) :
    Calls Tryz.prog 72 #[v, .int .u32 (t : Int), .func (.func 73) #[] #[]] w fun e w' => ∃ i b, e = .returned (.tuple #[.int .i64 (i : Nat), .bool b]) ∧ RowAt l t i b ∧ Below w.heap.size w w' := by
  obtain ⟨A, c, rfl, hc1, hc2⟩ := h.form
  unfold maxLen at hc2
  have Hs := Lib.hid hs
  clear hs
  go_enter Tryz.func72, Tryz.ntmps72
  go_wp2_with fail
  go_loopw [9, 10] (fun lo hi wr => ∃ a b : Nat, lo = .int .i64 a ∧ hi = .int .i64 b ∧ a ≤ b ∧ b ≤ l.length ∧ (∀ j, (h : j < l.length) → j < a → (l[j]).fr.toNat < t) ∧ (∀ j, (h : j < l.length) → b ≤ j → t ≤ (l[j]).fr.toNat) ∧ Below w.heap.size w wr) (fun lo hi _ => (intOf hi).toNat - (intOf lo).toNat)
  case atStart => exact ⟨0, l.length, rfl, rfl, by omega, by omega, fun j _ hj => by omega, fun j hj1 hj2 => by omega, Below.refl _ _⟩
  case round =>
    obtain ⟨a, b, rfl, rfl, hab, hbn, hlo, hhi, hbl⟩ := hrel
    have hsz := hbl.size
    have Hlo := Lib.hid hlo
    have Hhi := Lib.hid hhi
    clear hlo hhi
    by_cases hlt : a < b
    · obtain ⟨m, hm⟩ : ∃ m, m = (a + b) / 2 := ⟨_, rfl⟩
      have hmi : ((a : Int) + (b : Int)) / 2 = ((m : Nat) : Int) := by omega
      have hml : m < l.length := by omega
      obtain ⟨ad, Aa, ca, rfl, hadb, hx0, hx1, -⟩ := (h.below (hbl.mono hB)).cells m hml
      have hto := u32_lt (l[m]).fr
      have hf := fun W => rfind1_any W (l[m]).fr.toNat (l[m]).arcs.length ca Aa t hto ht
      have Hf := Lib.hid hf
      have hcm : cmp3 (l[m]).fr.toNat t = if (l[m]).fr.toNat < t then -1 else if t < (l[m]).fr.toNat then 1 else 0 := rfl
      have hlow : (l[m]).fr.toNat < t → ∀ j, (h : j < l.length) → j < m + 1 → (l[j]).fr.toNat < t := fun hl j hj hjm => by
        rcases Nat.lt_or_ge j m with h | h
        · have := Hs.out j m h hml; omega
        · obtain rfl : j = m := by omega
          exact hl
      have hhigh : ¬ (l[m]).fr.toNat < t → ∀ j, (h : j < l.length) → m ≤ j → t ≤ (l[j]).fr.toNat := fun hl j hj hjm => by
        rcases Nat.lt_or_ge m j with h | h
        · have := Hs.out m j h hj; omega
        · obtain rfl : j = m := by omega
          omega
      have Hlow := Lib.hid hlow
      have Hhigh := Lib.hid hhigh
      have Hcm := Lib.hid hcm
      have Hm := Lib.hid hm
      clear hf hlow hhigh hcm hm
      generalize cmp3 (l[m]).fr.toNat t = C at *
      generalize (l[m]).arcs.length = wx at *
      generalize (l[m]).fr.toNat = x at *
      by_cases hcase : x < t
      · have hC : C = -1 := by rw [Hcm.out, if_pos hcase]
        subst hC
        have hlow := Hlow.out hcase
        have Hlow2 := Lib.hid hlow
        clear hlow hcase Hcm Hhigh Hlow
        go_wp2_with (go_at_call 73; refine (Hf.out _).mono ?_; rintro _ w1 ⟨rfl, hb1⟩)
        go_roundw
        case rel => exact ⟨m + 1, b, by go_num, rfl, by have := Hm.out; omega, hbn, Hlow2.out, Hhi.out, bstep hbl hb1⟩
        case measure => have := Hm.out; simp [intOf]; omega
      · have hC : C = 0 ∨ C = 1 := by
          rw [Hcm.out, if_neg hcase]
          split
          · right; rfl
          · left; rfl
        have hhigh := Hhigh.out hcase
        have Hhigh2 := Lib.hid hhigh
        clear hhigh hcase Hcm Hhigh Hlow
        rcases hC with rfl | rfl
        all_goals
          go_wp2_with (go_at_call 73; refine (Hf.out _).mono ?_; rintro _ w1 ⟨rfl, hb1⟩)
          go_roundw
          case rel => exact ⟨a, m, rfl, by go_num, by have := Hm.out; omega, by omega, Hlo.out, Hhigh2.out, bstep hbl hb1⟩
          case measure => have := Hm.out; simp [intOf]; omega
    · obtain rfl : b = a := by omega
      by_cases hbl2 : b < l.length
      · obtain ⟨ad, Aa, ca, rfl, hadb, hx0, hx1, -⟩ := (h.below (hbl.mono hB)).cells b hbl2
        have hto := u32_lt (l[b]).fr
        have hf := fun W => rfind1_any W (l[b]).fr.toNat (l[b]).arcs.length ca Aa t hto ht
        have Hf := Lib.hid hf
        have hcm : cmp3 (l[b]).fr.toNat t = if (l[b]).fr.toNat < t then -1 else if t < (l[b]).fr.toNat then 1 else 0 := rfl
        have hge := Hhi.out b hbl2 (Nat.le_refl _)
        have hfd : RowAt l t b (decide (∃ h : b < l.length, (l[b]).fr.toNat = t)) := ⟨hbn, Hlo.out, Hhi.out, rfl⟩
        rw [if_neg (by omega)] at hcm
        have hdec : decide (∃ h : b < l.length, (l[b]).fr.toNat = t) = decide ((l[b]).fr.toNat = t) := decide_eq_decide.2 ⟨fun ⟨_, h⟩ => h, fun h => ⟨hbl2, h⟩⟩
        rw [hdec] at hfd
        have Hfd := Lib.hid hfd
        clear hf hdec hfd
        generalize cmp3 (l[b]).fr.toNat t = C at *
        generalize (l[b]).arcs.length = wx at *
        generalize (l[b]).fr.toNat = x at *
        by_cases hcase : t < x
        · rw [if_pos hcase] at hcm
          subst hcm
          have hD : decide (x = t) = false := by simp; omega
          rw [hD] at Hfd
          clear hcase hD hge
          go_wp2_with (go_at_call 73; refine (Hf.out _).mono ?_; rintro _ w1 ⟨rfl, hb1⟩)
          go_ret2
          exact ⟨b, _, rfl, Hfd.out, bstep hbl hb1⟩
        · rw [if_neg hcase] at hcm
          subst hcm
          have hD : decide (x = t) = true := by simp; omega
          rw [hD] at Hfd
          clear hcase hD hge
          go_wp2_with (go_at_call 73; refine (Hf.out _).mono ?_; rintro _ w1 ⟨rfl, hb1⟩)
          go_ret2
          exact ⟨b, _, rfl, Hfd.out, bstep hbl hb1⟩
      · have hfd : RowAt l t b (decide (∃ h : b < l.length, (l[b]).fr.toNat = t)) := ⟨hbn, Hlo.out, Hhi.out, rfl⟩
        rw [decide_eq_false (fun ⟨h, _⟩ => hbl2 h)] at hfd
        have Hfd := Lib.hid hfd
        have hd : decide (b < l.length) = false := by simpa using hbl2
        clear hfd
        go_wp2_with fail
        go_ret2
        exact ⟨b, _, rfl, Hfd.out, hbl⟩
/-- a graph in memory: its rows, in blocks below B -/
def GraphAt (w : World) (B g : Nat) (R : List GRow) : Prop := ∃ v, BoxAt 78 w g [v] ∧ g < B ∧ ByRw w B v R
theorem GraphAt.below {w w' : World} {B g : Nat} {R : List GRow} (h : GraphAt w B g R) (hb : Below B w w') : GraphAt w' B g R := by
  obtain ⟨v, h1, h2, h3⟩ := h
  exact ⟨v, h1.below h2 hb, h2, h3.below hb⟩
theorem GraphAt.more {w : World} {B B' g : Nat} {R : List GRow} (h : GraphAt w B g R) (hB : B ≤ B') : GraphAt w B' g R := by
  obtain ⟨v, h1, h2, h3⟩ := h
  exact ⟨v, h1, by omega, h3.more hB⟩
theorem pair_lt (R : List GRow) (h : R.Pairwise fun a b => a.fr.toNat < b.fr.toNat) : ∀ i j, (hi : i < j) → (hj : j < R.length) → (R[i]'(by omega)).fr.toNat < (R[j]).fr.toNat := fun i j hi hj => List.pairwise_iff_getElem.1 h i j (by omega) hj hi
theorem arcsR_at (R : List GRow) (h : R.Pairwise fun a b => a.fr.toNat < b.fr.toNat) (i : Nat) (hi : i < R.length) : arcsR R (R[i]).fr = (R[i]).arcs := by
  induction R generalizing i with
  | nil => simp at hi
  | cons r R ih =>
    rw [List.pairwise_cons] at h
    unfold arcsR
    cases i with
    | zero => rw [List.getElem_cons_zero, List.find?_cons_of_pos (by simp)]
    | succ i =>
      have hi2 : i < R.length := by simpa using hi
      have := h.1 R[i] (List.getElem_mem hi2)
      rw [List.getElem_cons_succ, List.find?_cons_of_neg (by simp; intro e; rw [e] at this; omega)]
      exact ih h.2 i hi2
theorem arcsR_no (R : List GRow) (v : UInt32) (h : ∀ j, (hj : j < R.length) → (R[j]).fr ≠ v) : arcsR R v = [] := by
  unfold arcsR
  have : R.find? (fun r => r.fr == v) = none := List.find?_eq_none.2 fun r hr => by
    obtain ⟨j, hj, rfl⟩ := List.mem_iff_getElem.1 hr
    simpa using h j hj
  rw [this]
set_option maxRecDepth 100000 in
set_option maxHeartbeats 1600000 in
theorem find_any22 (w : World) (B g : Nat) (R : List GRow) (v : UInt32) (h : GraphAt w B g R) (hB : B ≤ w.heap.size) (hl : R.length ≤ 1048576) (hup : R.Pairwise fun a b => a.fr.toNat < b.fr.toNat) :
    Calls Tryz.prog 42 #[.pointer (some ⟨g, 0, none⟩), .int .u32 (v.toNat : Int)] w fun e w' => ∃ va, e = .returned va ∧ ByA w' B va (arcsR R v) ∧ Below w.heap.size w w' := by
  obtain ⟨vr, h1, h2, h3⟩ := h
  obtain ⟨A, c, rfl, hc1, hc2⟩ := h3.form
  unfold maxLen at hc2
  have hs := bsfR_any w B _ R (by omega) v.toNat (u32_lt v) h3 hB (pair_lt R hup)
  have Hs := Lib.hid hs
  have H3 := Lib.hid h3
  have H1 := Lib.hid h1
  have Hup := Lib.hid hup
  have hc0 := h1.cell 0 _ rfl
  clear hs h1 h3 hup
  go_enter Tryz.func42, Tryz.ntmps42
  go_wp2_with fail
  refine Hs.out.mono ?_
  rintro _ w1 ⟨i, b, rfl, hf, hb1⟩
  obtain ⟨f1, f2, f3, f4⟩ := hf
  have hc1' := (H1.out.bl_ hb1).cell 0 _ rfl
  have HX := Lib.hid hb1
  clear hb1 hc0
  by_cases hi : i < R.length
  · obtain ⟨ad, Aa, ca, rfl, hab, hx0, hx1, hya⟩ := (H3.out.below (HX.out.mono hB)).cells i hi
    have Hya := Lib.hid hya
    by_cases he : (R[i]).fr.toNat = v.toNat
    · have hb : b = true := by rw [f4]; exact decide_eq_true ⟨hi, he⟩
      have hv : v = (R[i]).fr := (UInt32.toNat_inj.1 he).symm
      have ha := arcsR_at R Hup.out i hi
      rw [← hv] at ha
      have Ha := Lib.hid ha
      clear f1 f2 f3 f4 hya he hv ha
      subst hb
      go_wp2_with fail
      go_ret
      refine ⟨_, rfl, ?_, HX.out⟩
      rw [Ha.out]
      exact Hya.out
    · have hb : b = false := by rw [f4]; exact decide_eq_false fun ⟨_, h⟩ => he h
      have ha := arcsR_no R v fun j hj e => by
        rcases Nat.lt_or_ge j i with h | h
        · have := f2 j hj h; rw [e] at this; omega
        · rcases Nat.lt_or_ge i j with h' | h'
          · have := pair_lt R Hup.out i j h' hj
            have := f3 i hi (Nat.le_refl _)
            rw [e] at *
            omega
          · obtain rfl : j = i := by omega
            exact he (by rw [e])
      have Ha := Lib.hid ha
      clear f1 f2 f3 f4 hya he ha
      subst hb
      go_wp2_with fail
      go_ret
      refine ⟨_, rfl, ?_, HX.out⟩
      rw [Ha.out]
      exact RowOn.nil_
  · have hb : b = false := by rw [f4]; exact decide_eq_false fun ⟨h, _⟩ => hi h
    have ha := arcsR_no R v fun j hj e => by
      have := f2 j hj (by omega)
      rw [e] at this
      omega
    have Ha := Lib.hid ha
    clear f1 f2 f3 f4 ha
    subst hb
    go_wp2_with fail
    go_ret
    refine ⟨_, rfl, ?_, HX.out⟩
    rw [Ha.out]
    exact RowOn.nil_
set_option maxRecDepth 100000 in
set_option maxHeartbeats 800000 in
theorem garcs_any (w : World) (B g : Nat) (R : List GRow) (v : UInt32) (h : GraphAt w B g R) (hB : B ≤ w.heap.size) (hl : R.length ≤ 1048576) (hup : R.Pairwise fun a b => a.fr.toNat < b.fr.toNat) (hal : (arcsR R v).length ≤ 1048576) :
    Calls Tryz.prog 16 #[.pointer (some ⟨g, 0, none⟩), .int .u32 (v.toNat : Int)] w fun e w' => ∃ va, e = .returned va ∧ OwnF 48 cArc w' w.heap.size va (arcsR R v) ∧ Below w.heap.size w w' := by
  have hf := find_any22 w B g R v h hB hl hup
  have Hf := Lib.hid hf
  clear hf h hup
  generalize arcsR R v = l at *
  go_enter Tryz.func16, Tryz.ntmps16
  go_wp2_with fail
  refine Hf.out.mono ?_
  rintro _ w1 ⟨va, rfl, hva, hb1⟩
  have hcl := cloneA w1 va l (hva.more (Nat.le_trans hB hb1.size)) (by omega)
  have Hcl := Lib.hid hcl
  have Hb1 := Lib.hid hb1
  clear hcl hva hb1
  go_wp2_with fail
  refine Hcl.out.mono ?_
  rintro _ w2 ⟨v2, rfl, ho, hb2⟩
  have hs := Hb1.out.size
  go_wp2_with fail
  go_ret
  exact ⟨_, rfl, ho.more hs, bstep Hb1.out hb2⟩
set_option maxRecDepth 100000 in
set_option maxHeartbeats 800000 in
theorem gnear_any (w : World) (B g : Nat) (R : List GRow) (v t : UInt32) (h : GraphAt w B g R) (hB : B ≤ w.heap.size) (hl : R.length ≤ 1048576) (hup : R.Pairwise fun a b => a.fr.toNat < b.fr.toNat) (hal : (arcsR R v).length ≤ 1048576) (hr : rise none (arcsR R v) = true) :
    Calls Tryz.prog 18 #[.pointer (some ⟨g, 0, none⟩), .int .u32 (v.toNat : Int), .int .u32 (t.toNat : Int)] w fun e w' => ∃ i b, e = .returned (.bool b) ∧ FoundAt (arcsR R v) t.toNat i b ∧ Below w.heap.size w w' := by
  have hf := find_any22 w B g R v h hB hl hup
  have Hf := Lib.hid hf
  clear hf h hup
  generalize arcsR R v = l at *
  have Hr := Lib.hid hr
  clear hr
  go_enter Tryz.func18, Tryz.ntmps18
  go_wp2_with fail
  refine Hf.out.mono ?_
  rintro _ w1 ⟨va, rfl, hva, hb1⟩
  have hcl := gapsfind_any w1 B va l (by omega) t.toNat (u32_lt t) hva (Nat.le_trans hB hb1.size) Hr.out
  have Hcl := Lib.hid hcl
  have Hb1 := Lib.hid hb1
  clear hcl hva hb1
  go_wp2_with fail
  refine Hcl.out.mono ?_
  rintro _ w2 ⟨i, b, rfl, hfd, hb2⟩
  have Hfd := Lib.hid hfd
  have Hb2 := Lib.hid (bstep Hb1.out hb2)
  clear hfd hb2
  go_wp2_with fail
  go_ret
  exact ⟨i, b, rfl, Hfd.out, Hb2.out⟩
end Go.Proofs.YtcffeepgfjpcaaaGreat

namespace Go.Proofs.YtcffeepgfjpcaaaGreat
set_option linter.unusedSimpArgs false
set_option linter.unusedVariables false
open Go.RowKit Go.Shelf

def cEdge : Cdc GEdge := Cdc.flat 3 edgeC (fun _ => True) (fun _ => rfl) (fun x u hu => by simp [edgeC] at hu; rcases hu with rfl | rfl | rfl <;> rfl)
abbrev ByE (w : World) (B : Nat) (v : Value) (l : List GEdge) : Prop := RowOn cEdge w (fun k => k < B) (fun _ => True) v l
theorem ByE.below {w w' : World} {B : Nat} {v : Value} {l : List GEdge} (h : ByE w B v l) (hb : Below B w w') : ByE w' B v l := by
  obtain ⟨A, c, h1, h2, h3, h4⟩ := h
  refine ⟨A, c, h1, h2, h3, fun hn => ?_⟩
  obtain ⟨ad, e, hO, hc⟩ := h4 hn
  refine ⟨ad, e, hO, fun i x hx => ?_⟩
  obtain ⟨cs, ha, hcs⟩ := hc i x hx
  exact ⟨cs, ha, fun j u hu => (hb.cell (p := ad.add (i * cEdge.n + j)) (by rw [add_block]; exact hO)).trans (hcs j u hu)⟩
theorem ByE.cells {w : World} {B : Nat} {A : Option Addr} {n c : Nat} {l : List GEdge} (h : ByE w B (.slice A n c) l) (k : Nat) (hk : k < l.length) :
    ∃ ad, A = some ad ∧ ad.block < B ∧ ∀ (j : Nat) (v : Value), (edgeC l[k])[j]? = some v → w.cell? ((ad.add (k * 3)).add j) = some v := by
  obtain ⟨ad, cs, e, hb, ⟨hcs, _⟩, hc⟩ := h.at_ k l[k] (List.getElem?_eq_getElem hk)
  refine ⟨ad, e, hb, fun j v hv => ?_⟩
  rw [add_add]
  exact hc j v (by rw [hcs]; exact hv)
/-- a key in one cell, its bytes in a block of S -/
def cKey : Cdc GEdge := (Cdc.row c8).map keyL
theorem infoKey : (Tryz.prog.info? 40).map (fun i => (i.zero, i.size, i.bytes)) = some (some (.slice none 0 0), 1, 24) := by kernel_rfl

theorem ksort_all (w : World) (base : Nat) (K : List Nat) (v : Value) (l : List GEdge) (hl20 : l.length ≤ 1048576) (h : OwnR 40 cKey w base (fun k => k ∈ K) v l) (hb : base ≤ w.heap.size) :
    Calls Tryz.prog 32 #[v, .func (.func 33) #[] #[]] w fun e w' => e = .returned (.tuple #[]) ∧
      ∃ (A : Option Addr) (c : Nat) (vals' : List Value) (L' : List GEdge), ∃ hl : vals'.length = L'.length, v = .slice A vals'.length c ∧ L'.Perm l ∧ L'.Pairwise (fun a b => a.num ≤ b.num) ∧
        (∀ i, (h : i < vals'.length) → ∃ ad, A = some ad ∧ ad.block < w'.heap.size ∧ w'.cell? (ad.add i) = some vals'[i]) ∧
        (∀ i, (h : i < vals'.length) → By w' w'.heap.size vals'[i] (keyL (L'[i]'(by omega)))) ∧ Below base w w' := by
  have hbl := h.blk
  obtain ⟨css, hcl, ⟨hz, h2⟩, h3, h4⟩ := h
  rcases h2 with ⟨rfl, hn⟩ | ⟨g, cap, cur, rfl, hg1, hg2, hg3, hg4, hg5, hg6⟩
  · have : l = [] := List.eq_nil_of_length_eq_zero hn
    subst this
    refine (ksort_none w none 0 _).mono ?_
    rintro e w' ⟨rfl, rfl⟩
    exact ⟨rfl, none, 0, [], [], rfl, rfl, List.Perm.refl _, List.Pairwise.nil, fun i h => by simp at h, fun i h => by simp at h, Below.refl _ _⟩
  · rcases Nat.eq_zero_or_pos l.length with h0 | h0
    · have : l = [] := List.eq_nil_of_length_eq_zero h0
      subst this
      refine (ksort_none w _ cap _).mono ?_
      rintro e w' ⟨rfl, rfl⟩
      exact ⟨rfl, _, cap, [], [], rfl, rfl, List.Perm.refl _, List.Pairwise.nil, fun i h => by simp at h, fun i h => by simp at h, Below.refl _ _⟩
    · have hcsl : ∀ cs ∈ css, cs.length = 1 := fun cs hcs => by
        obtain ⟨i, hi, rfl⟩ := List.mem_iff_getElem.1 hcs
        exact cKey.len (h3 i _ (l[i]'(by omega)) (List.getElem?_eq_getElem hi) (List.getElem?_eq_getElem (by omega)))
      have hvl : css.flatten.length = l.length := by rw [flat_len 1 css hcsl]; omega
      have hvg : ∀ i, (h : i < css.flatten.length) → ∃ v, css.flatten[i] = v ∧ RowOn c8 w (fun k => k ∈ K) (fun k => k ∈ K) v (keyL (l[i]'(by omega))) := fun i h => by
        have hi : i < css.length := by omega
        obtain ⟨v, hv, hr⟩ := h3 i css[i] (l[i]'(by omega)) (List.getElem?_eq_getElem hi) (List.getElem?_eq_getElem (by omega))
        refine ⟨v, ?_, hr⟩
        have := flat_get 1 css hcsl i css[i] 0 (List.getElem?_eq_getElem hi) (by omega)
        rw [hv, Nat.mul_one, Nat.add_zero, List.getElem?_eq_getElem h] at this
        injection this
      have hgl : g < w.heap.size := (hbl g rfl).2
      have hcu : ∀ i, (h : i < css.flatten.length) → w.cell? ⟨g, i, none⟩ = some css.flatten[i] ∧ w.frozen? ⟨g, i, none⟩ = false := fun i h => by
        have e : cur.toList[i]? = some css.flatten[i] := by
          have h5 : i < (cur.toList.take (l.length * cKey.n)).length := by rw [hg6]; exact h
          have h6 : (cur.toList.take (l.length * cKey.n))[i]? = some css.flatten[i] := by
            rw [hg6]; exact List.getElem?_eq_getElem h
          rw [List.getElem?_take] at h6
          split at h6
          · exact h6
          · cases h6
        have e2 : cur[i]? = some css.flatten[i] := by simpa using e
        refine ⟨?_, ?_⟩
        · simp [World.cell?, hg2, e2]
        · simp [World.frozen?, hg2]
      have hks := ksort_any w g cap css.flatten l hvl h0 hl20 hgl hcu (fun u hu => by
        obtain ⟨i, hi, rfl⟩ := List.mem_iff_getElem.1 hu
        obtain ⟨v, hv, hr⟩ := hvg i hi
        obtain ⟨A, c, rfl, _⟩ := hr.form
        rw [hv]
        rfl) (fun k => k ∈ K) (fun k hk => ⟨(h4 k hk).1, fun e => (h4 k hk).2 (by rw [e]; rfl)⟩) (fun i h => by
        obtain ⟨v, hv, hr⟩ := hvg i h
        rw [hv]
        exact hr)
      rw [hvl] at hks
      refine hks.mono ?_
      rintro e w' ⟨rfl, vals', L', hl, hp, hs, hc, hk, hch⟩
      have hlp := hp.length_eq
      refine ⟨rfl, some ⟨g, 0, none⟩, cap, vals', L', hl, by rw [hl, hlp], hp, hs, fun i h => ⟨⟨g, 0, none⟩, rfl, Nat.lt_of_lt_of_le hgl hch.size, ?_⟩, fun i h => RowOn.toBy ((hk i h).mono (fun k hk => Nat.lt_of_lt_of_le (h4 k hk).1 hch.size) (fun k hk => hk)), hch.below hb fun k hk => by subst hk; exact (hbl k rfl).1⟩
      have hadd : (⟨g, 0, none⟩ : Addr).add i = ⟨g, i, none⟩ := by unfold Addr.add; split <;> simp_all
      rw [hadd]
      exact hc i h

theorem Ow.rowIn {w : World} {base : Nat} {v : Value} {l : List UInt8} (h : Ow w base v l) (O S : Nat → Prop) (hO : ∀ k, v.ownBlock = some k → O k) : RowOn c8 w O S v l := by
  obtain ⟨A, c, rfl, h1, h2, hrd⟩ := h.by_
  refine ⟨A, c, rfl, h1, h2, fun hn => ?_⟩
  obtain ⟨ad, rfl, _, hc⟩ := hrd.2 hn
  refine ⟨ad, rfl, hO _ rfl, fun i x hx => ⟨[b8 x], ⟨rfl, trivial⟩, fun j u hu => ?_⟩⟩
  match j, hu with
  | 0, hu =>
    injection hu with hu
    subst hu
    simp only [c8, Cdc.flat, Nat.mul_one, Nat.add_zero]
    refine hc i _ ?_
    simp [b8s, hx]
  | j + 1, hu => simp at hu
set_option maxRecDepth 100000 in
set_option maxHeartbeats 3200000 in
theorem gof_any (w : World) (v : Value) (l : List GEdge) (h : ByE w w.heap.size v l) (hl20 : l.length ≤ 1048576) :
    Calls Tryz.prog 10 #[v] w fun e w' => Below w.heap.size w w' ∧
      (((∃ x ∈ l, x.wt = 0) ∧ e = .returned (.tuple #[.pointer none, .int .i64 9])) ∨ ((∀ x ∈ l, x.wt ≠ 0) ∧ ∃ L, L.Perm l ∧ L.Pairwise (fun a b => a.num ≤ b.num) ∧
        ((mrow L ⟨0, []⟩ [] = none ∧ e = .returned (.tuple #[.pointer none, .int .i64 10])) ∨ ∃ R g, mrow L ⟨0, []⟩ [] = some R ∧ e = .returned (.tuple #[.pointer (some ⟨g, 0, none⟩), .int .i64 0]) ∧ w.heap.size ≤ g ∧ GraphAt w' w'.heap.size g R))) := by
  obtain ⟨A, c, rfl, hc1, hc2⟩ := h.form
  unfold maxLen at hc2
  have Hby := Lib.hid h
  clear h
  go_enter Tryz.func10, Tryz.ntmps10
  go_wp2_with fail
  go_loopw [4, 11] (fun vk i wr => ∃ k : Nat, k ≤ l.length ∧ i = .int .i64 k ∧ ∃ K : List Nat, OwnR 40 cKey wr w.heap.size (fun q => q ∈ K) vk (l.take k) ∧ Below w.heap.size w wr ∧ ∀ x ∈ l.take k, x.wt ≠ 0) (fun _ i _ => l.length - (intOf i).toNat)
  case atStart => exact ⟨0, by omega, rfl, [], OwnR.nil_ (fun _ h => by simp at h), Below.refl _ _, fun x h => by simp at h⟩
  case round =>
    obtain ⟨k, hk, rfl, K, ho, hbl, hz⟩ := hrel
    by_cases hlt : k < l.length
    · obtain ⟨ad, rfl, hab, hx⟩ := (Hby.out.below hbl).cells k hlt
      obtain ⟨x, hxq⟩ : ∃ x, x = l[k] := ⟨_, rfl⟩
      rw [← hxq] at hx
      have htk : l.take (k + 1) = l.take k ++ [x] := by rw [hxq]; exact List.take_succ_eq_append_getElem hlt
      have hxm : x ∈ l := by rw [hxq]; exact List.getElem_mem hlt
      obtain ⟨w1, hw1⟩ : ∃ w1, w1 = wr.alloc (.cells (edgeC x).toArray 55) := ⟨_, rfl⟩
      have hb1 : Below wr.heap.size wr w1 := by rw [hw1]; exact balloc _ _
      have hX1 : BoxAt 55 w1 wr.heap.size (edgeC x) := by rw [hw1]; exact BoxAt.new_ _ _ _
      have hz1 : w1.heap.size = wr.heap.size + 1 := by rw [hw1]; simp
      have hc2 := hX1.cell 2 _ rfl
      have hky := key_any w1 x
      unfold edgeV at hky
      have Hky := Lib.hid hky
      have Hx := Lib.hid hx
      have Hw1 := Lib.hid hw1
      have HX1 := Lib.hid hX1
      have Hb1 := Lib.hid hb1
      have Ho := Lib.hid ho
      have Hbl := Lib.hid hbl
      have Hz := Lib.hid hz
      have Htk := Lib.hid htk
      have Hxm := Lib.hid hxm
      have Hz1 := Lib.hid hz1
      have Hone : Hid (∀ u ∈ edgeC x, u.oneCell' = true) := Lib.hid fun u hu => by
        simp [edgeC] at hu
        rcases hu with rfl | rfl | rfl <;> rfl
      have hbs := hbl.size
      clear hky hx hw1 hX1 hb1 ho hbl hz htk hxm hxq hz1
      by_cases hw0 : x.wt = 0
      · have hwt : (((x.wt.toNat : Nat) : Int) == 0) = true := by rw [hw0]; rfl
        have Hw0 := Lib.hid hw0
        clear hw0
        go_wp2_with (first
          | ((with_reducible refine wpList_load_agg ?_ 55 (.tmp 13) ?_ (ad.add (k * 3)) ?_ (edgeC x) Hx.out Tryz.underlying55 ?_ ?_ ?_); exact rfl; exact rfl; exact rfl; exact rfl; exact infoEdge3)
          | ((with_reducible refine wpList_alloc_z ?_ 55 ?_ infoEdge zeroEc ?_ ?_); exact rfl; exact rfl; exact rfl)
          | ((with_reducible refine wpList_store_new ?_ 55 (.tmp 6) (.tmp 14) ?_ zeroEc (edgeC x) ?_ ?_ ?_ ?_ Hone.out ?_); exact rfl; exact rfl; exact rfl; exact rfl; exact infoEdge3; exact rfl; rw [← Hw1.out]))
        go_ret2
        exact ⟨bstepB Hbl.out Hb1.out hbs, .inl ⟨⟨x, Hxm.out, Hw0.out⟩, rfl⟩⟩
      · have hwt : (((x.wt.toNat : Nat) : Int) == 0) = false := beq_eq_false_iff_ne.2 fun e => hw0 (UInt32.toNat_inj.1 (by simpa using e))
        have Hw0 := Lib.hid hw0
        clear hw0
        go_wp2_with (first
          | ((with_reducible refine wpList_load_agg ?_ 55 (.tmp 13) ?_ (ad.add (k * 3)) ?_ (edgeC x) Hx.out Tryz.underlying55 ?_ ?_ ?_); exact rfl; exact rfl; exact rfl; exact rfl; exact infoEdge3)
          | ((with_reducible refine wpList_alloc_z ?_ 55 ?_ infoEdge zeroEc ?_ ?_); exact rfl; exact rfl; exact rfl)
          | ((with_reducible refine wpList_store_new ?_ 55 (.tmp 6) (.tmp 14) ?_ zeroEc (edgeC x) ?_ ?_ ?_ ?_ Hone.out ?_); exact rfl; exact rfl; exact rfl; exact rfl; exact infoEdge3; exact rfl; rw [← Hw1.out])
          | ((with_reducible refine wpList_load_agg ?_ 55 (.tmp 6) ?_ ⟨wr.heap.size, 0, none⟩ ?_ (edgeC x) HX1.out.cells Tryz.underlying55 ?_ ?_ ?_); exact rfl; exact rfl; exact rfl; exact rfl; exact infoEdge3))
        refine Hky.out.mono ?_
        rintro _ w2 ⟨vk, rfl, hov, hb2⟩
        have hz1 := Hz1.out
        have hb12 : Below wr.heap.size wr w2 := bstep Hb1.out hb2
        have hs2 := hb12.size
        have hs12 := hb2.size
        obtain ⟨gk, ck, rfl, hgk1, hgk2⟩ : ∃ gk ck, vk = .slice (some ⟨gk, 0, none⟩) 12 ck ∧ w1.heap.size ≤ gk ∧ gk < w2.heap.size := by
          have hlt2 := World.ownsRow.lt hov
          obtain ⟨_, h2⟩ := hov
          rcases h2 with ⟨_, hn⟩ | ⟨g, cap, cur, rfl, h3, h4, _⟩
          · rw [keyL_length] at hn; cases hn
          · exact ⟨g, cap, by rw [keyL_length], h3, (Array.getElem?_eq_some_iff.1 h4).1⟩
        have hrow : RowOn c8 w2 (fun q => q ∈ gk :: K) (fun q => q ∈ gk :: K) (.slice (some ⟨gk, 0, none⟩) 12 ck) (keyL x) := hov.rowIn _ _ fun q hq => by
          injection hq with hq
          subst hq
          exact List.mem_cons_self
        have ho2 := (OwnR.below_ Ho.out hb12).widen (S' := fun q => q ∈ gk :: K) (fun q hq => List.mem_cons_of_mem _ hq) (fun q hq => by
          rcases List.mem_cons.1 hq with rfl | hq
          · exact ⟨hgk2, fun e => by have := (Ho.out.blk q e).2; omega⟩
          · obtain ⟨_, _, _, _, h4⟩ := Ho.out
            exact ⟨Nat.lt_of_lt_of_le (h4 q hq).1 hs2, (h4 q hq).2⟩)
        obtain ⟨Av, cv, rfl, _⟩ := ho2.form'
        have hlk : (l.take k).length = k := by rw [List.length_take]; omega
        rw [hlk] at ho2
        have Hb12 := Lib.hid hb12
        have Hrow := Lib.hid hrow
        have Ho2 := Lib.hid ho2
        clear hov hb2 hb12 hrow ho2 Hky Ho
        go_wp2_with (
          (with_reducible refine wpList_app1R (C := cKey) ?_ (.tmp 18) (.tmp 21) 70 ?_ Tryz.underlying70 infoKey ?_ ?_ ?_ [.slice (some ⟨gk, 0, none⟩) 12 ck] Ho2.out (y := x) ?_ ?_ ?_ ?_ ?_ ?_); exact rfl; exact rfl; exact (by kernel_rfl); exact (by decide); exact (by decide); exact ⟨_, rfl, Hrow.out⟩; exact rfl; exact rfl; exact (by rw [hlk]; omega); exact (by omega)
          intro v6 w6 ho6 hx6
          have Ho6 := Lib.hid ho6
          have Hx6 := Lib.hid hx6
          clear ho6 hx6)
        go_roundw
        case rel =>
          refine ⟨k + 1, by omega, by go_num, gk :: K, by rw [Htk.out]; exact Ho6.out, (Hbl.out.trans (Hb12.out.mono hbs)).trans (Hx6.out.below (by omega) (fun q hq => (Ho2.out.blk q hq).1)), fun y hy => ?_⟩
          rw [Htk.out] at hy
          rcases List.mem_append.1 hy with h | h
          · exact Hz.out y h
          · rw [List.mem_singleton] at h
            rw [h]
            exact Hw0.out
        case measure => simp [intOf]; omega
    · have e : k = l.length := by omega
      subst e
      rw [List.take_length] at ho hz
      have hks := ksort_all wr w.heap.size K _ l hl20 ho hbl.size
      have hbs := hbl.size
      obtain ⟨Av, cv, rfl, _⟩ := ho.form'
      have Hks := Lib.hid hks
      have Hz := Lib.hid hz
      have Hbl := Lib.hid hbl
      clear ho hks hz hbl
      go_wp2_with fail
      refine Hks.out.mono ?_
      rintro _ w2 ⟨rfl, A2, c2, vals, L, hl, he, hp, hs, hc, hk2, hb2⟩
      injection he with e1 e2 e3
      subst e1; subst e3
      have hpl := hp.length_eq
      have hwL : ∀ x ∈ L, x.wt ≠ 0 := fun x hx => Hz.out x (hp.mem_iff.1 hx)
      have hmr := mrows_any w2 L vals Av cv hl (by omega) hc hk2 hs hwL
      rw [hl, hpl] at hmr
      have Hmr := Lib.hid hmr
      have Hp := Lib.hid hp
      have Hs := Lib.hid hs
      have Hb2 := Lib.hid (Hbl.out.trans hb2)
      have hs2 := hb2.size
      clear hmr hp hs hc hk2 hb2 hl hpl e2 hwL Hks
      go_wp2_with fail
      refine Hmr.out.mono ?_
      rintro _ w3 ⟨v3, er, rfl, hb3, (⟨R, hm, rfl, hR⟩ | ⟨hm, rfl, rfl⟩)⟩
      · obtain ⟨A3, c3, rfl, _⟩ := hR.form
        have HR := Lib.hid hR
        have Hb3 := Lib.hid hb3
        have Hm := Lib.hid hm
        have hs3 := hb3.size
        clear hR hb3 hm
        go_wp2_with fail
        go_ret2
        have hba := balloc w3 (.cells #[.slice A3 R.length c3] 78)
        have hb23 := Hb2.out.trans (Hb3.out.mono (by have := Hb2.out.size; omega))
        refine ⟨hb23.trans (hba.mono (by have := hb23.size; omega)), .inr ⟨Hz.out, L, Hp.out, Hs.out, .inr ⟨R, w3.heap.size, Hm.out, rfl, by omega, _, BoxAt.new_ 78 w3 [.slice A3 R.length c3], by simp, ?_⟩⟩⟩
        exact (ByRw.below (RowsF.byR HR.out) hba).more (by simp)
      · have Hb3 := Lib.hid hb3
        have Hm := Lib.hid hm
        clear hb3 hm
        go_wp2_with fail
        go_ret2
        exact ⟨Hb2.out.trans (Hb3.out.mono (by have := Hb2.out.size; omega)), .inr ⟨Hz.out, L, Hp.out, Hs.out, .inl ⟨Hm.out, rfl⟩⟩⟩
end Go.Proofs.YtcffeepgfjpcaaaGreat

namespace Go.Proofs.YtcffeepgfjpcaaaGreat
set_option linter.unusedSimpArgs false
set_option linter.unusedVariables false
open Go.RowKit

theorem numsL_c (x : List UInt8) (t : List (List UInt8)) (i : Nat) (s : List Nat) (hi : i ≠ 2) :
    numsL (x :: t) i s = if (numW x (limL.getD i 0)).2 ≠ 0 then (s, (numW x (limL.getD i 0)).2) else numsL t (i + 1) (s.set i (numW x (limL.getD i 0)).1) := by
  rw [numsL, if_neg (fun h => hi h.2.1)]
theorem numsL_2 (z : List UInt8) (s : List Nat) : numsL [z] 2 s = if (numW z 2147483647).2 ≠ 0 then (s, (numW z 2147483647).2) else if (numW z 2147483647).1 = 0 then (s, 9) else (s.set 2 (numW z 2147483647).1, 0) := by
  have e : limL.getD 2 0 = 2147483647 := rfl
  unfold numsL
  rw [e]
  by_cases h1 : (numW z 2147483647).2 = 0
  · by_cases h2 : (numW z 2147483647).1 = 0
    · simp [h1, h2]
    · simp [h1, h2, numsL]
  · simp [h1]
theorem oneW_nums (ws : List (List UInt8)) (hn : ws.length = 2 ∨ ws.length = 3) (h35 : ¬ (ws.getD 0 []).getD 0 0 = 35) :
    ∃ a b c : Nat, (numsL ws 0 [0, 0, 1]).1 = [a, b, c] ∧ a ≤ 4294967295 ∧ b ≤ 4294967295 ∧ c ≤ 4294967295 ∧
      oneW ws = if (numsL ws 0 [0, 0, 1]).2 ≠ 0 then (⟨0, 0, 0⟩, false, (numsL ws 0 [0, 0, 1]).2) else (⟨UInt32.ofNat a, UInt32.ofNat b, UInt32.ofNat c⟩, true, 0) := by
  have l0 : limL.getD 0 0 = 4294967295 := rfl
  have l1 : limL.getD (0 + 1) 0 = 4294967295 := rfl
  rcases hn with hn | hn
  · obtain ⟨x, y, rfl⟩ : ∃ x y, ws = [x, y] := by
      match ws, hn with
      | [x, y], _ => exact ⟨x, y, rfl⟩
    have eo : oneW [x, y] = if (numW x 4294967295).2 ≠ 0 then (⟨0, 0, 0⟩, false, (numW x 4294967295).2) else if (numW y 4294967295).2 ≠ 0 then (⟨0, 0, 0⟩, false, (numW y 4294967295).2)
        else (⟨UInt32.ofNat (numW x 4294967295).1, UInt32.ofNat (numW y 4294967295).1, 1⟩, true, 0) := by
      unfold oneW
      rw [if_neg (by simp), if_neg h35, if_neg (by simp)]
      rfl
    have en : numsL [x, y] 0 [0, 0, 1] = if (numW x 4294967295).2 ≠ 0 then ([0, 0, 1], (numW x 4294967295).2) else if (numW y 4294967295).2 ≠ 0 then ([(numW x 4294967295).1, 0, 1], (numW y 4294967295).2) else ([(numW x 4294967295).1, (numW y 4294967295).1, 1], 0) := by
      rw [numsL_c _ _ _ _ (by decide), numsL_c _ _ _ _ (by decide), l0, l1]
      rfl
    rw [eo, en]
    have m1 := numW_le x 4294967295
    have m2 := numW_le y 4294967295
    generalize numW x 4294967295 = p at *
    generalize numW y 4294967295 = q at *
    by_cases h1 : p.2 = 0
    · by_cases h2 : q.2 = 0
      · exact ⟨p.1, q.1, 1, by simp [h1, h2], m1, m2, by decide, by simp [h1, h2]⟩
      · exact ⟨p.1, 0, 1, by simp [h1, h2], m1, by decide, by decide, by simp [h1, h2]⟩
    · exact ⟨0, 0, 1, by simp [h1], by decide, by decide, by decide, by simp [h1]⟩
  · obtain ⟨x, y, z, rfl⟩ : ∃ x y z, ws = [x, y, z] := by
      match ws, hn with
      | [x, y, z], _ => exact ⟨x, y, z, rfl⟩
    have eo : oneW [x, y, z] = if (numW x 4294967295).2 ≠ 0 then (⟨0, 0, 0⟩, false, (numW x 4294967295).2) else if (numW y 4294967295).2 ≠ 0 then (⟨0, 0, 0⟩, false, (numW y 4294967295).2)
        else if (numW z 2147483647).2 ≠ 0 then (⟨0, 0, 0⟩, false, (numW z 2147483647).2) else if (numW z 2147483647).1 = 0 then (⟨0, 0, 0⟩, false, 9)
        else (⟨UInt32.ofNat (numW x 4294967295).1, UInt32.ofNat (numW y 4294967295).1, UInt32.ofNat (numW z 2147483647).1⟩, true, 0) := by
      unfold oneW
      rw [if_neg (by simp), if_neg h35, if_neg (by simp)]
      rfl
    have en : numsL [x, y, z] 0 [0, 0, 1] = if (numW x 4294967295).2 ≠ 0 then ([0, 0, 1], (numW x 4294967295).2) else if (numW y 4294967295).2 ≠ 0 then ([(numW x 4294967295).1, 0, 1], (numW y 4294967295).2)
        else if (numW z 2147483647).2 ≠ 0 then ([(numW x 4294967295).1, (numW y 4294967295).1, 1], (numW z 2147483647).2) else if (numW z 2147483647).1 = 0 then ([(numW x 4294967295).1, (numW y 4294967295).1, 1], 9)
        else ([(numW x 4294967295).1, (numW y 4294967295).1, (numW z 2147483647).1], 0) := by
      rw [numsL_c _ _ _ _ (by decide), numsL_c _ _ _ _ (by decide), numsL_2, l0, l1]
      rfl
    rw [eo, en]
    have m1 := numW_le x 4294967295
    have m2 := numW_le y 4294967295
    have m3 := numW_le z 2147483647
    generalize numW x 4294967295 = p at *
    generalize numW y 4294967295 = q at *
    generalize numW z 2147483647 = r at *
    by_cases h1 : p.2 = 0
    · by_cases h2 : q.2 = 0
      · by_cases h3 : r.2 = 0
        · by_cases h4 : r.1 = 0
          · exact ⟨p.1, q.1, 1, by simp [h1, h2, h3, h4], m1, m2, by decide, by simp [h1, h2, h3, h4]⟩
          · exact ⟨p.1, q.1, r.1, by simp [h1, h2, h3, h4], m1, m2, by omega, by simp [h1, h2, h3, h4]⟩
        · exact ⟨p.1, q.1, 1, by simp [h1, h2, h3], m1, m2, by decide, by simp [h1, h2, h3]⟩
      · exact ⟨p.1, 0, 1, by simp [h1, h2], m1, by decide, by decide, by simp [h1, h2]⟩
    · exact ⟨0, 0, 1, by simp [h1], by decide, by decide, by decide, by simp [h1]⟩
theorem infoU3 : (Tryz.prog.info? 142).map (fun i => (i.zero, i.size, i.bytes)) = some (some (.agg #[.int .u64 0, .int .u64 0, .int .u64 0]), 3, 24) := by kernel_rfl
theorem wrap_u32_of (a : Nat) (h : a ≤ 4294967295) : IntKind.u32.wrap (a : Int) = ((UInt32.ofNat a).toNat : Int) := by
  rw [IntKind.wrap_u32', UInt32.toNat_ofNat']
  omega
set_option maxRecDepth 100000 in
set_option maxHeartbeats 3200000 in
theorem tone_any (w : World) (line : List UInt8) (hl : line.length ≤ 1048576) :
    Calls Tryz.prog 40 #[.string (bst line)] w fun e w' => e = .returned (.tuple #[edgeV (oneW (wordsP line)).1, .bool (oneW (wordsP line)).2.1, .int .i64 (oneW (wordsP line)).2.2]) ∧ Below w.heap.size w w' := by
  have hpos := wordsP_pos line
  obtain ⟨hwl, hwx⟩ := wordsP_len line
  have hwc := fun W => twords_any W line hl
  obtain ⟨ws, hws⟩ : ∃ ws, ws = wordsP line := ⟨_, rfl⟩
  rw [← hws] at hpos hwl hwx hwc ⊢
  obtain ⟨r, hr⟩ : ∃ r, r = oneW ws := ⟨_, rfl⟩
  rw [← hr]
  have HrO := Lib.hid hr
  obtain ⟨w2, hw2⟩ : ∃ w2, w2 = w.alloc (.cells zeroEc.toArray 55) := ⟨_, rfl⟩
  have hb2 : Below w.heap.size w w2 := by rw [hw2]; exact balloc _ _
  have hx2 : BoxAt 55 w2 w.heap.size zeroEc := by rw [hw2]; exact BoxAt.new_ _ _ _
  have HoneZ : Hid (∀ u ∈ zeroEc, u.oneCell' = true) := Lib.hid fun u hu => by
    simp [zeroEc] at hu
    rcases hu with rfl | rfl | rfl <;> rfl
  have Hw2 := Lib.hid hw2
  have Hwc := Lib.hid (hwc w2)
  have Hpos := Lib.hid hpos
  have Hwx := Lib.hid hwx
  have Hb2 := Lib.hid hb2
  have X2 := Lib.hid hx2
  clear hws hr hw2 hwc hpos hwx hb2 hx2
  go_enter Tryz.func40, Tryz.ntmps40
  go_wp2_with (
    ((with_reducible refine wpList_alloc_z ?_ 55 ?_ infoEdge zeroEc ?_ ?_); exact rfl; exact rfl; exact rfl; rw [← Hw2.out]))
  refine Hwc.out.mono ?_
  rintro _ w3 ⟨vw, rfl, how, hb3⟩
  have hS3 : ByS w3 w3.heap.size vw ws := how.rowLt.mono (fun _ h => h) (fun _ h => h.elim)
  obtain ⟨Aw, cw, rfl, _⟩ := how.form'
  have hb23 := Hb2.out.trans (hb3.mono Hb2.out.size)
  have X2' := Lib.hid (X2.out.bl_ hb3)
  clear X2
  have X2 := X2'
  have Hb3 := Lib.hid hb23
  have HS3 := Lib.hid hS3
  clear how hb3 hb23 hS3 X2' Hb2 Hwc Hw2
  have hs3 := Hb3.out.size
  rcases Nat.eq_zero_or_pos ws.length with h0 | h0
  · have hd0 : ((ws.length : Int) == 0) = true := by rw [h0]; rfl
    have Hr : Hid (r = (⟨0, 0, 0⟩, false, 0)) := Lib.hid (by rw [HrO.out]; unfold oneW; rw [if_pos h0])
    clear h0
    go_wp2_with (
      ((with_reducible refine wpList_store_boxX ?_ 55 55 (.tmp 2) (.tmp 20) ?_ w.heap.size zeroEc zeroEc ?_ ?_ X2.out ?_ HoneZ.out ?_ ?_); exact rfl; exact rfl; exact rfl; exact rfl; exact rfl; exact infoEdge3; intro w9 hx9 hc9 hz9))
    refine bodyPost_ret (results_ctt rfl _ _ w.heap.size zeroEc rfl hx9.cells Tryz.underlying55 rfl infoEdge3) rfl ?_
    exact ⟨by rw [Hr.out]; rfl, Hb3.out.trans (hc9.below Hb3.out.size fun q hq => by omega)⟩
  have hd0 : ((ws.length : Int) == 0) = false := beq_eq_false_iff_ne.2 (by omega)
  obtain ⟨ad, rfl, hab, hx0⟩ := HS3.out.cells 0 h0
  have hx0 : w3.cell? ad = some (.string (bst ws[0])) := by rw [add_zero'] at hx0; exact hx0
  have hp0 : 0 < (ws[0]).length := Hpos.out _ (List.getElem_mem h0)
  have hg0 : ws.getD 0 [] = ws[0] := by simp [List.getD, h0]
  have hl0 := Hwx.out _ (List.getElem_mem h0)
  have hhp := hp_any w3 ws[0] hp0 (by omega)
  rw [← hg0] at hhp hx0
  obtain ⟨bq, hbq⟩ : ∃ bq, bq = decide ((ws.getD 0 []).getD 0 0 = 35) := ⟨_, rfl⟩
  rw [← hbq] at hhp
  have Hhp := Lib.hid hhp
  have Hbq := Lib.hid hbq
  clear hhp hbq hg0 hl0 hp0
  obtain ⟨ws0, hw0⟩ : ∃ ws0, ws.getD 0 [] = ws0 := ⟨_, rfl⟩
  rw [hw0] at hx0 Hhp
  have Hw0 := Lib.hid hw0
  clear hw0
  cases bq with
  | true =>
    have Hr : Hid (r = (⟨0, 0, 0⟩, false, 0)) := Lib.hid (by rw [HrO.out]; unfold oneW; rw [if_neg (by omega), if_pos (of_decide_eq_true Hbq.out.symm)])
    go_wp2_with fail
    refine Hhp.out.mono ?_
    rintro _ w3x ⟨rfl, hww⟩
    obtain rfl := hww.symm
    go_wp2_with (
      ((with_reducible refine wpList_store_boxX ?_ 55 55 (.tmp 2) (.tmp 20) ?_ w.heap.size zeroEc zeroEc ?_ ?_ X2.out ?_ HoneZ.out ?_ ?_); exact rfl; exact rfl; exact rfl; exact rfl; exact rfl; exact infoEdge3; intro w9 hx9 hc9 hz9))
    refine bodyPost_ret (results_ctt rfl _ _ w.heap.size zeroEc rfl hx9.cells Tryz.underlying55 rfl infoEdge3) rfl ?_
    exact ⟨by rw [Hr.out]; rfl, Hb3.out.trans (hc9.below Hb3.out.size fun q hq => by omega)⟩
  | false =>
    have h35 : ¬ (ws.getD 0 []).getD 0 0 = 35 := of_decide_eq_false Hbq.out.symm
    have H35 := Lib.hid h35
    clear h35 Hbq
    by_cases h1 : ws.length = 1
    · have hd2 : decide ((ws.length : Int) < 2) = true := decide_eq_true (by omega)
      have Hr : Hid (r = (⟨0, 0, 0⟩, false, 12)) := Lib.hid (by rw [HrO.out]; unfold oneW; rw [if_neg (by omega), if_neg H35.out, if_pos (.inl h1)])
      clear h1
      go_wp2_with fail
      refine Hhp.out.mono ?_
      rintro _ w3x ⟨rfl, hww⟩
      obtain rfl := hww.symm
      go_wp2_with (
        ((with_reducible refine wpList_store_boxX ?_ 55 55 (.tmp 2) (.tmp 30) ?_ w.heap.size zeroEc zeroEc ?_ ?_ X2.out ?_ HoneZ.out ?_ ?_); exact rfl; exact rfl; exact rfl; exact rfl; exact rfl; exact infoEdge3; intro w9 hx9 hc9 hz9))
      refine bodyPost_ret (results_ctt rfl _ _ w.heap.size zeroEc rfl hx9.cells Tryz.underlying55 rfl infoEdge3) rfl ?_
      exact ⟨by rw [Hr.out]; rfl, Hb3.out.trans (hc9.below Hb3.out.size fun q hq => by omega)⟩
    · have hd2 : decide ((ws.length : Int) < 2) = false := decide_eq_false (by omega)
      by_cases h4 : 3 < ws.length
      · have hd3 : decide ((3 : Int) < (ws.length : Int)) = true := decide_eq_true (by omega)
        have Hr : Hid (r = (⟨0, 0, 0⟩, false, 12)) := Lib.hid (by rw [HrO.out]; unfold oneW; rw [if_neg (by omega), if_neg H35.out, if_pos (.inr h4)])
        clear h4
        go_wp2_with fail
        refine Hhp.out.mono ?_
        rintro _ w3x ⟨rfl, hww⟩
        obtain rfl := hww.symm
        go_wp2_with (
          ((with_reducible refine wpList_store_boxX ?_ 55 55 (.tmp 2) (.tmp 30) ?_ w.heap.size zeroEc zeroEc ?_ ?_ X2.out ?_ HoneZ.out ?_ ?_); exact rfl; exact rfl; exact rfl; exact rfl; exact rfl; exact infoEdge3; intro w9 hx9 hc9 hz9))
        refine bodyPost_ret (results_ctt rfl _ _ w.heap.size zeroEc rfl hx9.cells Tryz.underlying55 rfl infoEdge3) rfl ?_
        exact ⟨by rw [Hr.out]; rfl, Hb3.out.trans (hc9.below Hb3.out.size fun q hq => by omega)⟩
      · have hd3 : decide ((3 : Int) < (ws.length : Int)) = false := decide_eq_false (by omega)
        obtain ⟨a, b, c, hs1, ha, hb, hc, hone⟩ := oneW_nums ws (by omega) H35.out
        have hnc := nums_any w3 _ ws HS3.out (by omega) (fun x hx => Nat.le_trans (Hwx.out x hx) hl)
        rw [hs1] at hnc
        obtain ⟨er, her⟩ : ∃ er, er = (numsL ws 0 [0, 0, 1]).2 := ⟨_, rfl⟩
        rw [← her] at hnc hone
        have Hone := Lib.hid hone
        have Hnc := Lib.hid hnc
        clear hs1 hnc hone her
        go_wp2_with fail
        refine Hhp.out.mono ?_
        rintro _ w3x ⟨rfl, hww⟩
        obtain rfl := hww.symm
        go_wp2_with fail
        refine Hnc.out.mono ?_
        rintro _ w4 ⟨rfl, hb4⟩
        have hb34 := Hb3.out.trans (hb4.mono Hb3.out.size)
        have X4 := X2.out.bl_ hb4
        obtain ⟨w5, hw5⟩ : ∃ w5, w5 = w4.alloc (.cells (u64c [a, b, c]).toArray 142) := ⟨_, rfl⟩
        have hb5 : Below w.heap.size w w5 := by rw [hw5]; exact hb34.trans ((balloc _ _).mono hb34.size)
        have X5 : BoxAt 55 w5 w.heap.size zeroEc := by rw [hw5]; exact X4.alloc _
        have hY5 : BoxAt 142 w5 w4.heap.size (u64c [a, b, c]) := by rw [hw5]; exact BoxAt.new_ _ _ _
        have hone5 : ∀ u ∈ u64c [a, b, c], u.oneCell' = true := fun u hu => by
          obtain ⟨n, _, rfl⟩ := List.mem_map.1 hu
          rfl
        have c0 := hY5.cell 0 (.int .u64 (a : Int)) rfl
        have c1 := hY5.cell 1 (.int .u64 (b : Int)) rfl
        have c2 := hY5.cell 2 (.int .u64 (c : Int)) rfl
        have Hw5 := Lib.hid hw5
        have HX5 := Lib.hid X5
        have Hb5 := Lib.hid hb5
        have Hone5 := Lib.hid hone5
        clear hw5 X5 X4 hb34 hb4 hY5 hone5 Hnc hb5 X2 Hhp
        have PRE : True := trivial
        by_cases he : ¬ er = 0
        · have hde : (er != 0) = true := by simp [bne, he]
          have Hr : Hid (r = (⟨0, 0, 0⟩, false, er)) := Lib.hid (by rw [HrO.out, Hone.out, if_pos he])
          clear he Hone
          go_wp2_with (first
            | ((with_reducible refine wpList_alloc_z ?_ 142 ?_ infoU3 num0c ?_ ?_); exact rfl; exact rfl; exact rfl)
            | ((with_reducible refine wpList_store_new ?_ 142 (.tmp 6) (.tmp 34) ?_ num0c (u64c [a, b, c]) ?_ ?_ ?_ ?_ Hone5.out ?_); exact rfl; exact rfl; exact rfl; exact rfl; exact infoLim; exact rfl; rw [← Hw5.out])
            | ((with_reducible refine wpList_store_boxX ?_ 55 55 (.tmp 2) (.tmp 38) ?_ w.heap.size zeroEc zeroEc ?_ ?_ HX5.out ?_ HoneZ.out ?_ ?_); exact rfl; exact rfl; exact rfl; exact rfl; exact rfl; exact infoEdge3; intro w9 hx9 hc9 hz9))
          refine bodyPost_ret (results_ctt rfl _ _ w.heap.size zeroEc rfl hx9.cells Tryz.underlying55 rfl infoEdge3) rfl ?_
          exact ⟨by rw [Hr.out]; rfl, Hb5.out.trans (hc9.below Hb5.out.size fun q hq => by omega)⟩
        · have he := Classical.not_not.1 he
          have hde : (er != 0) = false := by simp [bne, he]
          have Hr : Hid (r = (⟨UInt32.ofNat a, UInt32.ofNat b, UInt32.ofNat c⟩, true, 0)) := Lib.hid (by rw [HrO.out, Hone.out, if_neg (by simp [he])])
          have hwa := wrap_u32_of a ha
          have hwb := wrap_u32_of b hb
          have hwc := wrap_u32_of c hc
          obtain ⟨A, hA⟩ : ∃ A, A = UInt32.ofNat a := ⟨_, rfl⟩
          obtain ⟨B, hB⟩ : ∃ B, B = UInt32.ofNat b := ⟨_, rfl⟩
          obtain ⟨C, hC⟩ : ∃ C, C = UInt32.ofNat c := ⟨_, rfl⟩
          rw [← hA] at hwa
          rw [← hB] at hwb
          rw [← hC] at hwc
          rw [← hA, ← hB, ← hC] at Hr
          have HoneE : Hid (∀ u ∈ edgeC ⟨A, B, C⟩, u.oneCell' = true) := Lib.hid fun u hu => by
            simp [edgeC] at hu
            rcases hu with rfl | rfl | rfl <;> rfl
          clear he Hone hA hB hC ha hb hc
          go_wp2_with (first
            | ((with_reducible refine wpList_alloc_z ?_ 142 ?_ infoU3 num0c ?_ ?_); exact rfl; exact rfl; exact rfl)
            | ((with_reducible refine wpList_store_new ?_ 142 (.tmp 6) (.tmp 34) ?_ num0c (u64c [a, b, c]) ?_ ?_ ?_ ?_ Hone5.out ?_); exact rfl; exact rfl; exact rfl; exact rfl; exact infoLim; exact rfl; rw [← Hw5.out])
            | ((with_reducible refine wpList_store_boxX ?_ 55 55 (.tmp 2) (.tmp 49) ?_ w.heap.size zeroEc (edgeC ⟨A, B, C⟩) ?_ ?_ HX5.out ?_ HoneE.out ?_ ?_); exact rfl; exact rfl; exact rfl; exact rfl; exact rfl; exact infoEdge3; intro w9 hx9 hc9 hz9))
          refine bodyPost_ret (results_ctt rfl _ _ w.heap.size (edgeC ⟨A, B, C⟩) rfl hx9.cells Tryz.underlying55 rfl infoEdge3) rfl ?_
          exact ⟨by rw [Hr.out]; rfl, Hb5.out.trans (hc9.below Hb5.out.size fun q hq => by omega)⟩
end Go.Proofs.YtcffeepgfjpcaaaGreat

namespace Go.Proofs.YtcffeepgfjpcaaaGreat
set_option linter.unusedSimpArgs false
set_option linter.unusedVariables false
open Go.RowKit

set_option maxRecDepth 100000 in
set_option maxHeartbeats 3200000 in
theorem lines_any (w : World) (v : Value) (b : List UInt8) (h : By w w.heap.size v b) (hl : b.length ≤ 1048576) :
    Calls Tryz.prog 37 #[v] w fun e w' => ∃ v', e = .returned v' ∧ OwnF 9 cS w' w.heap.size v' (linesP b) ∧ Below w.heap.size w w' := by
  obtain ⟨A, c, rfl, hc1, hc2, hrd⟩ := h
  unfold maxLen at hc2
  obtain ⟨w1, hw1⟩ : ∃ w1, w1 = (w.alloc (.cells #[] 9)).alloc (.cells #[] 5) := ⟨_, rfl⟩
  have hz1 : w1.heap.size = w.heap.size + 2 := by rw [hw1]; simp
  have hb1 : Below w.heap.size w w1 := by rw [hw1]; exact bstep (balloc _ _) (balloc _ _)
  have hS1 : OwnF 9 cS w1 w.heap.size (.slice (some ⟨w.heap.size, 0, none⟩) 0 0) [] := by rw [hw1]; exact (OwnS.empty w w.heap.size w.heap.size rfl (Nat.le_refl _)).alloc _
  have hB1 : OwnF 5 c8 w1 w.heap.size (.slice (some ⟨w.heap.size + 1, 0, none⟩) 0 0) [] := by rw [hw1]; exact OwnB.empty _ _ _ (by simp) (by omega)
  have Hw1 := Lib.hid hw1
  have HS1 := Lib.hid hS1
  have HB1 := Lib.hid hB1
  have Hb1 := Lib.hid hb1
  have Hrd := Lib.hid hrd
  clear hw1 hS1 hB1 hb1 hrd hz1
  go_enter Tryz.func37, Tryz.ntmps37
  go_wp2_with (rw [← Hw1.out])
  go_loopw [3, 4, 10] (fun vo vl i wr => ∃ k : Nat, k ≤ b.length ∧ i = .int .i64 (k : Int) ∧ OwnF 9 cS wr w.heap.size vo ((b.take k).foldl lineStep ([], [])).1 ∧ OwnF 5 c8 wr w.heap.size vl ((b.take k).foldl lineStep ([], [])).2 ∧ Below w.heap.size w wr) (fun _ _ i _ => b.length - (intOf i).toNat)
  case atStart => exact ⟨0, Nat.zero_le _, rfl, HS1.out, HB1.out, Hb1.out⟩
  case round =>
    obtain ⟨k, hk, rfl, i1, i2, i3⟩ := hrel
    have hsl := lineStep_len (b.take k)
    have htl : (b.take k).length = k := by rw [List.length_take]; omega
    have hfo := fun hlt => take_foldl lineStep (([], []) : List (List UInt8) × List UInt8) b k hlt
    obtain ⟨out, ln, hs⟩ : ∃ out ln, (b.take k).foldl lineStep (([], []) : List (List UInt8) × List UInt8) = (out, ln) := ⟨_, _, rfl⟩
    have hall : k = b.length → linesP b = lastOn (out, ln) := fun e => by
      unfold linesP
      have h2 : b.take k = b := by rw [e, List.take_length]
      rw [h2] at hs
      rw [hs]
    rw [hs] at i1 i2 hsl hfo
    rw [htl] at hsl
    simp only at i1 i2 hsl
    have hbs := i3.size
    obtain ⟨Ao, co, rfl, _⟩ := i1.form'
    obtain ⟨Al, cl, rfl, _⟩ := i2.form'
    have hcv := conv8 i2.byB
    have Hmx : Hid ((bst ln).size ≤ maxLen) := Lib.hid (by rw [bst_size]; unfold maxLen; omega)
    have Hall := Lib.hid hall
    have Hfo := Lib.hid hfo
    have I1 := Lib.hid i1
    have I2 := Lib.hid i2
    have I3 := Lib.hid i3
    clear i1 i2 i3 hs htl hall hfo HS1 HB1 Hb1 Hw1
    by_cases hlt : k < b.length
    · obtain ⟨ad, rfl, hab, hcell⟩ := Hrd.out.2 (by omega)
      have hx := (I3.out.cell (p := ad.add k) (by rw [add_block]; exact hab)).trans (hcell k (b8 b[k]) (by simp [b8s, hlt]))
      have hfk := Hfo.out hlt
      obtain ⟨ch, hch⟩ : ∃ ch, ch = b[k] := ⟨_, rfl⟩
      rw [← hch] at hx hfk
      unfold b8 at hx
      have Hfk := Lib.hid hfk
      clear hch hcell hfk Hall Hfo
      by_cases hc10 : ch = 10
      · have hd : ((ch.toNat : Int) == 10) = true := by rw [hc10]; rfl
        have hst : lineStep (out, ln) ch = (out ++ [ln], []) := by unfold lineStep; rw [if_pos hc10]
        have Hst := Lib.hid hst
        have hlo : (out ++ [ln]).length = out.length + 1 := by rw [List.length_append, List.length_singleton]
        clear hst hc10
        go_wp2_with (
          (with_reducible refine wpList_app1R (C := cS) ?_ (.tmp 18) (.tmp 21) 86 ?_ Tryz.underlying86 infoS ?_ ?_ ?_ [.string (bst ln)] I1.out (y := ln) ?_ ?_ ?_ ?_ ?_ ?_); exact rfl; exact rfl; exact (by kernel_rfl); exact (by decide); exact (by decide); exact ⟨rfl, Hmx.out⟩; exact rfl; exact rfl; exact (by omega); exact (by omega)
          intro v8 w8 ho8 hx8
          have Ho8 := Lib.hid ho8
          have Hx8 := Lib.hid hx8
          clear ho8 hx8)
        go_roundw
        case rel =>
          have h8 := Hx8.out.gr.size
          refine ⟨k + 1, by omega, by go_num, ?_, ?_, ?_⟩
          · rw [Hfk.out, Hst.out]
            exact Ho8.out.alloc _
          · rw [Hfk.out, Hst.out]
            exact OwnB.empty _ _ _ rfl (by omega)
          · exact (I3.out.trans (Hx8.out.below hbs fun q hq => (I1.out.blk q hq).1)).alloc (by omega) _
        case measure => simp [intOf]; omega
      · have hd : ((ch.toNat : Int) == 10) = false := beq_eq_false_iff_ne.2 fun e => hc10 (UInt8.toNat_inj.1 (by have : ((ch.toNat : Nat) : Int) = 10 := e; have h10 : (10 : UInt8).toNat = 10 := rfl; omega))
        have hst : lineStep (out, ln) ch = (out, ln ++ [ch]) := by unfold lineStep; rw [if_neg hc10]
        have Hst := Lib.hid hst
        clear hst hc10
        go_wp2_with (
          (with_reducible refine wpList_app1R (C := c8) ?_ (.tmp 24) (.tmp 29) 40 ?_ Tryz.underlying40 info8c ?_ ?_ ?_ [.int .u8 (ch.toNat : Int)] I2.out (y := ch) ?_ ?_ ?_ ?_ ?_ ?_); exact rfl; exact rfl; exact (by kernel_rfl); exact (by decide); exact (by decide); exact ⟨rfl, trivial⟩; exact rfl; exact rfl; exact (by omega); exact (by omega)
          intro v8 w8 ho8 hx8
          have Ho8 := Lib.hid ho8
          have Hx8 := Lib.hid hx8
          clear ho8 hx8)
        go_roundw
        case rel =>
          refine ⟨k + 1, by omega, by go_num, ?_, ?_, ?_⟩
          · rw [Hfk.out, Hst.out]
            exact ownKeptT (by decide) I2.out I1.out Hx8.out
          · rw [Hfk.out, Hst.out]
            exact Ho8.out
          · exact I3.out.trans (Hx8.out.below hbs fun q hq => (I2.out.blk q hq).1)
        case measure => simp [intOf]; omega
    · have e : k = b.length := by omega
      have ha := Hall.out e
      have Ha := Lib.hid ha
      have Hlt := Lib.hid hlt
      have hd0 : decide ((k : Int) < (b.length : Int)) = false := decide_eq_false (by omega)
      clear ha Hall Hfo e hlt
      rcases Nat.eq_zero_or_pos ln.length with h0 | h0
      · have hd : decide (0 < ln.length) = false := by simp [h0]
        have Hlo : Hid (lastOn (out, ln) = out) := Lib.hid (by unfold lastOn; rw [if_neg (by simp only; omega)])
        clear h0
        go_wp2_with fail
        go_ret
        rw [Ha.out, Hlo.out]
        exact ⟨_, rfl, I1.out, I3.out⟩
      · have hd : decide (0 < ln.length) = true := by simp [h0]
        have Hlo : Hid (lastOn (out, ln) = out ++ [ln]) := Lib.hid (by unfold lastOn; rw [if_pos h0])
        clear h0
        go_wp2_with (
          (with_reducible refine wpList_app1R (C := cS) ?_ (.tmp 35) (.tmp 38) 86 ?_ Tryz.underlying86 infoS ?_ ?_ ?_ [.string (bst ln)] I1.out (y := ln) ?_ ?_ ?_ ?_ ?_ ?_); exact rfl; exact rfl; exact (by kernel_rfl); exact (by decide); exact (by decide); exact ⟨rfl, Hmx.out⟩; exact rfl; exact rfl; exact (by omega); exact (by omega)
          intro v8 w8 ho8 hx8
          have Ho8 := Lib.hid ho8
          have Hx8 := Lib.hid hx8
          clear ho8 hx8)
        go_ret
        rw [Ha.out, Hlo.out]
        exact ⟨_, rfl, Ho8.out, I3.out.trans (Hx8.out.below hbs fun q hq => (I1.out.blk q hq).1)⟩
end Go.Proofs.YtcffeepgfjpcaaaGreat

namespace Go.Proofs.YtcffeepgfjpcaaaGreat
set_option linter.unusedSimpArgs false
set_option linter.unusedVariables false
open Go.RowKit

/-- a text's lines' edges: the edges, the line's number and the error's number -/
def readE : List (List UInt8) → Nat → List GEdge → List GEdge × Int × Int
  | [], _, out => (out, 0, 0)
  | x :: t, i, out => if (oneW (wordsP x)).2.2 ≠ 0 then ([], (i : Int) + 1, (oneW (wordsP x)).2.2) else readE t (i + 1) (if (oneW (wordsP x)).2.1 then out ++ [(oneW (wordsP x)).1] else out)
theorem OwnE.empty (W : World) (g base : Nat) (hg : W.heap.size = g) (hb : base ≤ g) : OwnF 55 cEdge (W.alloc (.cells #[] 55)) base (.slice (some ⟨g, 0, none⟩) 0 0) [] := by
  subst hg
  exact (OwnR.new_ (xs := ([] : List GEdge)) (S := fun _ => False) W [] rfl (by simp) (fun i cs x h => by simp at h) (fun _ h => h.elim)).more hb
theorem infoEc : (Tryz.prog.info? 55).map (fun i => (i.zero, i.size, i.bytes)) = some (some (.agg zeroEc.toArray), cEdge.n, 12) := by kernel_rfl
theorem run_slice_edge (w : World) (x : GEdge) : (Instr.buildSlice 22 1 #[(0, .agg (edgeC x).toArray)]).run Tryz.prog w =
    .ok (.slice (some ⟨w.heap.size, 0, none⟩) 1 1) (w.alloc (.cells (edgeC x).toArray 55)) := by
  obtain ⟨it, hit, hz0, hz1, hby⟩ := info_parts infoEc
  refine run_buildSlice w _ _ 1 _ _ it _ Tryz.underlying22 hit hz0 (by rw [hz1]; decide) (by rw [hz1]; decide) ?_
  rw [hz1, show cEdge.n = 3 from rfl]
  exact fill_whole 3 _ (edgeC x) (by first | rfl | simp [zeroEc]) (by first | rfl | simp [edgeC])
theorem linesP_item (b : List UInt8) : ∀ x ∈ linesP b, x.length ≤ b.length := by
  have key : ∀ (b : List UInt8) (s : List (List UInt8) × List UInt8) (m : Nat), s.2.length ≤ m → (∀ x ∈ s.1, x.length ≤ m) → (b.foldl lineStep s).2.length ≤ m + b.length ∧ ∀ x ∈ (b.foldl lineStep s).1, x.length ≤ m + b.length := by
    intro b
    induction b with
    | nil => intro s m h1 h2; exact ⟨h1, h2⟩
    | cons c t ih =>
      intro s m h1 h2
      rw [List.foldl_cons]
      have := ih (lineStep s c) (m + 1) (by unfold lineStep; split <;> simp <;> omega) (fun x hx => by
        unfold lineStep at hx
        split at hx
        · rcases List.mem_append.1 hx with hx | hx
          · have := h2 x hx; omega
          · rw [List.mem_singleton] at hx; rw [hx]; omega
        · have := h2 x hx; omega)
      rw [List.length_cons, show m + (t.length + 1) = m + 1 + t.length by omega]
      exact this
  obtain ⟨h2, h3⟩ := key b ([], []) 0 (Nat.zero_le _) (fun x h => by simp at h)
  rw [Nat.zero_add] at h2 h3
  unfold linesP lastOn
  split
  · intro x hx
    rcases List.mem_append.1 hx with hx | hx
    · exact h3 x hx
    · rw [List.mem_singleton] at hx; rw [hx]; exact h2
  · exact h3
theorem linesP_cnt (b : List UInt8) : (linesP b).length ≤ b.length + 1 := by
  have h1 := lineStep_len b
  unfold linesP lastOn
  split
  · rw [List.length_append, List.length_singleton]; omega
  · omega
/-- a literal of one thing -/
theorem wpList_slice1 {ops : Array Oper} {rest : List Oper} {o : Oper} {a : Act} {w : World} {Q : Exit → Act → World → Prop} (hgd : o.guard = none) (T : TypeId) (x : Operand) (ho : o.op = .buildSlice T 1 #[(0, x)])
    (y : Value) (hx : a.eval x = y) (v : Value) (w' : World) (hr : (Instr.buildSlice T 1 #[(0, y)]).run Tryz.prog w = .ok v w')
    (h : wpList Tryz.prog ops Q rest (a.put o.dst v) w') : wpList Tryz.prog ops Q (o :: rest) a w :=
  wpList_plain hgd fun K hK => by
    unfold Oper.wp execOp
    simp only [ho, List.map_toArray, List.map_cons, List.map_nil, hx, Sem.run_bind, hr, Result.andThen_ok]
    exact hK _ _ h
set_option maxRecDepth 100000 in
set_option maxHeartbeats 3200000 in
theorem rread12_any (w : World) (v : Value) (b : List UInt8) (h : By w w.heap.size v b) (hl : b.length ≤ 1048576) :
    Calls Tryz.prog 14 #[v] w fun e w' => ∃ v', e = .returned (.tuple #[v', .int .i64 (readE (linesP b) 0 []).2.1, .int .i64 (readE (linesP b) 0 []).2.2]) ∧ OwnF 55 cEdge w' w.heap.size v' (readE (linesP b) 0 []).1 ∧ Below w.heap.size w w' := by
  obtain ⟨w1, hw1⟩ : ∃ w1, w1 = w.alloc (.cells #[] 55) := ⟨_, rfl⟩
  have hz1 : w1.heap.size = w.heap.size + 1 := by rw [hw1]; simp
  have hb1 : Below w.heap.size w w1 := by rw [hw1]; exact balloc _ _
  have hE1 : OwnF 55 cEdge w1 w.heap.size (.slice (some ⟨w.heap.size, 0, none⟩) 0 0) [] := by rw [hw1]; exact OwnE.empty _ _ _ rfl (Nat.le_refl _)
  have hlc := lines_any w1 v b ((h.below hb1).more (by omega)) (by omega)
  have hli := linesP_item b
  have hln := linesP_cnt b
  obtain ⟨ls, hls⟩ : ∃ ls, ls = linesP b := ⟨_, rfl⟩
  rw [← hls] at hlc hli hln ⊢
  have hone : ∀ (W : World) (k : Nat) (hk : k < ls.length), Calls Tryz.prog 38 #[.string (bst ls[k])] W fun e w' => e = .returned (.tuple #[edgeV (oneW (wordsP ls[k])).1, .bool (oneW (wordsP ls[k])).2.1, .int .i64 (oneW (wordsP ls[k])).2.2]) ∧ Below W.heap.size W w' :=
    fun W k hk => rone_any W _ (by have := hli _ (List.getElem_mem hk); omega)
  obtain ⟨R, hR⟩ : ∃ R, R = readE ls 0 [] := ⟨_, rfl⟩
  rw [← hR]
  have Hw1 := Lib.hid hw1
  have Hlc := Lib.hid hlc
  have Hone := Lib.hid hone
  have HE1 := Lib.hid hE1
  have Hb1 := Lib.hid hb1
  have HR := Lib.hid hR
  have Hz1 := Lib.hid hz1
  clear hls hlc hone hE1 hb1 hR hli hz1 h hw1
  go_enter Tryz.func14, Tryz.ntmps14
  go_wp2_with (rw [← Hw1.out])
  refine Hlc.out.mono ?_
  rintro _ w2 ⟨vl, rfl, hol, hb2⟩
  have hE2 : OwnF 55 cEdge w2 w.heap.size (.slice (some ⟨w.heap.size, 0, none⟩) 0 0) [] := HE1.out.below_ hb2
  have hS2 := hol.more (Hb1.out.size)
  obtain ⟨Al, cl, rfl, _⟩ := hol.form'
  have hbb := Hb1.out.trans (hb2.mono (by have := Hz1.out; omega))
  have HE2 := Lib.hid hE2
  have HS2 := Lib.hid hS2
  have HB2 := Lib.hid hbb
  clear hE2 hS2 hol hb2 hbb Hlc HE1 Hw1 Hb1 Hz1
  go_wp2_with fail
  go_loopw [5, 16] (fun vo i wr => ∃ (k : Nat) (out : List GEdge), k ≤ ls.length ∧ i = .int .i64 (k : Int) ∧ readE (ls.drop k) k out = R ∧ out.length ≤ k ∧ OwnF 55 cEdge wr w.heap.size vo out ∧ OwnF 9 cS wr w.heap.size (.slice Al ls.length cl) ls ∧ Below w.heap.size w wr ∧ w2.heap.size ≤ wr.heap.size) (fun _ i _ => ls.length - (intOf i).toNat)
  case atStart => exact ⟨0, [], Nat.zero_le _, rfl, HR.out.symm, Nat.le_refl _, HE2.out, HS2.out, HB2.out, Nat.le_refl _⟩
  case round =>
    obtain ⟨k, out, hk, rfl, hre, hol, hOut, hSs, hBw, hz2⟩ := hrel
    have Hre := Lib.hid hre
    have HOut := Lib.hid hOut
    have HSs := Lib.hid hSs
    have HBw := Lib.hid hBw
    have Hz2 := Lib.hid hz2
    clear hre hOut hSs hBw hz2 HE2 HS2 HB2 HR
    by_cases hlt : k < ls.length
    · obtain ⟨ad, rfl, hab, hcell⟩ := ByS.cells (HSs.out.rowLt.mono (fun _ h => h) (fun _ h => h.elim)) k hlt
      have ho := Hone.out wr k hlt
      have hdr : ls.drop k = ls[k] :: ls.drop (k + 1) := (List.drop_eq_getElem_cons hlt)
      have hre := Hre.out
      rw [hdr] at hre
      unfold readE at hre
      obtain ⟨x, hx⟩ : ∃ x, x = ls[k] := ⟨_, rfl⟩
      rw [← hx] at hre hcell ho
      obtain ⟨y, hy⟩ : ∃ y, y = (oneW (wordsP x)).1 := ⟨_, rfl⟩
      obtain ⟨is, his⟩ : ∃ is, is = (oneW (wordsP x)).2.1 := ⟨_, rfl⟩
      obtain ⟨er, her⟩ : ∃ er, er = (oneW (wordsP x)).2.2 := ⟨_, rfl⟩
      rw [← hy, ← his, ← her] at hre ho
      have Ho := Lib.hid ho
      have Hre' := Lib.hid hre
      clear hx hdr hre ho Hre hy his her Hone
      go_wp2_with fail
      refine Ho.out.mono ?_
      rintro _ w3 ⟨rfl, hb3⟩
      have hz3 := hb3.size
      have hO3 := HOut.out.below_ hb3
      have hS3 := HSs.out.below_ hb3
      have hB3 := HBw.out.trans (hb3.mono (HBw.out.size))
      obtain ⟨w4, hw4⟩ : ∃ w4, w4 = w3.alloc (.cells (edgeC y).toArray 55) := ⟨_, rfl⟩
      have hz4 : w4.heap.size = w3.heap.size + 1 := by rw [hw4]; simp
      have hX4 : BoxAt 55 w4 w3.heap.size (edgeC y) := by rw [hw4]; exact BoxAt.new_ _ _ _
      have hO4 := hO3.alloc (.cells (edgeC y).toArray 55)
      rw [← hw4] at hO4
      have hS4 := hS3.alloc (.cells (edgeC y).toArray 55)
      rw [← hw4] at hS4
      have hB4 : Below w.heap.size w w4 := by rw [hw4]; exact hB3.trans ((balloc _ _).mono hB3.size)
      have Honc : Hid (∀ u ∈ edgeC y, u.oneCell' = true) := Lib.hid fun u hu => by
        simp [edgeC] at hu
        rcases hu with rfl | rfl | rfl <;> rfl
      have Hz4 : Hid (w2.heap.size ≤ w4.heap.size) := Lib.hid (by have := Hz2.out; omega)
      have Hw4 := Lib.hid hw4
      have HX4 := Lib.hid hX4
      have HO4 := Lib.hid hO4
      have HS4 := Lib.hid hS4
      have HB4 := Lib.hid hB4
      have hbs : w.heap.size ≤ w4.heap.size := hB4.size
      clear hw4 hX4 hO4 hS4 hB4 hO3 hS3 hB3 hb3 HOut HSs HBw Ho hcell hz3 hz4
      unfold edgeV
      by_cases he : ¬ er = 0
      · have hd : (er != 0) = true := by simp [bne, he]
        have hR2 : R = ([], (k : Int) + 1, er) := by rw [← Hre'.out, if_pos he]
        have HR2 := Lib.hid hR2
        clear he hR2 Hre'
        obtain ⟨w5, hw5⟩ : ∃ w5, w5 = w4.alloc (.cells #[] 55) := ⟨_, rfl⟩
        have hE5 : OwnF 55 cEdge w5 w.heap.size (.slice (some ⟨w4.heap.size, 0, none⟩) 0 0) [] := by rw [hw5]; exact OwnE.empty _ _ _ rfl hbs
        have hB5 : Below w.heap.size w w5 := by rw [hw5]; exact HB4.out.trans ((balloc _ _).mono hbs)
        have HE5 := Lib.hid hE5
        have HB5 := Lib.hid hB5
        have Hw5 := Lib.hid hw5
        clear hE5 hB5 hw5
        go_wp2_with (first
          | ((with_reducible refine wpList_alloc_z ?_ 55 ?_ infoEdge zeroEc ?_ ?_); exact rfl; exact rfl; exact rfl)
          | ((with_reducible refine wpList_store_new ?_ 55 (.tmp 8) (.tmp 25) ?_ zeroEc (edgeC y) ?_ ?_ ?_ ?_ Honc.out ?_); exact rfl; exact rfl; exact rfl; exact rfl; exact infoEdge3; exact rfl; rw [← Hw4.out])
          | rw [← Hw5.out])
        go_ret3
        rw [HR2.out]
        exact ⟨_, rfl, HE5.out, HB5.out⟩
      · have he := Classical.not_not.1 he
        have hd : (er != 0) = false := by simp [bne, he]
        have hR2 : readE (ls.drop (k + 1)) (k + 1) (if is = true then out ++ [y] else out) = R := (if_neg (c := er ≠ 0) (by simp [he])).symm.trans Hre'.out
        have HR2 := Lib.hid hR2
        clear he hR2 Hre'
        cases is
        · go_wp2_with (first
            | ((with_reducible refine wpList_alloc_z ?_ 55 ?_ infoEdge zeroEc ?_ ?_); exact rfl; exact rfl; exact rfl)
            | ((with_reducible refine wpList_store_new ?_ 55 (.tmp 8) (.tmp 25) ?_ zeroEc (edgeC y) ?_ ?_ ?_ ?_ Honc.out ?_); exact rfl; exact rfl; exact rfl; exact rfl; exact infoEdge3; exact rfl; rw [← Hw4.out]))
          go_roundw
          case rel => exact ⟨k + 1, out, by omega, by go_num, HR2.out, by omega, HO4.out, HS4.out, HB4.out, Hz4.out⟩
          case measure => simp [intOf]; omega
        · have Hrs := Lib.hid (run_slice_edge w4 y)
          go_wp2_with (first
            | ((with_reducible refine wpList_alloc_z ?_ 55 ?_ infoEdge zeroEc ?_ ?_); exact rfl; exact rfl; exact rfl)
            | ((with_reducible refine wpList_store_new ?_ 55 (.tmp 8) (.tmp 25) ?_ zeroEc (edgeC y) ?_ ?_ ?_ ?_ Honc.out ?_); exact rfl; exact rfl; exact rfl; exact rfl; exact infoEdge3; exact rfl; rw [← Hw4.out])
            | ((with_reducible refine wpList_load_agg ?_ 55 (.tmp 8) ?_ ⟨w3.heap.size, 0, none⟩ ?_ (edgeC y) HX4.out.cells Tryz.underlying55 ?_ ?_ ?_); exact rfl; exact rfl; exact rfl; exact rfl; exact infoEdge3)
            | ((with_reducible refine wpList_slice1 ?_ 22 (.tmp 36) ?_ (.agg (edgeC y).toArray) ?_ _ _ Hrs.out ?_); exact rfl; exact rfl; exact rfl)
            | ((with_reducible refine wpList_app1R (C := cEdge) ?_ (.tmp 35) (.tmp 37) 22 ?_ Tryz.underlying22 infoEc ?_ ?_ ?_ (edgeC y) HO4.out (y := y) ?_ ?_ ?_ ?_ ?_ ?_); exact rfl; exact rfl; exact (by kernel_rfl); exact (by decide); exact (by decide); exact ⟨rfl, trivial⟩; exact rfl; exact rfl; exact (by omega); exact (by omega)
               intro v8 w8 ho8 hx8
               have Ho8 := Lib.hid ho8
               have Hx8 := Lib.hid hx8
               clear ho8 hx8))
          go_roundw
          case rel =>
            refine ⟨k + 1, out ++ [y], by omega, by go_num, HR2.out, by simp; omega, Ho8.out, ?_, ?_, ?_⟩
            · exact ownKeptT (by decide) HO4.out HS4.out Hx8.out
            · exact HB4.out.trans (Hx8.out.below hbs fun q hq => (HO4.out.blk q hq).1)
            · have := Hx8.out.gr.size; have := Hz4.out; omega
          case measure => simp [intOf]; omega
    · have e : k = ls.length := by omega
      have hre := Hre.out
      rw [e, List.drop_length] at hre
      unfold readE at hre
      have HR2 : Hid (R = (out, 0, 0)) := Lib.hid hre.symm
      have hd0 : decide (k < ls.length) = false := decide_eq_false (by omega)
      clear hre Hre e hlt
      go_wp2_with fail
      go_ret3
      rw [HR2.out]
      exact ⟨_, rfl, HOut.out, HBw.out⟩
end Go.Proofs.YtcffeepgfjpcaaaGreat

namespace Go.Proofs.YtcffeepgfjpcaaaGreat
set_option linter.unusedSimpArgs false
set_option linter.unusedVariables false
open Go.RowKit

theorem lineStep_run (a : List UInt8) (h : ∀ x ∈ a, x ≠ 10) : ∀ (p : List (List UInt8)) (q : List UInt8), a.foldl lineStep (p, q) = (p, q ++ a) := by
  induction a with
  | nil => intro p q; simp
  | cons c t ih =>
    intro p q
    rw [List.foldl_cons]
    have : lineStep (p, q) c = (p, q ++ [c]) := by unfold lineStep; rw [if_neg (h c (by simp))]
    rw [this, ih (fun x hx => h x (by simp [hx]))]
    simp
theorem lineStep_pre (t : List UInt8) : ∀ (p : List (List UInt8)) (q : List UInt8) (p0 : List (List UInt8)), t.foldl lineStep (p0 ++ p, q) = (p0 ++ (t.foldl lineStep (p, q)).1, (t.foldl lineStep (p, q)).2) := by
  induction t with
  | nil => intro p q p0; rfl
  | cons c t ih =>
    intro p q p0
    rw [List.foldl_cons, List.foldl_cons]
    by_cases h : c = 10
    · have e1 : lineStep (p0 ++ p, q) c = (p0 ++ (p ++ [q]), []) := by unfold lineStep; rw [if_pos h]; simp
      have e2 : lineStep (p, q) c = (p ++ [q], []) := by unfold lineStep; rw [if_pos h]
      rw [e1, e2, ih]
    · have e1 : lineStep (p0 ++ p, q) c = (p0 ++ p, q ++ [c]) := by unfold lineStep; rw [if_neg h]
      have e2 : lineStep (p, q) c = (p, q ++ [c]) := by unfold lineStep; rw [if_neg h]
      rw [e1, e2, ih]
theorem linesP_none (l : List UInt8) (h : ∀ x ∈ l, x ≠ 10) (h0 : 0 < l.length) : linesP l = [l] := by
  unfold linesP
  rw [lineStep_run l h]
  unfold lastOn
  rw [if_pos (by simpa using h0)]
  rfl
theorem linesP_cut (l : List UInt8) (o : Nat) (ho : o < l.length) (h : ∀ x ∈ l.take o, x ≠ 10) (hs : l[o] = 10) : linesP l = l.take o :: linesP (l.drop (o + 1)) := by
  have hl : l = l.take o ++ l[o] :: l.drop (o + 1) := by rw [← List.drop_eq_getElem_cons ho, List.take_append_drop]
  have e0 : linesP l = lastOn ((l.take o ++ l[o] :: l.drop (o + 1)).foldl lineStep ([], [])) := by rw [← hl]; rfl
  rw [e0, List.foldl_append, lineStep_run _ h, List.foldl_cons, List.nil_append]
  have e2 : lineStep ([], l.take o) l[o] = ([l.take o], []) := by unfold lineStep; rw [if_pos hs]; rfl
  rw [e2]
  have := lineStep_pre (l.drop (o + 1)) [] [] [l.take o]
  rw [List.append_nil] at this
  rw [this]
  unfold linesP lastOn
  simp only
  split <;> simp
set_option maxRecDepth 100000 in
theorem tlines_any (w : World) (v : Value) (A : Option Addr) (n c : Nat) (hv : v = .slice A n c) : Calls Tryz.prog 39 #[v] w fun e w' => e = .returned (.func (.func 68) #[] #[.pointer (some ⟨w.heap.size, 0, none⟩)]) ∧ BoxAt 40 w' w.heap.size [.slice A n c] ∧ Below w.heap.size w w' ∧ w'.heap.size = w.heap.size + 1 := by
  subst hv
  go_enter Tryz.func39, Tryz.ntmps39
  go_wp2_with fail
  go_ret
  exact ⟨rfl, BoxAt.new_ 40 w [.slice A n c], balloc _ _, by simp⟩
end Go.Proofs.YtcffeepgfjpcaaaGreat

namespace Go.Proofs.YtcffeepgfjpcaaaGreat
set_option linter.unusedSimpArgs false
set_option linter.unusedVariables false
open Go.RowKit Go.Shelf

theorem wpIn_scope_wide {n : Nat} {P : Program} {c : Code} {Q : Exit → Act → World → Prop} {a : Act} {w : World} (h : c.wpIn Fence.wide n P (Exit.noGoto Q) a w) : (Code.scope c).wpIn Fence.wide n P Q a w := wpIn_wide.2 (wp_scope_straight (wpIn_wide.1 h))
def KrL (Bs : Nat) (A : Option Addr) (n : Nat) (X Y : World) : Prop := Y.heap[Bs]? = X.heap[Bs]? ∧ (0 < n → ∀ ad, A = some ad → Y.heap[ad.block]? = X.heap[ad.block]?)
theorem cell_heap {X Y : World} {p : Addr} (h : X.heap[p.block]? = Y.heap[p.block]?) : X.cell? p = Y.cell? p := by unfold World.cell?; rw [h]
theorem By.heap {X Y : World} {B n c : Nat} {A : Option Addr} {l : List UInt8} (h : By X B (.slice A n c) l) (hh : ∀ ad, A = some ad → Y.heap[ad.block]? = X.heap[ad.block]?) : By Y B (.slice A n c) l := by
  obtain ⟨A', c', e, h1, h2, h3, h4⟩ := h
  injection e with e1 e2 e3
  subst e1; subst e2; subst e3
  refine ⟨A, c, rfl, h1, h2, h3, fun hn => ?_⟩
  obtain ⟨ad, hA, hb, hc⟩ := h4 hn
  exact ⟨ad, hA, hb, fun j u hu => (cell_heap (by rw [add_block]; exact hh ad hA)).trans (hc j u hu)⟩
theorem byTop {w : World} {B n c : Nat} {A : Option Addr} {l : List UInt8} (h : By w B (.slice A n c) l) : By w w.heap.size (.slice A n c) l := by
  obtain ⟨A', c', e, h1, h2, h3, h4⟩ := h
  refine ⟨A', c', e, h1, h2, h3, fun hn => ?_⟩
  obtain ⟨ad, hA, hb, hc⟩ := h4 hn
  refine ⟨ad, hA, ?_, hc⟩
  have hp : 0 < (b8s l).length := by rw [b8s_length]; simpa using hn
  have := hc 0 _ (List.getElem?_eq_getElem hp)
  rcases Nat.lt_or_ge ad.block w.heap.size with h | h
  · exact h
  · exfalso
    have e : w.heap[(ad.add 0).block]? = none := by rw [add_block]; exact Array.getElem?_eq_none h
    unfold World.cell? at this
    rw [e] at this
    cases this
set_option maxRecDepth 100000 in
set_option maxHeartbeats 3200000 in
theorem lines_iter (n : Nat) (hn : 1 ≤ n) (w : World) (Bs : Nat) (A : Option Addr) (c : Nat) (b : List UInt8) (hl : b.length ≤ 1048576) (hbox : BoxAt 40 w Bs [.slice A b.length c]) (hby : By w w.heap.size (.slice A b.length c) b) :
    IterX (α := Nat × List UInt8) Tryz.prog n 68 #[.pointer (some ⟨Bs, 0, none⟩)] (fun x => #[.int .i64 (x.1 : Int), .string (bst x.2)]) (KrL Bs A b.length)
      (fun pre x _ => pre.length < (linesP b).length ∧ x = (pre.length + 1, (linesP b).getD pre.length [])) (fun xs _ => xs.length = (linesP b).length) (fun pre => True) (fun _ => True) w := by
  intro l J Jx W hW hJ hJx hY h0
  have hbW := hbox.bl_ hW
  have hyW := (hby.below hW).more hW.size
  obtain ⟨_, hc1, hc2⟩ := hyW.len_
  unfold maxLen at hc2
  have HbW := Lib.hid hbW
  have HyW := Lib.hid hyW
  have HY := Lib.hid hY
  have H0 := Lib.hid h0
  clear hY hbox hby hJ hJx hbW hyW h0
  refine callsIn_of_wp Tryz.func68 rfl trivial ?_ rfl
  simp only [Tryz.ntmps68, List.size_toArray, List.length_cons, List.length_nil, Nat.reduceAdd, Nat.reduceSub, Array.replicate_succ, Array.replicate_zero, List.push_toArray, List.append_toArray, List.nil_append, List.cons_append]
  gi_wp2
  refine wpIn_scope_wide ?_
  gi_wp2
  refine wpIn_label ?_
  gi_wp2
  gi_loopw [3, 4] (fun fr nn wr => ∃ (k : Nat) (pre : List (Nat × List UInt8)), k ≤ b.length ∧ fr = .int .i64 (k : Int) ∧ nn = .int .i64 (pre.length : Int) ∧ pre.length ≤ k ∧ (∃ P : List (List UInt8), linesP b = P ++ linesP (b.drop k) ∧ P.length = pre.length) ∧ BoxAt 40 wr Bs [.slice A b.length c] ∧ By wr wr.heap.size (.slice A b.length c) b ∧ J pre wr) (fun fr _ _ => b.length - (intOf fr).toNat)
  case atStart => exact ⟨0, [], Nat.zero_le _, rfl, rfl, Nat.le_refl _, ⟨[], rfl, rfl⟩, HbW.out, HyW.out, H0.out⟩
  case round =>
    obtain ⟨k, pre, hk, rfl, rfl, hpk, hP, hbx, hby, hJp⟩ := hrel
    have hbc := hbx.cell 0 _ rfl
    have Hbx := Lib.hid hbx
    have Hby := Lib.hid hby
    have HP := Lib.hid hP
    have HJp := Lib.hid hJp
    clear hbx hby hP hJp H0 HbW HyW
    by_cases hlt : k < b.length
    · have hdk : decide (k < b.length) = true := decide_eq_true hlt
      have hbk := Hby.out.back_ (k := k) (by omega)
      rw [if_neg (by omega : ¬ c = k)] at hbk
      obtain ⟨rest, hrest⟩ : ∃ rest, rest = b.drop k := ⟨_, rfl⟩
      have hrl : rest.length = b.length - k := by rw [hrest, List.length_drop]
      rw [← hrest] at hbk
      obtain ⟨ad, rfl, hcell⟩ : ∃ ad, A = some ad ∧ ∀ j, (hj : j < rest.length) → wr.cell? ((ad.add k).add j) = some (.int .u8 ((rest[j]).toNat : Int)) := by
        obtain ⟨A2, c2, e2, _, _, _, h4⟩ := id hbk
        injection e2 with e2
        obtain ⟨ad2, hA2, hb2, hc2⟩ := h4 (by rw [hrl]; omega)
        cases A with
        | none => rw [← e2] at hA2; cases hA2
        | some ad =>
          rw [← e2] at hA2
          injection hA2 with hA2
          have hA2 : ad.add k = ad2 := hA2
          refine ⟨ad, rfl, fun j hj => ?_⟩
          rw [hA2]
          exact hc2 j _ (by simp [b8s, b8, List.getElem?_eq_getElem hj])
      have hbk2 : By wr wr.heap.size (.slice (some (ad.add k)) rest.length (c - k)) rest := by rw [hrl]; exact hbk
      have hcvA := conv8 hbk2
      have hcvf : ∀ j, j ≤ rest.length → (convert 40 9 (.slice (some (ad.add k)) j (c - k))).run Tryz.prog wr = .ok (.string (bst (rest.take j))) wr := fun j hj => conv8 (hbk2.front_ hj)
      have Hcell := Lib.hid hcell
      have HcvA := Lib.hid hcvA
      have Hcvf := Lib.hid hcvf
      have Hrest := Lib.hid hrest
      have Hrl := Lib.hid hrl
      have hkl : k + rest.length = b.length := by omega
      clear hcell hcvA hcvf hrest hbk hbk2
      gi_wp2
      rw [← Hrl.out]
      gi_loopw [3, 17] (fun fr at_ wr2 => ∃ j : Nat, j ≤ rest.length ∧ fr = .int .i64 (k : Int) ∧ at_ = .int .i64 (j : Int) ∧ (∀ x ∈ rest.take j, x ≠ 10) ∧ wr2 = wr) (fun _ at_ _ => rest.length - (intOf at_).toNat)
      case atStart => exact ⟨0, Nat.zero_le _, rfl, rfl, (fun x hx => by simp at hx), rfl⟩
      case round =>
        obtain ⟨j, hj, rfl, rfl, hno, hww⟩ := hrel
        obtain rfl := hww.symm
        by_cases hjl : j < rest.length
        · have hx := Hcell.out j hjl
          obtain ⟨ch, hch⟩ : ∃ ch, ch = rest[j] := ⟨_, rfl⟩
          rw [← hch] at hx
          have Hno := Lib.hid hno
          have Hch := Lib.hid hch
          have hdj : decide (j < rest.length) = true := decide_eq_true hjl
          clear hno hch
          by_cases h10 : ch = 10
          · have hd : (((ch.toNat : Int)) != 10) = false := by rw [h10]; rfl
            have hlp := linesP_cut rest j hjl Hno.out (by rw [← Hch.out]; exact h10)
            obtain ⟨P, hP1, hP2⟩ := HP.out
            rw [← Hrest.out, hlp] at hP1
            have hlen : pre.length < (linesP b).length := by rw [hP1]; simp; omega
            have hget : (linesP b).getD pre.length [] = rest.take j := by rw [hP1, ← hP2]; simp [List.getD]
            have HY1 := HY.out pre (pre.length + 1, rest.take j) wr HJp.out ⟨hlen, by rw [hget]⟩ trivial
            obtain ⟨fn, tmps, assign, body, hy, hR⟩ := HY1
            have hcj := Hcvf.out j hj
            have HP1 := Lib.hid hP1
            have HP2 := Lib.hid hP2
            have hn1 : (((pre.length + 1 : Nat)) : Int) = (pre.length : Int) + 1 := rfl
            simp only [hn1] at hy
            obtain ⟨ln, hln⟩ : ∃ ln, ln = rest.take j := ⟨_, rfl⟩
            rw [← hln] at hcj hR
            simp only [← hln] at hy
            have Hln := Lib.hid hln
            clear hlp hP1 hP2 hlen hget hln h10
            gi_wp2
            refine hR.mono ?_
            clear hR hy
            rintro e W3 (⟨rfl, hJ3, hk3, -⟩ | ⟨rfl, hJx3⟩)
            · have hbx3 : BoxAt 40 W3 Bs [.slice (some ad) b.length c] := hk3.1.trans Hbx.out
              have hby3 : By W3 W3.heap.size (.slice (some ad) b.length c) b := byTop (Hby.out.heap (hk3.2 (by omega)))
              have Hbx3 := Lib.hid hbx3
              have Hby3 := Lib.hid hby3
              have HJ3 := Lib.hid hJ3
              clear hbx3 hby3 hJ3 hk3
              gi_wp2
              refine ⟨⟨k + j + 1, pre ++ [(pre.length + 1, ln)], by omega, by go_num, by simp, by simp; omega, ⟨P ++ [ln], ?_, by simp [HP2.out]⟩, Hbx3.out, Hby3.out, HJ3.out⟩, by simp [intOf]; omega⟩
              rw [HP1.out, Hln.out, Hrest.out, List.drop_drop]
              simp [Nat.add_assoc]
            · gi_wp2
              rw [Exit.noGoto_ret]
              refine bodyPost_ret (results_none rfl _ _ _) rfl ?_
              exact ⟨⟨_, rfl⟩, .inr ⟨_, trivial, hJx3⟩⟩
          · have hd : (((ch.toNat : Int)) != 10) = true := bne_iff_ne.2 fun e => h10 (UInt8.toNat_inj.1 (by have : ((ch.toNat : Nat) : Int) = 10 := e; have h10 : (10 : UInt8).toNat = 10 := rfl; omega))
            gi_wp2
            go_roundw
            case rel =>
              refine ⟨j + 1, by omega, by first | rfl | trivial, by go_num, ?_, by first | rfl | trivial⟩
              intro x hx
              rw [List.take_succ_eq_append_getElem hjl] at hx
              rcases List.mem_append.1 hx with hx | hx
              · exact Hno.out x hx
              · rw [List.mem_singleton] at hx
                rw [hx, ← Hch.out]
                exact h10
            case measure => simp [intOf]; omega
        · have e : j = rest.length := by omega
          subst e
          have hdj : decide (rest.length < rest.length) = false := decide_eq_false (by omega)
          have hlp := linesP_none rest (fun x hx => hno x (by rw [List.take_length]; exact hx)) (by omega)
          obtain ⟨P, hP1, hP2⟩ := HP.out
          rw [← Hrest.out, hlp] at hP1
          have hlen : pre.length < (linesP b).length := by rw [hP1]; simp; omega
          have hget : (linesP b).getD pre.length [] = rest := by rw [hP1, ← hP2]; simp [List.getD]
          have hlen2 : pre.length + 1 = (linesP b).length := by rw [hP1]; simp; omega
          have HY1 := HY.out pre (pre.length + 1, rest) wr HJp.out ⟨hlen, by rw [hget]⟩ trivial
          obtain ⟨fn, tmps, assign, body, hy, hR⟩ := HY1
          have hcA : (convert 40 9 (.slice (some (ad.add k)) (b.length - k) (c - k))).run Tryz.prog wr = .ok (.string (bst rest)) wr := by rw [← Hrl.out]; exact HcvA.out
          have hn1 : (((pre.length + 1 : Nat)) : Int) = (pre.length : Int) + 1 := rfl
          simp only [hn1] at hy
          have Hlen2 := Lib.hid hlen2
          clear hlp hP1 hP2 hlen hget hno hlen2
          gi_wp2
          refine hR.mono ?_
          clear hR hy
          rintro e W3 (⟨rfl, hJ3, hk3, -⟩ | ⟨rfl, hJx3⟩)
          · have HJ3 := Lib.hid hJ3
            clear hJ3 hk3
            gi_wp2
            rw [Exit.noGoto_normal]
            go_end0
            exact ⟨⟨_, rfl⟩, .inl ⟨_, by rw [List.length_append, List.length_singleton]; exact Hlen2.out, HJ3.out⟩⟩
          · have HJx3 := Lib.hid hJx3
            clear hJx3
            gi_wp2
            rw [Exit.noGoto_normal]
            go_end0
            exact ⟨⟨_, rfl⟩, .inr ⟨_, trivial, HJx3.out⟩⟩
    · have e : k = b.length := by omega
      have hdk : decide (k < b.length) = false := decide_eq_false hlt
      have hfin : pre.length = (linesP b).length := by
        obtain ⟨P, h1, h2⟩ := HP.out
        rw [h1, e, List.drop_length, show linesP [] = [] from rfl, List.append_nil, h2]
      have Hfin := Lib.hid hfin
      clear hfin e hlt
      gi_wp2
      rw [Exit.noGoto_normal]
      go_end0
      exact ⟨⟨_, rfl⟩, .inl ⟨_, Hfin.out, HJp.out⟩⟩
end Go.Proofs.YtcffeepgfjpcaaaGreat

namespace Go.Proofs.YtcffeepgfjpcaaaGreat
set_option linter.unusedSimpArgs false
set_option linter.unusedVariables false
open Go.RowKit Go.Shelf
attribute [local go_sem] Oper.semAt_some

def EdgI (m : Nat) (w : World) (ls : List (List UInt8)) (R : List GEdge × Int × Int) (pre : List (Nat × List UInt8)) (W : World) : Prop :=
  (∃ va out, BoxAt 22 W (m + 3) [va] ∧ OwnF 55 cEdge W (m + 5) va out ∧ readE (ls.drop pre.length) pre.length out = R ∧ out.length ≤ pre.length) ∧
    BoxAt 22 W m [.slice none 0 0] ∧ BoxAt 3 W (m + 1) [.int .i64 0] ∧ BoxAt 33 W (m + 2) [.int .i64 0] ∧ Below m w W ∧ m + 5 ≤ W.heap.size ∧ pre.length ≤ ls.length
theorem EdgI.own (m B : Nat) (w : World) (ls : List (List UInt8)) (R : List GEdge × Int × Int) (hB : m ≤ B) (hw : m ≤ w.heap.size) : OwnFrom B (EdgI m w ls R) := by
  rintro pre X Y row ⟨⟨va, out, i1, i2, i3, i4⟩, i5, i6, i7, i8, i9, i10⟩ hg hr
  have hr2 := fun r e => (hr r e).2
  exact ⟨⟨va, out, i1.ownk hg hr2, OwnR.ownk i2 hg hr2, i3, i4⟩, i5.ownk hg hr2, i6.ownk hg hr2, i7.ownk hg hr2, i8.grown hg (Nat.le_trans hw i8.size) (fun r e => by have := (hr r e).1; omega), Nat.le_trans i9 hg.size, i10⟩
section
variable {F : Fence} {n : Nat} {ops : Array Oper} {rest : List Oper} {o : Oper} {a : Act} {w : World} {Q : Exit → Act → World → Prop}
theorem wpListIn_slice1 (hgd : o.guard = none) (T : TypeId) (x : Operand) (ho : o.op = .buildSlice T 1 #[(0, x)]) (y : Value) (hx : a.eval x = y) (v : Value) (w' : World) (hr : (Instr.buildSlice T 1 #[(0, y)]).run Tryz.prog w = .ok v w')
    (h : wpListIn F n Tryz.prog ops Q rest (a.put o.dst v) w') : wpListIn F n Tryz.prog ops Q (o :: rest) a w :=
  wpListIn_plain hgd fun K hK => by
    unfold Oper.wpIn
    refine ⟨by simp [Oper.about, ho], ?_⟩
    rw [Oper.semAt_plain F _ _ (by rw [ho]; intro c hc'; cases hc')]
    unfold execOp
    simp only [ho, List.map_toArray, List.map_cons, List.map_nil, hx, Sem.run_bind, hr, Result.andThen_ok]
    exact hK _ _ h
theorem wpListIn_store_se (hgd : o.guard = none) (x y : Operand) (ho : o.op = .store 22 x y) (g off : Nat) (A : Option Addr) (m c : Nat) (old : Value) (hx : a.eval x = .pointer (some ⟨g, off, none⟩)) (hy : a.eval y = .slice A m c)
    (hc : w.cell? ⟨g, off, none⟩ = some old) (hf : w.frozen? ⟨g, off, none⟩ = false)
    (h : wpListIn F n Tryz.prog ops Q rest (a.put o.dst undef) (w.setCell ⟨g, off, none⟩ (.slice A m c))) : wpListIn F n Tryz.prog ops Q (o :: rest) a w :=
  wpListIn_plain hgd fun K hK => by
    unfold Oper.wpIn
    refine ⟨by simp [Oper.about, ho], ?_⟩
    rw [Oper.semAt_plain F _ _ (by rw [ho]; intro c hc'; cases hc')]
    have hr : (execOp a.eval o).run Tryz.prog w = .ok .skip (w.setCell ⟨g, off, none⟩ (.slice A m c)) := by
      unfold execOp
      simp only [ho, hx, hy]
      simp [go_sem, hc, hf]
    rw [hr]
    exact hK _ _ h
end
set_option maxRecDepth 100000 in
set_option maxHeartbeats 3200000 in
theorem tread_any (w : World) (A : Option Addr) (c : Nat) (b : List UInt8) (hby : By w w.heap.size (.slice A b.length c) b) (hl : b.length ≤ 65000) :
    Calls Tryz.prog 15 #[.slice A b.length c] w fun e w' => ∃ v', e = .returned (.tuple #[v', .int .i64 (readE (linesP b) 0 []).2.1, .int .i64 (readE (linesP b) 0 []).2.2]) ∧ OwnF 55 cEdge w' w.heap.size v' (readE (linesP b) 0 []).1 ∧ Below w.heap.size w w' := by
  obtain ⟨w1, hw1⟩ : ∃ w1, w1 = (((w.alloc (.cells #[.slice none 0 0] 22)).alloc (.cells #[.int .i64 0] 3)).alloc (.cells #[.int .i64 0] 33)).alloc (.cells #[.slice none 0 0] 22) := ⟨_, rfl⟩
  have hb1 : Below w.heap.size w w1 := by rw [hw1]; exact bstep (bstep (bstep (balloc _ _) (balloc _ _)) (balloc _ _)) (balloc _ _)
  have hz1 : w1.heap.size = w.heap.size + 4 := by rw [hw1]; simp
  have hA1 : BoxAt 22 w1 w.heap.size [.slice none 0 0] := by rw [hw1]; exact (((BoxAt.new_ 22 w [.slice none 0 0]).alloc _).alloc _).alloc _
  have hN1 : BoxAt 3 w1 (w.heap.size + 1) [.int .i64 0] := by
    rw [hw1]
    have := ((BoxAt.new_ 3 (w.alloc (.cells #[.slice none 0 0] 22)) [.int .i64 0]).alloc (.cells #[.int .i64 0] 33)).alloc (.cells #[.slice none 0 0] 22)
    rwa [World.size_alloc] at this
  have hE1 : BoxAt 33 w1 (w.heap.size + 2) [.int .i64 0] := by
    rw [hw1]
    have := (BoxAt.new_ 33 ((w.alloc (.cells #[.slice none 0 0] 22)).alloc (.cells #[.int .i64 0] 3)) [.int .i64 0]).alloc (.cells #[.slice none 0 0] 22)
    rwa [World.size_alloc, World.size_alloc] at this
  have hV1 : BoxAt 22 w1 (w.heap.size + 3) [.slice none 0 0] := by
    rw [hw1]
    have := BoxAt.new_ 22 (((w.alloc (.cells #[.slice none 0 0] 22)).alloc (.cells #[.int .i64 0] 3)).alloc (.cells #[.int .i64 0] 33)) [.slice none 0 0]
    rwa [World.size_alloc, World.size_alloc, World.size_alloc] at this
  have hv := tlines_any w1 _ A b.length c rfl
  rw [hz1] at hv
  have hli := linesP_item b
  have hln := linesP_cnt b
  obtain ⟨ls, hls⟩ : ∃ ls, ls = linesP b := ⟨_, rfl⟩
  rw [← hls] at hli hln ⊢
  obtain ⟨R, hR⟩ : ∃ R, R = readE ls 0 [] := ⟨_, rfl⟩
  rw [← hR]
  have Hls := Lib.hid hls
  have HR := Lib.hid hR
  clear hls hR
  have Hw1 := Lib.hid hw1
  have Hv := Lib.hid hv
  have HA1 := Lib.hid hA1
  have HN1 := Lib.hid hN1
  have HE1 := Lib.hid hE1
  have HV1 := Lib.hid hV1
  have Hb1 := Lib.hid hb1
  have Hz1 := Lib.hid hz1
  have Hby := Lib.hid hby
  have Hli := Lib.hid hli
  obtain ⟨_, hc1, hc2⟩ := hby.len_
  unfold maxLen at hc2
  have hd0 : decide ((1048576 : Int) < (b.length : Int)) = false := decide_eq_false (by omega)
  clear hw1 hv hA1 hN1 hE1 hV1 hb1 hz1 hby hli
  refine (callsIn_wide (n := 5)).1 ?_
  refine callsIn_of_wp_marks Tryz.func15 rfl trivial ?_ rfl
  simp only [Tryz.ntmps15, List.size_toArray, List.length_cons, List.length_nil, Nat.reduceAdd, Nat.reduceSub, Array.replicate_succ, Array.replicate_zero, List.push_toArray, List.append_toArray, List.nil_append, List.cons_append]
  gi_wp2
  refine wpIn_scope_wide ?_
  gi_wp2
  refine wpIn_label ?_
  gi_wp2
  rw [← Hw1.out]
  refine ⟨trivial, ?_⟩
  refine (callsIn_wide.2 Hv.out).mono ?_
  rintro _ w5 ⟨rfl, hX5, hb5, hz5⟩
  have hze := Hz1.out
  have hb5' : Below w1.heap.size w1 w5 := by rw [hze]; exact hb5
  have hbw5 : Below w.heap.size w w5 := Hb1.out.trans (hb5'.mono (by omega))
  have hy5 := (Hby.out.below hbw5).more hbw5.size
  have hR := HR.out
  have hit := lines_iter 4 (by omega) w5 (w.heap.size + 4) A c b (by omega) hX5 hy5
  rw [← Hls.out] at hit
  have Hit := Lib.hid hit
  have HI0 : Hid (EdgI w.heap.size w ls R [] w5) := Lib.hid ⟨⟨_, [], HV1.out.bl_ hb5', OwnF.nil_ _ _, hR.symm, Nat.le_refl _⟩, HA1.out.bl_ hb5', HN1.out.bl_ hb5', HE1.out.bl_ hb5', hbw5, by omega, Nat.zero_le _⟩
  have HG : Hid (w5.heap.size = w.heap.size + 5) := Lib.hid (by omega)
  have HAd : Hid (∀ ad, A = some ad → 0 < b.length → ad.block < w.heap.size) := Lib.hid fun ad hA h0 => by
    obtain ⟨A', c', e, _, _, _, h4⟩ := Hby.out
    injection e with e
    subst e
    obtain ⟨ad2, hA2, hb2, _⟩ := h4 h0
    rw [hA] at hA2
    injection hA2 with hA2
    rw [hA2]
    exact hb2
  clear hX5 hb5 hz5 hze hb5' hbw5 hy5 hit hR
  gi_wp2
  have h5s := HG.out
  refine range_x (α := Nat × List UInt8) (encs := fun x => #[.int .i64 (x.1 : Int), .string (bst x.2)]) (gf := 68) (lb := #[.pointer (some ⟨w.heap.size + 4, 0, none⟩)]) rfl (enters_of Tryz.func68 (by kernel_rfl) rfl)
    (Kr := KrL (w.heap.size + 4) A b.length) (fun h k => ⟨k.1.trans h.1, fun hn ad e => (k.2 hn ad e).trans (h.2 hn ad e)⟩)
    (fun W q o o' h1 h2 h3 => ⟨World.putObj_heap_other (by omega), fun hn ad e => World.putObj_heap_other (by have := HAd.out ad e hn; omega)⟩)
    (fun _ => rfl) Hit.out
    (fun pre W => EdgI w.heap.size w ls R pre W)
    (fun c pre W => c = .ret ∧ BoxAt 22 W w.heap.size [.slice none 0 0] ∧ BoxAt 3 W (w.heap.size + 1) [.int .i64 R.2.1] ∧ BoxAt 33 W (w.heap.size + 2) [.int .i64 R.2.2] ∧ R.1 = [] ∧ Below w.heap.size w W)
    (EdgI.own w.heap.size w5.heap.size w ls R (by omega) (Nat.le_refl _)) ?hIx (fun _ _ _ _ h _ _ => h) HI0.out
    (fun _ pre x a' W => EdgI w.heap.size w ls R pre W ∧ pre.length < ls.length ∧ x = (pre.length + 1, ls.getD pre.length []) ∧ a' = { tmps := #[.slice A b.length c, undef, .pointer (some ⟨w.heap.size, 0, none⟩), .pointer (some ⟨w.heap.size + 1, 0, none⟩), .pointer (some ⟨w.heap.size + 1 + 1, 0, none⟩), .pointer (some ⟨w.heap.size + 1 + 1 + 1, 0, none⟩), .int .i64 (x.1 : Int), .string (bst x.2), undef, undef, undef, .slice A b.length c, .int .i64 (b.length : Int), .bool false, .slice A b.length c, .func (.func 68) #[] #[.pointer (some ⟨w.heap.size + 4, 0, none⟩)], .int .i64 (x.1 : Int), .string (bst x.2), undef, undef, undef, undef, undef, undef, undef, undef, undef, undef, undef, undef, undef, undef, undef, undef, undef, undef, undef, undef, undef, undef, undef, undef], defers := [] }) ?hAx ?assign ?body ?done ?stop
  case hIx =>
    rintro cd pre X Y row ⟨rfl, i1, i2, i3, i4, i5⟩ hg hr
    have hr2 := fun r e => (hr r e).2
    exact ⟨rfl, i1.ownk hg hr2, i2.ownk hg hr2, i3.ownk hg hr2, i4, i5.grown hg i5.size (fun r e => by have := (hr r e).1; omega)⟩
  case hAx =>
    rintro pre x a' _ X Y row ⟨i1, i2⟩ hg hr
    exact ⟨EdgI.own w.heap.size w5.heap.size w ls R (by omega) (Nat.le_refl _) _ _ _ _ i1 hg hr, i2⟩
  case assign =>
    rintro lq pre x W hlq hI ⟨hx1, hx2⟩
    have HI := Lib.hid hI
    have Hx2 := Lib.hid hx2
    clear hI hx2 h5s
    gi_wp2
    exact ⟨KeepsFrom.refl _ _, ⟨rfl, fun _ _ _ => rfl⟩, HI.out, Hx2.out.trans (by simp [List.getD, hx1])⟩
  case body =>
    rintro lq pre x a' W hlq ⟨⟨⟨va, out, i1, i2, i3, i4⟩, i5, i6, i7, i8, i9, i10⟩, hx1, hx2, rfl⟩ -
    obtain ⟨x1, x2⟩ := x
    injection hx2 with hx1e hx2e
    subst hx1e
    have hg : ls.getD pre.length [] = ls[pre.length] := by simp [List.getD, hx1]
    rw [hg] at hx2e
    have hlen : x2.length ≤ 1048576 := by have := Hli.out _ (List.getElem_mem hx1); rw [← hx2e] at this; omega
    have hdr : ls.drop pre.length = x2 :: ls.drop (pre.length + 1) := by rw [hx2e]; exact List.drop_eq_getElem_cons hx1
    rw [hdr] at i3
    unfold readE at i3
    have hone := tone_any W x2 hlen
    obtain ⟨y, hy⟩ : ∃ y, y = (oneW (wordsP x2)).1 := ⟨_, rfl⟩
    obtain ⟨is, his⟩ : ∃ is, is = (oneW (wordsP x2)).2.1 := ⟨_, rfl⟩
    obtain ⟨er, her⟩ : ∃ er, er = (oneW (wordsP x2)).2.2 := ⟨_, rfl⟩
    rw [← hy, ← his, ← her] at i3 hone
    unfold edgeV at hone
    obtain ⟨Av, cv, rfl, _, _, _⟩ := i2.form'
    have Hone := Lib.hid hone
    have I1 := Lib.hid i1
    have I2 := Lib.hid i2
    have I3 := Lib.hid i3
    have I5 := Lib.hid i5
    have I6 := Lib.hid i6
    have I7 := Lib.hid i7
    have I8 := Lib.hid i8
    have I9 := Lib.hid i9
    have hn1 : (((pre.length + 1 : Nat)) : Int) = (pre.length : Int) + 1 := rfl
    simp only [hn1]
    clear hg hx2e hdr i3 hone hy his her i1 i2 i5 i6 i7 i8 i9
    gi_wp2
    refine ⟨trivial, ?_⟩
    refine (CallsIn.inRound lq (callsIn_wide.2 Hone.out)).mono ?_
    rintro _ W2 ⟨rfl, hb2⟩
    have hs2 := hb2.size
    obtain ⟨W3, hW3⟩ : ∃ W3, W3 = W2.alloc (.cells (edgeC y).toArray 55) := ⟨_, rfl⟩
    have hb3 : Below W.heap.size W W3 := by rw [hW3]; exact bstep hb2 (balloc _ _)
    have hX3 : BoxAt 55 W3 W2.heap.size (edgeC y) := by rw [hW3]; exact BoxAt.new_ _ _ _
    have Honc : Hid (∀ u ∈ edgeC y, u.oneCell' = true) := Lib.hid fun u hu => by
      simp [edgeC] at hu
      rcases hu with rfl | rfl | rfl <;> rfl
    have hAx : Hid (w.heap.size ≤ W3.heap.size) := Lib.hid (by have := I9.out; have := hb3.size; omega)
    have J1 := Lib.hid (I1.out.bl_ hb3)
    have J2 := Lib.hid (I2.out.below_ hb3)
    have J5 := Lib.hid (I5.out.bl_ hb3)
    have J6 := Lib.hid (I6.out.bl_ hb3)
    have J7 := Lib.hid (I7.out.bl_ hb3)
    have J8 := Lib.hid (I8.out.trans (hb3.mono (by have := I9.out; omega)))
    have J9 : Hid (w.heap.size + 5 ≤ W3.heap.size) := Lib.hid (by have := I9.out; have := hb3.size; omega)
    have HW3 := Lib.hid hW3
    have HB3 := Lib.hid hb3
    have HX3 := Lib.hid hX3
    have hK3 := keepsBelow hb3 w5.heap.size
    have HK3 := Lib.hid hK3
    have HL3 : Hid (KrL (w.heap.size + 4) A b.length W W3) := Lib.hid ⟨hb3.block _ (by have := I9.out; omega), fun hn ad e => hb3.block _ (by have := HAd.out ad e hn; have := I9.out; omega)⟩
    clear hW3 hb2 hb3 hX3 hK3 I1 I2 I5 I6 I7 Hone
    by_cases he : ¬ er = 0
    · have hd : (er != 0) = true := by simp [bne, he]
      have hR2 := I3.out
      rw [if_pos he] at hR2
      have e1 : R.1 = [] := by rw [← hR2]
      have e2 : R.2.1 = (pre.length : Int) + 1 := by rw [← hR2]
      have e3 : R.2.2 = er := by rw [← hR2]
      have E1 := Lib.hid e1
      have E2 := Lib.hid e2
      have E3 := Lib.hid e3
      have c0 := J5.out.cell 0 _ rfl
      have f0 := J5.out.frozen 0
      have q6 := J6.out.other ⟨w.heap.size, 0, none⟩ (.slice none 0 0) (by show w.heap.size ≠ w.heap.size + 1; omega)
      have c1 := q6.cell 0 _ rfl
      have f1 := q6.frozen 0
      have q7 := (J7.out.other ⟨w.heap.size, 0, none⟩ (.slice none 0 0) (by show w.heap.size ≠ w.heap.size + 2; omega)).other ⟨w.heap.size + 1, 0, none⟩ (.int .i64 ((pre.length : Int) + 1)) (by show w.heap.size + 1 ≠ w.heap.size + 2; omega)
      have c2 := q7.cell 0 _ rfl
      have f2 := q7.frozen 0
      have Q6 := Lib.hid q6
      have Q7 := Lib.hid q7
      clear he I3 hR2 e1 e2 e3 q6 q7
      gi_wp2_with (first
        | ((with_reducible refine wpListIn_alloc_z ?_ 55 ?_ infoEdge zeroEc ?_ ?_); exact rfl; exact rfl; exact rfl)
        | ((with_reducible refine wpListIn_store_new ?_ 55 (.tmp 8) (.tmp 21) ?_ zeroEc (edgeC y) ?_ ?_ ?_ ?_ Honc.out ?_); exact rfl; exact rfl; exact rfl; exact rfl; exact infoEdge3; exact rfl; rw [← HW3.out]))
      have hcA : Chg (fun k => k = w.heap.size) W3 (W3.setCell ⟨w.heap.size, 0, none⟩ (.slice none 0 0)) := Chg.set _ _ _ rfl
      have hcB : Chg (fun k => k = w.heap.size + 1) (W3.setCell ⟨w.heap.size, 0, none⟩ (.slice none 0 0)) ((W3.setCell ⟨w.heap.size, 0, none⟩ (.slice none 0 0)).setCell ⟨w.heap.size + 1, 0, none⟩ (.int .i64 ((pre.length : Int) + 1))) := Chg.set _ _ _ rfl
      have hcC : Chg (fun k => k = w.heap.size + 2) ((W3.setCell ⟨w.heap.size, 0, none⟩ (.slice none 0 0)).setCell ⟨w.heap.size + 1, 0, none⟩ (.int .i64 ((pre.length : Int) + 1))) (((W3.setCell ⟨w.heap.size, 0, none⟩ (.slice none 0 0)).setCell ⟨w.heap.size + 1, 0, none⟩ (.int .i64 ((pre.length : Int) + 1))).setCell ⟨w.heap.size + 1 + 1, 0, none⟩ (.int .i64 er)) := Chg.set _ _ _ rfl
      have hA2 := J5.out.put 0 (.slice none 0 0)
      have hB2 := Q6.out.put 0 (.int .i64 ((pre.length : Int) + 1))
      refine ⟨((HK3.out.trans (keepsChg hcA _ fun r hr _ => by subst hr; exact ⟨_, J5.out, rfl⟩)).trans (keepsChg hcB _ fun r hr _ => by subst hr; exact ⟨_, Q6.out, rfl⟩)).trans (keepsChg hcC _ fun r hr _ => by subst hr; exact ⟨_, Q7.out, rfl⟩), rfl,
        (hA2.chg hcB (by omega)).chg hcC (by omega), ?_, ?_, E1.out, ?_⟩
      · rw [E2.out]
        exact hB2.chg hcC (by omega)
      · rw [E3.out]
        exact Q7.out.put 0 (.int .i64 er)
      · exact ((J8.out.setCell (p := ⟨w.heap.size, 0, none⟩) (Nat.le_refl _) _).setCell (p := ⟨w.heap.size + 1, 0, none⟩) (by show w.heap.size ≤ w.heap.size + 1; omega) _).setCell (p := ⟨w.heap.size + 1 + 1, 0, none⟩) (by show w.heap.size ≤ w.heap.size + 1 + 1; omega) _
    · have he := Classical.not_not.1 he
      have hd : (er != 0) = false := by simp [bne, he]
      have hR2 := Lib.hid ((if_neg (c := er ≠ 0) (by simp [he])).symm.trans I3.out)
      clear he I3
      cases is
      · gi_wp2_with (first
          | ((with_reducible refine wpListIn_alloc_z ?_ 55 ?_ infoEdge zeroEc ?_ ?_); exact rfl; exact rfl; exact rfl)
          | ((with_reducible refine wpListIn_store_new ?_ 55 (.tmp 8) (.tmp 21) ?_ zeroEc (edgeC y) ?_ ?_ ?_ ?_ Honc.out ?_); exact rfl; exact rfl; exact rfl; exact rfl; exact infoEdge3; exact rfl; rw [← HW3.out]))
        refine ⟨HK3.out, HL3.out, ⟨⟨_, out, J1.out, J2.out, ?_, ?_⟩, J5.out, J6.out, J7.out, J8.out, J9.out, ?_⟩, trivial⟩
        · rw [List.length_append, List.length_singleton]
          exact hR2.out
        · rw [List.length_append, List.length_singleton]; omega
        · rw [List.length_append, List.length_singleton]; omega
      · have hd2 : ((out.length : Int) == 65536) = false := beq_eq_false_iff_ne.2 (by omega)
        have hcV := J1.out.cell 0 _ rfl
        have Hrs := Lib.hid (run_slice_edge W3 y)
        have HneV : Hid (Value.ownBlock (.slice Av out.length cv) ≠ some (w.heap.size + 3)) := Lib.hid fun e => by
          have := (J2.out.blk _ e).1
          omega
        gi_wp2_with (first
          | ((with_reducible refine wpListIn_alloc_z ?_ 55 ?_ infoEdge zeroEc ?_ ?_); exact rfl; exact rfl; exact rfl)
          | ((with_reducible refine wpListIn_store_new ?_ 55 (.tmp 8) (.tmp 21) ?_ zeroEc (edgeC y) ?_ ?_ ?_ ?_ Honc.out ?_); exact rfl; exact rfl; exact rfl; exact rfl; exact infoEdge3; exact rfl; rw [← HW3.out])
          | ((with_reducible refine wpListIn_load_agg ?_ 55 (.tmp 8) ?_ ⟨W2.heap.size, 0, none⟩ ?_ (edgeC y) HX3.out.cells Tryz.underlying55 ?_ ?_ ?_); exact rfl; exact rfl; exact rfl; exact rfl; exact infoEdge3)
          | ((with_reducible refine wpListIn_slice1 ?_ 22 (.tmp 38) ?_ (.agg (edgeC y).toArray) ?_ _ _ Hrs.out ?_); exact rfl; exact rfl; exact rfl)
          | ((with_reducible refine wpListIn_app1R (C := cEdge) ?_ (.tmp 37) (.tmp 39) 22 ?_ Tryz.underlying22 infoEc ?_ ?_ ?_ (edgeC y) J2.out (y := y) ?_ ?_ ?_ ?_ ?_ ?_); exact rfl; exact rfl; exact (by kernel_rfl); exact (by decide); exact (by decide); exact ⟨rfl, trivial⟩; exact rfl; exact rfl; exact (by omega); exact J9.out
             intro v6 w6 ho6 hx6
             have hV6 := J1.out.grown hx6.gr HneV.out
             obtain ⟨A6, c6, rfl, _, _, _⟩ := ho6.form'
             have hl6 : (out ++ [y]).length = out.length + 1 := by simp
             rw [hl6] at ho6 hx6
             have hcV6 := hV6.cell 0 _ rfl
             have hfV6 := hV6.frozen 0
             have Ho6 := Lib.hid ho6
             have Hx6 := Lib.hid hx6
             have HV6 := Lib.hid hV6
             clear ho6 hx6 hV6
             rw [hl6]
             refine wpListIn_store_se rfl (.tmp 5) (.tmp 40) rfl (w.heap.size + 1 + 1 + 1) 0 A6 (out.length + 1) c6 _ rfl rfl hcV6 hfV6 ?_))
        have h6s := Hx6.out.gr.size
        have hne6 := Hx6.out.ne (g := w.heap.size + 3) (by have := J9.out; omega) HneV.out
        have hc1 : Chg (fun k => (Value.slice Av out.length cv).ownBlock = some k) W3 w6 := Chg.ofGrown Hx6.out.gr fun k e => e
        have hc2 : Chg (fun k => k = w.heap.size + 3) w6 (w6.setCell ⟨w.heap.size + 1 + 1 + 1, 0, none⟩ (.slice A6 (out.length + 1) c6)) := Chg.set _ _ _ rfl
        have hk1 : ∀ k, (Value.slice Av out.length cv).ownBlock = some k → w.heap.size + 5 ≤ k := fun k hk => (J2.out.blk k hk).1
        have hkf := (HK3.out.trans (keepsChg hc1 w5.heap.size fun r hr _ => by
            obtain ⟨cur, hcur⟩ := OwnR.blkT J2.out r hr
            exact ⟨_, hcur, rfl⟩)).trans (keepsChg hc2 w5.heap.size fun r hr _ => by subst hr; exact ⟨_, HV6.out, rfl⟩)
        have hj9 := J9.out
        have hkl : KrL (w.heap.size + 4) A b.length W (w6.setCell ⟨w.heap.size + 1 + 1 + 1, 0, none⟩ (.slice A6 (out.length + 1) c6)) :=
          ⟨((hc2.block _ (by omega) (by omega)).trans (hc1.block _ (by omega) (fun e => by have := hk1 _ e; omega))).trans HL3.out.1,
           fun hn ad e => by
             have had := HAd.out ad e hn
             exact ((hc2.block _ (by omega) (by omega)).trans (hc1.block _ (by omega) (fun e2 => by have := hk1 _ e2; omega))).trans (HL3.out.2 hn ad e)⟩
        have hbl : Below w.heap.size W3 (w6.setCell ⟨w.heap.size + 1 + 1 + 1, 0, none⟩ (.slice A6 (out.length + 1) c6)) :=
          (Hx6.out.below (B := w.heap.size) (by omega) (fun q hq => by have := hk1 q hq; omega)).setCell (p := ⟨w.heap.size + 1 + 1 + 1, 0, none⟩) (by show w.heap.size ≤ w.heap.size + 1 + 1 + 1; omega) _
        have hss : (w6.setCell ⟨w.heap.size + 1 + 1 + 1, 0, none⟩ (.slice A6 (out.length + 1) c6)).heap.size = w6.heap.size := by simp [World.setCell]
        have box : ∀ {T : TypeId} {g : Nat} {cs : List Value}, BoxAt T W3 g cs → g < w.heap.size + 3 → BoxAt T (w6.setCell ⟨w.heap.size + 1 + 1 + 1, 0, none⟩ (.slice A6 (out.length + 1) c6)) g cs := fun hb hg =>
          (hb.chg hc1 (fun e => by have := hk1 _ e; omega)).chg hc2 (fun e => by omega)
        refine ⟨hkf, hkl, ⟨⟨_, out ++ [y], HV6.out.put 0 (.slice A6 (out.length + 1) c6), OwnR.chgT Ho6.out hc2 (fun k hk e => hne6 (by rw [hk, e])) (fun _ h => h.elim), ?_, ?_⟩, box J5.out (by omega), box J6.out (by omega), box J7.out (by omega), J8.out.trans hbl, by omega, ?_⟩, trivial⟩
        · rw [List.length_append, List.length_singleton]
          exact hR2.out
        · simp; omega
        · rw [List.length_append, List.length_singleton]; omega
  case done =>
    rintro D xs W hD hS ⟨⟨va, out, i1, i2, i3, i4⟩, i5, i6, i7, i8, i9, i10⟩ hK
    have hS' : xs.length = ls.length := by rw [hS, Hls.out]
    rw [hS', List.drop_length] at i3
    unfold readE at i3
    obtain ⟨Av, cv, rfl, _, _, _⟩ := i2.form'
    have hc6 := i1.cell 0 _ rfl
    have c0 := i5.cell 0 _ rfl
    have f0 := i5.frozen 0
    have q6 := i6.other ⟨w.heap.size, 0, none⟩ (.slice Av out.length cv) (by show w.heap.size ≠ w.heap.size + 1; omega)
    have c1 := q6.cell 0 _ rfl
    have f1 := q6.frozen 0
    have q7 := (i7.other ⟨w.heap.size, 0, none⟩ (.slice Av out.length cv) (by show w.heap.size ≠ w.heap.size + 2; omega)).other ⟨w.heap.size + 1, 0, none⟩ (.int .i64 0) (by show w.heap.size + 1 ≠ w.heap.size + 2; omega)
    have c2 := q7.cell 0 _ rfl
    have f2 := q7.frozen 0
    have I2 := Lib.hid i2
    have I3 := Lib.hid i3
    have I5 := Lib.hid i5
    have I8 := Lib.hid i8
    have Q6 := Lib.hid q6
    have Q7 := Lib.hid q7
    clear i1 i2 i3 i5 i6 i7 i8 q6 q7 hS hS' h5s
    gi_wp2
    rw [Exit.noGoto_ret]
    obtain ⟨W3, hW3⟩ : ∃ W3, W3 = ((W.setCell ⟨w.heap.size, 0, none⟩ (.slice Av out.length cv)).setCell ⟨w.heap.size + 1, 0, none⟩ (.int .i64 0)).setCell ⟨w.heap.size + 1 + 1, 0, none⟩ (.int .i64 0) := ⟨_, rfl⟩
    have hcA : Chg (fun k => k = w.heap.size) W (W.setCell ⟨w.heap.size, 0, none⟩ (.slice Av out.length cv)) := Chg.set _ _ _ rfl
    have hcB : Chg (fun k => k = w.heap.size + 1) (W.setCell ⟨w.heap.size, 0, none⟩ (.slice Av out.length cv)) ((W.setCell ⟨w.heap.size, 0, none⟩ (.slice Av out.length cv)).setCell ⟨w.heap.size + 1, 0, none⟩ (.int .i64 0)) := Chg.set _ _ _ rfl
    have hcC : Chg (fun k => k = w.heap.size + 2) ((W.setCell ⟨w.heap.size, 0, none⟩ (.slice Av out.length cv)).setCell ⟨w.heap.size + 1, 0, none⟩ (.int .i64 0)) W3 := by rw [hW3]; exact Chg.set _ _ _ rfl
    have hA3 : BoxAt 22 W3 w.heap.size [.slice Av out.length cv] := ((I5.out.put 0 (.slice Av out.length cv)).chg hcB (by omega)).chg hcC (by omega)
    have hB3 : BoxAt 3 W3 (w.heap.size + 1) [.int .i64 0] := (Q6.out.put 0 (.int .i64 0)).chg hcC (by omega)
    have hC3 : BoxAt 33 W3 (w.heap.size + 2) [.int .i64 0] := by rw [hW3]; exact Q7.out.put 0 (.int .i64 0)
    have hk1 : ∀ k, (Value.slice Av out.length cv).ownBlock = some k → w.heap.size + 5 ≤ k := fun k hk => (I2.out.blk k hk).1
    have hi2 : OwnF 55 cEdge W3 (w.heap.size + 5) (.slice Av out.length cv) out :=
      OwnR.chgT (OwnR.chgT (OwnR.chgT I2.out hcA (fun k hk e => by have := hk1 k hk; omega) (fun _ h => h.elim)) hcB (fun k hk e => by have := hk1 k hk; omega) (fun _ h => h.elim)) hcC (fun k hk e => by have := hk1 k hk; omega) (fun _ h => h.elim)
    have hb7 : Below w.heap.size w W3 := by
      rw [hW3]
      exact ((I8.out.setCell (p := ⟨w.heap.size, 0, none⟩) (Nat.le_refl _) _).setCell (p := ⟨w.heap.size + 1, 0, none⟩) (by show w.heap.size ≤ w.heap.size + 1; omega) _).setCell (p := ⟨w.heap.size + 1 + 1, 0, none⟩) (by show w.heap.size ≤ w.heap.size + 1 + 1; omega) _
    have hD5 : w.heap.size + 5 ≤ D := by have := HG.out; omega
    have hK3 : W3.heap[D]? = some (.deferred (some [])) := by
      rw [hW3]
      exact (Below.heap_setCell _ _ _ D (by show D ≠ w.heap.size + 1 + 1; omega)).trans ((Below.heap_setCell _ _ _ D (by show D ≠ w.heap.size + 1; omega)).trans ((Below.heap_setCell _ _ _ D (by show D ≠ w.heap.size; omega)).trans hK))
    rw [← hW3]
    clear hW3 hcA hcB hcC c0 c1 c2 f0 f1 f2 hc6 hk1
    refine ⟨by simp, .inl ⟨_, _, rfl, run_takeDeferred hK3, ?_⟩⟩
    have hgp := grownBy_putObj' W3 D (.deferred none)
    have hrp : ∀ r, some D = some r → ∃ o : Obj, W3.heap[r]? = some o ∧ o.isCells = false := fun r e => by cases e; exact ⟨_, hK3, rfl⟩
    have hA4 := (hA3.ownk hgp hrp).cell 0 _ rfl
    have hB4 := (hB3.ownk hgp hrp).cell 0 _ rfl
    have hC4 := (hC3.ownk hgp hrp).cell 0 _ rfl
    have hi4 := (OwnR.ownk hi2 hgp hrp).more (base' := w.heap.size) (by omega)
    have hb8 := hb7.trans (belowK_b (w := w) (Nat.le_refl _) W3 D _ (.deferred none) (by omega) hK3 rfl rfl)
    refine ⟨.tuple #[.slice Av out.length cv, .int .i64 0, .int .i64 0], ?_, _, by rw [← I3.out], by rw [← I3.out]; exact hi4, hb8⟩
    clear hi2 hi4 hb7 hb8
    simp [results, Tryz.f15, go_sem, hA4, hB4, hC4]
  case stop =>
    rintro D cd pre W hD _ ⟨rfl, i1, i2, i3, i4, i5⟩ hK
    have hgp := grownBy_putObj' W D (.deferred none)
    have hrp : ∀ r, some D = some r → ∃ o : Obj, W.heap[r]? = some o ∧ o.isCells = false := fun r e => by cases e; exact ⟨_, hK, rfl⟩
    have hA4 := (i1.ownk hgp hrp).cell 0 _ rfl
    have hB4 := (i2.ownk hgp hrp).cell 0 _ rfl
    have hC4 := (i3.ownk hgp hrp).cell 0 _ rfl
    have hb7 := i5.trans (belowK_b (w := w) (Nat.le_refl _) W D _ (.deferred none) (by omega) hK rfl rfl)
    have H7 := Lib.hid hb7
    have H4 := Lib.hid i4
    clear i1 i2 i3 i5 hb7 hgp hrp h5s
    gi_wp2
    rw [Exit.noGoto_ret]
    refine ⟨by simp, .inl ⟨_, _, rfl, run_takeDeferred hK, ?_⟩⟩
    refine ⟨.tuple #[.slice none 0 0, .int .i64 R.2.1, .int .i64 R.2.2], ?_, _, rfl, by rw [H4.out]; exact OwnF.nil_ _ _, H7.out⟩
    simp [results, Tryz.f15, go_sem, hA4, hB4, hC4]
end Go.Proofs.YtcffeepgfjpcaaaGreat

namespace Go.Proofs.YtcffeepgfjpcaaaGreat
set_option linter.unusedSimpArgs false
set_option linter.unusedVariables false
open Go.RowKit

/-- the weights of the edges of one name between two vertices -/
def wtE (l : List GEdge) (v to : UInt32) : Nat := l.foldl (fun n x => if x.fr = v ∧ x.to = to then n + x.wt.toNat else n) 0
theorem wtE_take (l : List GEdge) (v to : UInt32) (k : Nat) (hk : k < l.length) : wtE (l.take (k + 1)) v to = if l[k].fr = v ∧ l[k].to = to then wtE (l.take k) v to + l[k].wt.toNat else wtE (l.take k) v to := by
  unfold wtE
  rw [List.take_succ_eq_append_getElem hk, List.foldl_append]
  rfl
theorem wtE_le (l : List GEdge) (v to : UInt32) : wtE l v to ≤ l.length * 4294967295 := by
  have key : ∀ (l : List GEdge) (n : Nat), l.foldl (fun n x => if x.fr = v ∧ x.to = to then n + x.wt.toNat else n) n ≤ n + l.length * 4294967295 := by
    intro l
    induction l with
    | nil => intro n; simp
    | cons x t ih =>
      intro n
      rw [List.foldl_cons, List.length_cons]
      have hx := x.wt.toNat_lt
      refine Nat.le_trans (ih _) ?_
      split <;> omega
  have := key l 0
  rwa [Nat.zero_add] at this
theorem u32_beq (a b : UInt32) : (((a.toNat : Int)) == (b.toNat : Int)) = decide (a = b) := by
  by_cases h : a = b
  · rw [h]; simp
  · rw [decide_eq_false h]
    exact beq_eq_false_iff_ne.2 fun e => h (UInt32.toNat_inj.1 (by omega))
set_option maxRecDepth 100000 in
set_option maxHeartbeats 1600000 in
theorem wt_any (w : World) (B : Nat) (l : List GEdge) (A : Option Addr) (c : Nat) (hv : ByE w B (.slice A l.length c) l) (hl : l.length ≤ 1048577) (v to : UInt32) :
    Calls Tryz.prog 19 #[.slice A l.length c, .int .u32 (v.toNat : Int), .int .u32 (to.toNat : Int)] w fun e w' => e = .returned (.int .u64 (wtE l v to : Int)) ∧ w' = w := by
  have Hv := Lib.hid hv
  clear hv
  go_enter Tryz.func19, Tryz.ntmps19
  go_wp2_with fail
  go_loopw [7, 8] (fun n i wr => ∃ k : Nat, k ≤ l.length ∧ i = .int .i64 (k : Int) ∧ n = .int .u64 (wtE (l.take k) v to : Int) ∧ wr = w) (fun _ i _ => l.length - (intOf i).toNat)
  case atStart => exact ⟨0, Nat.zero_le _, rfl, rfl, rfl⟩
  case round =>
    obtain ⟨k, hk, rfl, rfl, hww⟩ := hrel
    obtain rfl := hww.symm
    by_cases hlt : k < l.length
    · obtain ⟨ad, rfl, hab, hcell⟩ := Hv.out.cells k hlt
      have hst := wtE_take l v to k hlt
      have hle := wtE_le (l.take k) v to
      rw [List.length_take] at hle
      obtain ⟨x, hx⟩ : ∃ x, x = l[k] := ⟨_, rfl⟩
      rw [← hx] at hcell hst
      have c0 := hcell 0 _ rfl
      have hc1 := hcell 1 _ rfl
      have hc2 := hcell 2 _ rfl
      obtain ⟨p, hp⟩ : ∃ p, p = ad.add (k * 3) := ⟨_, rfl⟩
      rw [← hp] at hc1 hc2
      have c1 : w.cell? { block := p.block, off := p.off + 1 } = some (.int .u32 (x.to.toNat : Int)) := by rw [← hc1]; simp [Addr.add]
      have c2 : w.cell? { block := p.block, off := p.off + 2 } = some (.int .u32 (x.wt.toNat : Int)) := by rw [← hc2]; simp [Addr.add]
      rw [hp] at c1 c2
      clear hp hc1 hc2
      rw [add_zero'] at c0
      obtain ⟨s, hs⟩ : ∃ s, s = wtE (l.take k) v to := ⟨_, rfl⟩
      rw [← hs] at hst hle
      have hdk : decide (k < l.length) = true := decide_eq_true hlt
      have hwl := x.wt.toNat_lt
      have hs1 : s ≤ 4503603922337791 := by
        have : min k l.length * 4294967295 ≤ 1048577 * 4294967295 := Nat.mul_le_mul (by omega) (Nat.le_refl _)
        omega
      have hwr : IntKind.u64.wrap ((s : Int) + (x.wt.toNat : Int)) = ((s + x.wt.toNat : Nat) : Int) := by rw [wrap_u64]; omega
      have hwr2 : IntKind.u64.wrap (x.wt.toNat : Int) = (x.wt.toNat : Int) := by rw [wrap_u64]; omega
      have b0 := u32_beq x.fr v
      have b1 := u32_beq x.to to
      have Hst := Lib.hid hst
      clear hcell hx hst hle hs1
      rw [← hs]
      clear hs
      generalize x.wt.toNat = wn at *
      obtain ⟨p1, hp1⟩ : ∃ p1, decide (x.fr = v) = p1 := ⟨_, rfl⟩
      obtain ⟨p2, hp2⟩ : ∃ p2, decide (x.to = to) = p2 := ⟨_, rfl⟩
      rw [hp1] at b0
      rw [hp2] at b1
      have Hyes : Hid (p1 = true → p2 = true → wtE (l.take (k + 1)) v to = s + wn) := Lib.hid fun h1 h2 => by
        rw [Hst.out, if_pos ⟨of_decide_eq_true (hp1.trans h1), of_decide_eq_true (hp2.trans h2)⟩]
      have Hno : Hid (p1 = false ∨ p2 = false → wtE (l.take (k + 1)) v to = s) := Lib.hid fun h => by
        rw [Hst.out, if_neg]
        rintro ⟨h1, h2⟩
        rcases h with h | h
        · exact of_decide_eq_false (hp1.trans h) h1
        · exact of_decide_eq_false (hp2.trans h) h2
      clear hp1 hp2 Hst
      generalize x.fr.toNat = xf at *
      generalize x.to.toNat = xt at *
      cases p1
      · have HN := Lib.hid (Hno.out (.inl rfl))
        clear Hno Hyes
        go_wp2_with fail
        go_roundw
        case rel => exact ⟨k + 1, by omega, by go_num, by rw [HN.out], by first | rfl | trivial⟩
        case measure => simp [intOf]; omega
      · cases p2
        · have HN := Lib.hid (Hno.out (.inr rfl))
          clear Hno Hyes
          go_wp2_with fail
          go_roundw
          case rel => exact ⟨k + 1, by omega, by go_num, by rw [HN.out], by first | rfl | trivial⟩
          case measure => simp [intOf]; omega
        · have HN := Lib.hid (Hyes.out rfl rfl)
          clear Hno Hyes
          go_wp2_with fail
          go_roundw
          case rel => exact ⟨k + 1, by omega, by go_num, by rw [HN.out]; rfl, by first | rfl | trivial⟩
          case measure => simp [intOf]; omega
    · have e : k = l.length := by omega
      have hdk : decide (k < l.length) = false := decide_eq_false hlt
      rw [e, List.take_length]
      clear e hlt
      obtain ⟨s, hs⟩ : ∃ s, s = wtE l v to := ⟨_, rfl⟩
      rw [← hs]
      have Hs := Lib.hid hs
      clear hs
      go_wp2_with fail
      go_ret
      exact ⟨by rw [← Hs.out]; rfl, rfl⟩
end Go.Proofs.YtcffeepgfjpcaaaGreat

namespace Go.Proofs.YtcffeepgfjpcaaaGreat
set_option linter.unusedSimpArgs false
set_option linter.unusedVariables false
open Go.RowKit Go.Maps

/-- numbers under a word: each's place in the job, the least, the greatest -/
structure NumSpec where
  key : List UInt8
  l : List (Nat × Nat × Nat)
def numT : List NumSpec := [
  ⟨[108, 101, 110, 103, 116, 104], [(2, 0, 65536)]⟩, ⟨[119, 97, 108, 107, 115], [(3, 1, 65536)]⟩, ⟨[114, 101, 115, 116, 97, 114, 116], [(5, 0, 4294967295), (6, 1, 4294967295)]⟩,
  ⟨[98, 105, 97, 115], [(7, 1, 65536), (8, 1, 65536)]⟩, ⟨[116, 114, 105, 101, 115], [(9, 1, 1024)]⟩, ⟨[98, 101, 115, 116], [(10, 0, 1024)]⟩, ⟨[115, 104, 97, 114, 100], [(11, 1, 65536)]⟩,
  ⟨[114, 111, 111, 109], [(12, 1, 16777216)]⟩, ⟨[112, 111, 111, 108], [(13, 2, 65536)]⟩, ⟨[115, 111, 114, 116], [(14, 1, 4096)]⟩]
def specC (gj : Nat) (l : List (Nat × Nat × Nat)) : List Value := l.flatMap fun x => [.pointer (some ⟨gj, x.1, none⟩), .int .u64 (x.2.1 : Int), .int .u64 (x.2.2 : Int)]
def mkS (c : Nat × Nat) : Value := .slice (some ⟨c.1, 0, none⟩) c.2 c.2
def nsR (v : Value) : Option (DataW Value × List MemPlace) :=
  match v with
  | .slice (some ⟨_, 0, none⟩) n c => if n = c then some (.held v, []) else none
  | _ => none
theorem nsR_mk (c : Nat × Nat) : nsR (mkS c) = some (.held (mkS c), []) := by simp [nsR, mkS]
theorem nsR_inv (v : Value) (y : DataW Value × List MemPlace) (h : nsR v = some y) : ∃ c, v = mkS c := by
  unfold nsR at h
  split at h
  · rename_i g n c
    split at h
    · rename_i e
      subst e
      exact ⟨(g, n), rfl⟩
    · cases h
  · cases h
theorem keyOf_str (s : List UInt8) (hs : s.length ≤ maxLen) : keyOf Tryz.prog 9 (.string (bst s)) = some (.string s) := by
  have e : (bst s).data.toList = s := by simp [bst]
  have e2 : (bst s).size ≤ maxLen := by show s.toArray.size ≤ maxLen; simpa using hs
  rw [keyOf_string Tryz.underlying9]
  simp [mapKey, Tryz.underlying9, e, e2]
/-- block b is a map of just the words of S, each to its numbers of the job at gj -/
def NumMap (W : World) (b gj : Nat) (S : NumSpec → Prop) (n : Nat) : Prop :=
  ∃ D : DataW Value, W.ownsMap Tryz.prog 9 nsR b n D ∧
    (∀ kl, has D kl = true → ∃ x, S x ∧ ∃ g, kl = .string x.key ∧ (∀ z, D.atKey kl z = .held (mkS (g, x.l.length))) ∧ BoxAt 211 W g (specC gj x.l)) ∧ ∀ x, S x → has D (.string x.key) = true
theorem NumMap.lt {W : World} {b gj n : Nat} {S : NumSpec → Prop} (h : NumMap W b gj S n) : b < W.heap.size := by obtain ⟨D, h, _⟩ := h; exact h.lt
theorem NumMap.grown {W W' : World} {b gj n : Nat} {S : NumSpec → Prop} (h : NumMap W b gj S n) (hb : Below W.heap.size W W') : NumMap W' b gj S n := by
  obtain ⟨D, h1, h2, h3⟩ := h
  refine ⟨D, h1.kept (row := none) (gbelow hb none) (by simp), fun kl hk => ?_, h3⟩
  obtain ⟨x, hx, g, e, ha, hbx⟩ := h2 kl hk
  exact ⟨x, hx, g, e, ha, hbx.bl_ hb⟩
theorem NumMap.cast {W : World} {b gj n n' : Nat} {S S' : NumSpec → Prop} (h : NumMap W b gj S n) (hS : ∀ x, S' x ↔ S x) (hn : n' = n) : NumMap W b gj S' n' := by
  subst hn
  obtain ⟨D, h1, h2, h3⟩ := h
  refine ⟨D, h1, fun kl hk => ?_, fun x hx => h3 x ((hS x).1 hx)⟩
  obtain ⟨x, hx, r⟩ := h2 kl hk
  exact ⟨x, (hS x).2 hx, r⟩
theorem NumMap.new_ (W : World) (gj : Nat) : NumMap (W.alloc (.map #[] 0)) W.heap.size gj (fun _ => False) 0 :=
  ⟨.map [], World.ownsMap_made _ _ _ _, fun kl h => by simp [Maps.has] at h, fun x h => h.elim⟩
theorem NumMap.ne {W : World} {b gj n g : Nat} {S : NumSpec → Prop} {T : TypeId} {cs : List Value} (h : NumMap W b gj S n) (hb : BoxAt T W g cs) : b ≠ g := fun e => by
  subst e
  obtain ⟨D, ⟨es, clock, h1, _⟩, _⟩ := h
  rw [show W.heap[b]? = _ from hb] at h1
  cases h1
theorem NumMap.put {w : World} {b gj n : Nat} {S : NumSpec → Prop} (hM : NumMap w b gj S n) (hn : n < 100) (sp : NumSpec) (hnew : ∀ y, S y → y.key ≠ sp.key) (hsl : sp.key.length ≤ 100) (g : Nat) (hbx : BoxAt 211 w g (specC gj sp.l)) :
    ∃ w', (Instr.mapUpdate 205 (.map (some b)) (.string (bst sp.key)) (mkS (g, sp.l.length))).run Tryz.prog w = .ok () w' ∧ NumMap w' b gj (fun x => S x ∨ x = sp) (n + 1) ∧ w.grownBy w' (some b) := by
  have hbg := hM.ne hbx
  have hM' := hM
  obtain ⟨D, h1, h2, h3⟩ := hM
  obtain ⟨w', hrun, r1, r2⟩ := h1.update (string_keyed Tryz.underlying9) Tryz.underlying205 (by simp [maxLen]; omega) (keyOf_str sp.key (by simp [maxLen]; omega)) (nsR_mk (g, sp.l.length))
  refine ⟨w', hrun, ⟨_, r1, fun kl hk => ?_, fun y hy => ?_⟩, r2⟩
  · by_cases e : kl = .string sp.key
    · subst e
      exact ⟨sp, .inr rfl, g, rfl, fun z => atKey_put_same h1.isMap (by simp [WideAt.IsKeyLit]) _ z, hbx.grown r2 (fun e => hbg (by injection e))⟩
    · rw [has_put_other e] at hk
      obtain ⟨y, hy, g', e', ha, hb'⟩ := h2 kl hk
      have hne := hM'.ne hb'
      exact ⟨y, .inl hy, g', e', fun z => by rw [atKey_put_other e]; exact ha z, hb'.grown r2 (fun e => hne (by injection e))⟩
  · rcases hy with hy | rfl
    · rw [has_put_other (by intro e; injection e with e; exact hnew y hy e)]
      exact h3 y hy
    · exact has_put_same h1.isMap (by simp [WideAt.IsKeyLit]) _
theorem infoNum : (Tryz.prog.info? 211).map (fun i => (i.zero, i.size, i.bytes)) = some (some (.agg #[.pointer none, .int .u64 0, .int .u64 0]), 3, 24) := by kernel_rfl
theorem infoNum3 : (Tryz.prog.info? 211).map (·.size) = some 3 := by kernel_rfl
theorem run_bsNum1 (w : World) (p q r : Value) : (Instr.buildSlice 208 1 #[(0, .agg #[p, q, r])]).run Tryz.prog w = .ok (.slice (some ⟨w.heap.size, 0, none⟩) 1 1) (w.alloc (.cells #[p, q, r] 211)) := by
  obtain ⟨it, hit, hz0, hz1, hby⟩ := info_parts infoNum
  refine run_buildSlice w _ _ 1 _ _ it _ Tryz.underlying208 hit hz0 (by rw [hz1]; decide) (by rw [hz1]; decide) ?_
  rw [hz1]
  exact fill_whole 3 _ [p, q, r] (by first | rfl | simp) (by first | rfl | simp)
theorem fill_3x2 (cells : Array Value) (hc : cells.size = 6) (p q r p2 q2 r2 : Value) : Instr.fill (fun i => some (i * 3, 3)) cells [(0, .agg #[p, q, r]), (1, .agg #[p2, q2, r2])] = some #[p, q, r, p2, q2, r2] := by
  obtain ⟨l⟩ := cells
  match l, hc with
  | [c0, c1, c2, c3, c4, c5], _ => simp [Instr.fill, Value.cells]
theorem run_bsNum2 (w : World) (p q r p2 q2 r2 : Value) : (Instr.buildSlice 208 2 #[(0, .agg #[p, q, r]), (1, .agg #[p2, q2, r2])]).run Tryz.prog w = .ok (.slice (some ⟨w.heap.size, 0, none⟩) 2 2) (w.alloc (.cells #[p, q, r, p2, q2, r2] 211)) := by
  obtain ⟨it, hit, hz0, hz1, hby⟩ := info_parts infoNum
  refine run_buildSlice w _ _ 2 _ _ it _ Tryz.underlying208 hit hz0 (by rw [hz1]; decide) (by rw [hz1]; decide) ?_
  rw [hz1]
  exact fill_3x2 _ (by simp) p q r p2 q2 r2
end Go.Proofs.YtcffeepgfjpcaaaGreat
