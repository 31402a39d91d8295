/- The law 'ManifestFalls' returns true for every input, and each argument reads behind the call as it read before. No condition. -/
import Derived.Test.YtpoicbhbkabllaaZManifestFalls1
import Derived.Test.YtpoicbhbkabllaaRows
import Derived.WalkKit
import Derived.ProofKit
import Derived.OpenShut
import Derived.ShutString
import Derived.ChangeOld
import Derived.Below
namespace Go.Proofs.Ytpoicbhbkabllaa.manifestFalls
open Go.Proofs.Ytpoicbhbkabllaa
open Go.ChangeShapes Go.WideShapes Go.ChangeAt Go.RowKit
set_option linter.unusedVariables false
set_option linter.unusedSimpArgs false

theorem own : ownKnob Try.prog.godebug = none := by kernel_rfl
theorem laidOut : laidOutB Try.prog = true := by kernel_rfl

theorem ver_next (v : UInt64) : IntKind.u64.wrap ((v.toNat : Int) + 1) = (((v + 1).toNat : Nat) : Int) := by
  rw [wrap_u64, UInt64.toNat_add]
  simp
theorem rst_congr (f f' : Nat → List UInt8) (h : ∀ j, j < 2 → f j = f' j) : rst f 2 = rst f' 2 := by
  show rstep (f 1) (rstep (f 0) (rst f 0)) = rstep (f' 1) (rstep (f' 0) (rst f' 0))
  rw [h 0 (by decide), h 1 (by decide)]
  rfl
def ModAt (W : World) (O : Nat → Prop) (u1 u2 : Value) (d : DState) : Prop := RDV W O (.agg #[.int .i64 40, .bool false, .int .i64 (-1), u1, u2]) (modelR d 32)
theorem ModAt.below {W W' : World} {O : Nat → Prop} {u1 u2 : Value} {d : DState} (h : ModAt W O u1 u2 d) (hb : Below W.heap.size W W') (hO : ∀ k, O k → k < W.heap.size) : ModAt W' O u1 u2 d := by
  obtain ⟨a, b, e, h1, h2, h3, h4⟩ := h
  exact ⟨a, b, e, h1.below hb hO, h2.below hb hO, h3, h4⟩
theorem slot_mod (W : World) (O : Nat → Prop) (u1 u2 : Value) (d : DState) (n : Nat) (hn : n < 2) (hO : ∀ k, O k → k < W.heap.size) (ho : d.off = false) (h40 : d.bl.length = 40) (h : ModAt W O u1 u2 d) :
    Calls Try.prog 39 #[.agg #[.int .i64 40, .bool false, .int .i64 (-1), u1, u2], .int .i64 n] W fun e w' => ∃ v', e = .returned v' ∧ Below W.heap.size W w' ∧ By w' w'.heap.size v' (slotL d n) := by
  rw [← modelR_slot d (by omega) ho n hn]
  exact (rslot_any W O _ _ n hn hO (by show (madeR d 32).length ≤ 1000000; rw [madeR_len]; omega) (by show ([] : List RW).length ≤ 1000000; simp) h (modelR_128 d 32 (by omega))).mono fun e w' ⟨v, h1, h2, h3⟩ => ⟨v, h1, h3, h2.by_⟩
theorem mixed_mod (W : World) (O : Nat → Prop) (u1 u2 : Value) (d : DState) (n : Nat) (hn : n < 2) (hO : ∀ k, O k → k < W.heap.size) (ho : d.off = false) (h40 : d.bl.length = 40) (h : ModAt W O u1 u2 d) (a : List UInt8) (vm : Value) (m : MMan) (hmv : MAt W W.heap.size vm m) (hm : mayM m = true) :
    Calls Try.prog 40 #[.agg #[.int .i64 40, .bool false, .int .i64 (-1), u1, u2], .int .i64 n, .string (bst a), vm] W fun e w' => e = .returned (.bool (mixP (slotL d n) a m)) ∧ Below W.heap.size W w' := by
  rw [← modelR_slot d (by omega) ho n hn]
  exact mixed_any W O _ _ n hn hO (by show (madeR d 32).length ≤ 1000000; rw [madeR_len]; omega) (by show ([] : List RW).length ≤ 1000000; simp) h (modelR_128 d 32 (by omega)) a vm m hmv hm
theorem read_mod (W : World) (O : Nat → Prop) (u1 u2 : Value) (d : DState) (hO : ∀ k, O k → k < W.heap.size) (ho : d.off = false) (h40 : d.bl.length = 40) (h : ModAt W O u1 u2 d) :
    Calls Try.prog 37 #[.agg #[.int .i64 40, .bool false, .int .i64 (-1), u1, u2]] W fun e w' => ∃ v', e = .returned (.tuple #[v', .int .i64 (rdE (rst (slotL d) 2))]) ∧ MIn w' W.heap.size v' (rdM (rst (slotL d) 2)) ∧ Below W.heap.size W w' := by
  rw [← rst_congr _ _ fun j hj => modelR_slot d (by omega) ho j hj]
  exact rread09_on W O _ _ hO (by show (madeR d 32).length ≤ 1000000; rw [madeR_len]; omega) (by show ([] : List RW).length ≤ 1000000; simp) h (modelR_128 d 32 (by omega)) rfl (by show (32 : Int) < (d.bl.length : Int); omega)
theorem model_mod (w : World) (B : Nat) (X : Nat → Prop) (g : Nat) (d : DState) (h : DK B X w g d) (hw : d.wt = []) (ho : d.off = false) (h40 : d.bl.length = 40) :
    Calls Try.prog 36 #[.pointer (some ⟨g, 0, none⟩)] w fun e w' => ∃ u1 u2, e = .returned (.agg #[.int .i64 40, .bool false, .int .i64 (-1), u1, u2]) ∧ u1.oneCell' = true ∧ u2.oneCell' = true ∧ ModAt w' (fun k => w.heap.size ≤ k ∧ k < w'.heap.size) u1 u2 d ∧ DK B X w' g d ∧ Below w.heap.size w w' := by
  refine (model_any w B X g d h (by rw [hw]; simp) ho (by omega)).mono ?_
  rintro e w' ⟨v, he, hr, hd, hb⟩
  have e32 : min 32 d.bl.length = 32 := by omega
  rw [e32] at hr
  obtain ⟨u1, u2, rfl, h1, h2, h3, h4⟩ := id hr
  have e40 : (modelR d 32).count = 40 := by show (d.bl.length : Int) = 40; omega
  refine ⟨u1, u2, ?_, ?_, ?_, ?_, hd, hb⟩
  · rw [he, e40]; rfl
  · obtain ⟨A, c, rfl, _⟩ := h1; rfl
  · obtain ⟨A, c, rfl, _⟩ := h2; rfl
  · have := hr; rw [e40] at this; exact this
structure FSt (w : World) (gm gw gD gx gy : Nat) (cm cw cD cx cy : List Value) (O : Nat → Prop) (t1 t2 : Value) (DD : DState) (lx ly : Nat) (mx my : MMan) (W : World) : Prop where
  bm : BoxAt 56 W gm cm
  bw : BoxAt 56 W gw cw
  bD : BoxAt 42 W gD cD
  bx : BoxAt 56 W gx cx
  by_ : BoxAt 56 W gy cy
  mod : ModAt W O t1 t2 DD
  lo : ∀ k, O k → k < W.heap.size
  ix : MIn W lx (.agg cx.toArray) mx
  iy : MIn W ly (.agg cy.toArray) my
  bl : Below w.heap.size w W
theorem FSt.step {w : World} {gm gw gD gx gy : Nat} {cm cw cD cx cy : List Value} {O : Nat → Prop} {t1 t2 : Value} {DD : DState} {lx ly : Nat} {mx my : MMan} {W W' : World} (h : FSt w gm gw gD gx gy cm cw cD cx cy O t1 t2 DD lx ly mx my W) (hb : Below W.heap.size W W') :
    FSt w gm gw gD gx gy cm cw cD cx cy O t1 t2 DD lx ly mx my W' :=
  ⟨h.bm.blwM hb, h.bw.blwM hb, h.bD.blwM hb, h.bx.blwM hb, h.by_.blwM hb, h.mod.below hb h.lo, fun k hk => Nat.lt_of_lt_of_le (h.lo k hk) hb.size, h.ix.step hb, h.iy.step hb, bstep h.bl hb⟩
set_option maxRecDepth 100000 in
set_option maxHeartbeats 12800000 in
theorem walk (v0 v1 v2 v3 : Value) (w : World) (h0 : InC w 77 [v0]) (h1 : InC w 3 [v1]) (h2 : InC w 33 [v2]) (h3 : InC w 33 [v3]) :
    Calls Try.prog 11 #[v0, v1, v2, v3] w fun e w' => e = .returned (.bool true) ∧ Below w.heap.size w w' := by
  obtain ⟨vl, l, e0, hl⟩ := InC.mans h0
  simp at e0
  subst e0
  obtain ⟨F, e1, hF⟩ := InC.i64 (S := fun _ => True) Try.underlying3 h1
  simp at e1
  subst e1
  obtain ⟨kp, e2, _⟩ := InC.u64 (S := fun _ => True) Try.underlying33 h2
  simp at e2
  subst e2
  obtain ⟨tn, e3, _⟩ := InC.u64 (S := fun _ => True) Try.underlying33 h3
  simp at e3
  subst e3
  have hkp := UInt64.toNat_lt kp
  have htn := UInt64.toNat_lt tn
  obtain ⟨A, c, rfl, hc1, hc2⟩ := hl.form
  unfold maxLen at hc2
  have HA := Lib.hid (fun W => awake09 W)
  have HF : Hid (-9223372036854775808 ≤ F ∧ F ≤ 9223372036854775807) := hF
  have Hl := Lib.hid hl
  clear h0 h1 h2 h3 hl hF
  by_cases hbig : 20 < l.length
  · have hd : decide (20 < (l.length : Int)) = true := decide_eq_true (by omega)
    go_enter Try.func11, Try.ntmps11
    go_wp2_with (go_at_call 30; refine (HA.out _).mono ?_; rintro e wa ⟨rfl, hba⟩)
    go_ret
    exact ⟨rfl, hba⟩
  · have hd : decide (20 < (l.length : Int)) = false := decide_eq_false (by omega)
    go_enter Try.func11, Try.ntmps11
    go_wp2_with fail
    refine (dnew_dk w 40 (by omega) (by omega)).mono ?_
    rintro _ w1 ⟨g, rfl, hd1, hb1⟩
    have Hd1 := Lib.hid hd1
    have Hb1 := Lib.hid hb1
    clear hd1 hb1
    go_upto_region 7 with (first
      | (refine wpList_alloc_z rfl 56 rfl info_manz zeroMc zeroM_cells ?_)
      | (refine wpList_store_newW rfl 56 (.tmp 11) (.tmp 35) rfl zeroMc (encM emptyM (.slice none 0 0)) rfl rfl info_man3 rfl (encM_one _ _ rfl) ?_
         intro w2 hbx2 hb2 hz2))
    try simp only [Act.put, List.setIfInBounds_toArray, List.set_cons_zero, List.set_cons_succ]
    have Hd2 := Lib.hid (((Hd1.out.apart fun q (hq : q = w1.heap.size) => .inr (by omega)) : DK w.heap.size (fun q => q = w1.heap.size) w1 g (newD 40)).below_ hb2)
    have Hb2 := Lib.hid (bstep Hb1.out hb2)
    have X2 := Lib.hid hbx2
    have hz1 := Hb1.out.size
    clear hbx2 hb2 Hd1
    generalize w1.heap.size = gw at *
    go_wp2_with fail
    go_loopw [12] (fun iv wr => ∃ (k : Nat) (d : DState) (was : MMan) (vf : Value) (X : Nat → Prop), k ≤ l.length ∧ iv = .int .i64 k ∧ DK w.heap.size X wr g d ∧ (∀ q, X q → q < wr.heap.size) ∧ X gw ∧ d.off = false ∧ d.fuse = -1 ∧ d.wt = [] ∧ d.bl.length = 40 ∧ (∀ n, n < 2 → Ahead (slotB d.bl n) was) ∧
        BoxAt 56 wr gw (encM was vf) ∧ ByF w w.heap.size vf was.files ∧ Below w.heap.size w wr) (fun i _ => l.length - (intOf i).toNat)
    case atStart =>
      exact ⟨0, newD 40, emptyM, .slice none 0 0, _, by omega, rfl, Hd2.out, fun q (hq : q = gw) => by omega, rfl, rfl, rfl, rfl, rfl, fun n hn => .inr ⟨rfl, slotB_new n hn⟩, X2.out, RowOn.nil_, Hb2.out⟩
    case round =>
      obtain ⟨k, d, was, vw, X, hk, rfl, hdk, hX, hXw, ho, hfu, hwt, h40, hah, hbx, hfw, hbl⟩ := hrel
      obtain ⟨Aw, cw, rfl, hcw1, hcw2⟩ := hfw.form
      have Hdk := Lib.hid hdk
      have HX := Lib.hid hX
      have HXw := Lib.hid hXw
      have Ho := Lib.hid ho
      have Hfu := Lib.hid hfu
      have Hwt := Lib.hid hwt
      have H40 := Lib.hid h40
      have Hah := Lib.hid hah
      have Xw := Lib.hid hbx
      have Hfw := Lib.hid hfw
      have Hbl := Lib.hid hbl
      have hzr := hbl.size
      have hgwlt := hbx.lt
      clear hdk hX hXw ho hfu hwt h40 hah hbx hfw hbl Hd2 X2 Hb2
      by_cases hlt : k < l.length
      · obtain ⟨_, ad, vk, rfl, had, hfk, hcl⟩ := Hl.out.cells k hlt
        have hclr : ∀ (j : Nat) (u : Value), (encM l[k] vk)[j]? = some u → wr.cell? ((ad.add (k * 3)).add j) = some u := fun j u hu => (Hbl.out.cell (by rw [add_block, add_block]; exact had)).trans (hcl j u hu)
        obtain ⟨Am, cm, rfl, hcm1, hcm2⟩ := hfk.form
        unfold maxLen at hcm2
        generalize l[k] = m0 at *
        have hdk : decide ((k : Int) < (l.length : Int)) = true := decide_eq_true (by omega)
        have Hcl := Lib.hid hclr
        have Hfk := Lib.hid hfk
        clear hfk hcl hclr had
        have Hone0 : Hid (∀ u ∈ encM m0 (.slice Am m0.files.length cm), u.oneCell' = true) := encM_one _ _ rfl
        go_upto_region 11 with (first
          | (refine wpList_load_agg rfl 56 (.tmp 44) rfl (ad.add (k * 3)) rfl (encM m0 (.slice Am m0.files.length cm)) Hcl.out Try.underlying56 rfl info_man3 ?_)
          | (refine wpList_alloc_z rfl 56 rfl info_manz zeroMc zeroM_cells ?_)
          | (refine wpList_store_newW rfl 56 (.tmp 13) (.tmp 45) rfl zeroMc (encM m0 (.slice Am m0.files.length cm)) rfl rfl info_man3 rfl Hone0.out ?_
             intro w4 hbx4 hb4 hz4))
        try simp only [Act.put, List.setIfInBounds_toArray, List.set_cons_zero, List.set_cons_succ]
        have X4 := Lib.hid hbx4
        have Hb4 := Lib.hid hb4
        have hc11 := (Xw.out.blwM hb4).cell 0 _ rfl
        have hf13 := hbx4.frozen 0
        have hc13 := hbx4.cell 0 _ rfl
        clear hbx4 hb4 Hcl
        go_upto_region 12 with (fail)
        try simp only [Act.put, List.setIfInBounds_toArray, List.set_cons_zero, List.set_cons_succ]
        obtain ⟨m, hm⟩ : ∃ m : MMan, m = ⟨was.ver + 1, m0.next, m0.files⟩ := ⟨_, rfl⟩
        have hmv : m.ver = was.ver + 1 := by rw [hm]
        have hmf : m.files = m0.files := by rw [hm]
        have hput := X4.out.put 0 (.int .u64 (IntKind.u64.wrap ((was.ver.toNat : Int) + 1)))
        have hpe : (encM m0 (.slice Am m0.files.length cm)).set 0 (.int .u64 (IntKind.u64.wrap ((was.ver.toNat : Int) + 1))) = encM m (.slice Am m.files.length cm) := by rw [ver_next, hm]; rfl
        rw [hpe] at hput
        obtain ⟨w5, hw5⟩ : ∃ w5, w5 = w4.setCell { block := wr.heap.size, off := 0 } (.int .u64 (IntKind.u64.wrap ((was.ver.toNat : Int) + 1))) := ⟨_, rfl⟩
        have hput5 : BoxAt 56 w5 wr.heap.size (encM m (.slice Am m.files.length cm)) := by rw [hw5]; exact hput
        have hxw5 : BoxAt 56 w5 gw (encM was (.slice Aw was.files.length cw)) := by rw [hw5]; exact (Xw.out.blwM Hb4.out).other _ _ (by show wr.heap.size ≠ gw; omega)
        have hz5 : w5.heap.size = wr.heap.size + 1 := by rw [hw5]; simpa [World.setCell] using hz4
        have hb5 : Below wr.heap.size wr w5 := by rw [hw5]; exact Below.setCell Hb4.out (p := ⟨wr.heap.size, 0, none⟩) (Nat.le_refl _) _
        have hd5 : DK w.heap.size (fun q => X q ∨ q = wr.heap.size) w5 g d := (Hdk.out.apart fun q hq => hq.elim (fun h => .inl h) (fun h => .inr (by omega)) : DK w.heap.size (fun q => X q ∨ q = wr.heap.size) wr g d).below_ hb5
        have hX5 : ∀ q, (X q ∨ q = wr.heap.size) → q < w5.heap.size := fun q hq => by
          rcases hq with h | h
          · have := HX.out q h; omega
          · omega
        rw [← hw5]
        obtain ⟨X', hX'⟩ : ∃ X' : Nat → Prop, X' = fun q => X q ∨ q = wr.heap.size := ⟨_, rfl⟩
        have hXm : X' wr.heap.size := by rw [hX']; exact .inr rfl
        have hXg : X' gw := by rw [hX']; exact .inl HXw.out
        rw [← hX'] at hd5
        have hX5' : ∀ q, X' q → q < w5.heap.size := by rw [hX']; exact hX5
        generalize hgm : wr.heap.size = gm at *
        have HMt : Hid (∀ W, Below w.heap.size w W → MAt W W.heap.size (.agg (encM m (.slice Am m.files.length cm)).toArray) m) := Lib.hid fun W hW => ⟨_, rfl, by rw [hmf]; exact (Hfk.out.below hW).more hW.size⟩
        have HWs : Hid (∀ W, Below w.heap.size w W → MAt W W.heap.size (.agg (encM was (.slice Aw was.files.length cw)).toArray) was) := Lib.hid fun W hW => ⟨_, rfl, (Hfw.out.below hW).more hW.size⟩
        have Hfm : Hid (ByF w w.heap.size (.slice Am m.files.length cm) m.files) := by rw [hmf]; exact Hfk.out
        have Hb5 := Lib.hid (Hbl.out.trans ((hgm ▸ hb5 : Below wr.heap.size wr w5).mono Hbl.out.size))
        have X5 := Lib.hid hput5
        have W5 := Lib.hid hxw5
        have Hd5 := Lib.hid hd5
        have HX5 := Lib.hid hX5'
        have HXm := Lib.hid hXm
        have HXg := Lib.hid hXg
        have HX' := Lib.hid hX'
        have hzw5 : w.heap.size ≤ gm := by omega
        have hmz : m.files.length = m0.files.length := by rw [hmf]
        clear hput hput5 hxw5 hb5 hd5 hX5 hX5' hX' hXm hXg hw5 hpe hm hmv hmf hc11 hf13 hc13 Hone0 hz4 X4 Hb4 Xw Hdk HX HXw Hfw Hfk Hbl hgm
        rw [← hmz] at hcm1
        clear hmz
        generalize m0 = mz at *
        go_wp2_with (refine wpList_load_aggG (by first | rfl | simp [Region.wanted, yielded]) 56 (.tmp 13) rfl ⟨gm, 0, none⟩ rfl (encM m (.slice Am m.files.length cm)) X5.out.cells Try.underlying56 rfl info_man3 ?_)
        refine (great_any w5 _ m (HMt.out w5 Hb5.out)).mono ?_
        rintro _ w6 ⟨rfl, hb6⟩
        have X6 := Lib.hid (X5.out.blwM hb6)
        have W6 := Lib.hid (W5.out.blwM hb6)
        have Hb6 := Lib.hid (bstep Hb5.out hb6)
        have Hd6 := Lib.hid (Hd5.out.below_ hb6)
        have hz6 := hb6.size
        clear hb6 X5 W5 Hd5
        cases hg : greatM m with
        | true =>
          go_wp2_with (go_at_call 30; refine (HA.out _).mono ?_; rintro e wa ⟨rfl, hba⟩)
          go_ret
          exact ⟨rfl, bstep Hb6.out hba⟩
        | false =>
          have Hg := Lib.hid hg
          clear hg
          go_wp2_with (refine wpList_load_aggG (by first | rfl | simp [Region.wanted, yielded]) 56 (.tmp 13) rfl ⟨gm, 0, none⟩ rfl (encM m (.slice Am m.files.length cm)) X6.out.cells Try.underlying56 rfl info_man3 ?_)
          refine (rmay_any w6 _ m (HMt.out w6 Hb6.out) Hg.out).mono ?_
          rintro _ w7 ⟨rfl, hb7⟩
          have X7 := Lib.hid (X6.out.blwM hb7)
          have W7 := Lib.hid (W6.out.blwM hb7)
          have Hb7 := Lib.hid (bstep Hb6.out hb7)
          have Hd7 := Lib.hid (Hd6.out.below_ hb7)
          have hz7 := hb7.size
          have HX7 : Hid (∀ q, X' q → q < w7.heap.size) := fun q hq => by have := HX5.out q hq; omega
          clear hb7 X6 W6 Hd6 HX5
          cases hm : mayM m with
          | false =>
            go_wp2_with (go_at_call 30; refine (HA.out _).mono ?_; rintro e wa ⟨rfl, hba⟩)
            go_ret
            exact ⟨rfl, bstep Hb7.out hba⟩
          | true =>
            have Hm := Lib.hid hm
            clear hm
            by_cases hlast : k < l.length - 1
            · have hdl : decide ((k : Int) < (l.length : Int) - 1) = true := decide_eq_true (by omega)
              have hboth := both_slots d m.ver.toNat (slotM m) (slotM_length m Hm.out) Ho.out (by rw [H40.out]; decide) Hwt.out (.inl (by rw [Hfu.out]; decide))
              obtain ⟨p1, p2, p3, p4, p5, p6⟩ := hboth
              have hbr := both_read _ m Hm.out p2 p3 (by rw [p5, H40.out]; decide) p6
              rw [Hfu.out] at p4
              rw [H40.out] at p5
              have P1 := Lib.hid p1
              have P2 := Lib.hid p2
              have P3 := Lib.hid p3
              have P4 := Lib.hid p4
              have P5 := Lib.hid p5
              have P6 := Lib.hid p6
              have Hbr := Lib.hid hbr
              clear p1 p2 p3 p4 p5 p6 hbr
              go_wp2_with (refine wpList_load_aggG (by first | rfl | simp [Region.wanted, yielded]) 56 (.tmp 13) rfl ⟨gm, 0, none⟩ rfl (encM m (.slice Am m.files.length cm)) X7.out.cells Try.underlying56 rfl info_man3 ?_)
              refine (mwrite_any w7 w.heap.size X' g d _ m Hd7.out HX7.out Hb7.out.size (by rw [Hwt.out]; decide) (HMt.out w7 Hb7.out) Hm.out).mono ?_
              rintro _ w8 ⟨rfl, hd8, hch8⟩
              rw [P1.out]
              have hbb8 := hch8.below_ Hb7.out.size
              have X8 := Lib.hid (hch8.box HXm.out X7.out)
              have W8 := Lib.hid (hch8.box HXg.out W7.out)
              have Hb8 := Lib.hid (Hb7.out.trans hbb8)
              have Hd8 := Lib.hid hd8
              have hz8 := hch8.size
              clear hd8 hch8 hbb8 Hd7 X7 W7
              generalize (wman d m.ver.toNat (slotM m) 2).1 = dW at *
              go_wp2_with fail
              refine (mfread_on w8 w.heap.size X' g dW Hd8.out (by rw [P3.out]; decide) P2.out (by rw [P5.out]; decide) (by rw [P5.out]; decide)).mono ?_
              rintro _ w9 ⟨v9, rfl, hm9, hd9, hb9⟩
              rw [Hbr.out.1]
              rw [Hbr.out.2] at hm9
              obtain ⟨vg, hvg, hff⟩ := id hm9
              obtain ⟨Af, cf, hvf2, -, -⟩ := hff.form
              subst hvf2
              subst hvg
              have X9 := Lib.hid (X8.out.blwM hb9)
              have W9 := Lib.hid (W8.out.blwM hb9)
              have Hb9 := Lib.hid (bstep Hb8.out hb9)
              have M9 := Lib.hid hm9
              have Hd9 := Lib.hid hd9
              have hz9 := hb9.size
              have HoneR : Hid (∀ u ∈ encM m (.slice Af m.files.length cf), u.oneCell' = true) := encM_one _ _ rfl
              clear hm9 hff hb9 hd9 Hd8 X8 W8
              go_wp2_with (first
                | (refine wpList_alloc_z rfl 56 rfl info_manz zeroMc zeroM_cells ?_)
                | (refine wpList_store_newW rfl 56 (.tmp 15) (.tmp 69) rfl zeroMc (encM m (.slice Af m.files.length cf)) rfl rfl info_man3 rfl HoneR.out ?_
                   intro wA hbxA hbA hzA
                   have XA := Lib.hid (X9.out.blwM hbA)
                   have WA := Lib.hid (W9.out.blwM hbA)
                   have BA := Lib.hid hbxA
                   have HbA := Lib.hid (bstep Hb9.out hbA)
                   have MA := Lib.hid (M9.out.step hbA)
                   have HdA := Lib.hid (Hd9.out.below_ hbA)
                   clear hbxA hbA)
                | (refine wpList_load_aggG (by first | rfl | simp [Region.wanted, yielded]) 56 (.tmp 15) rfl ⟨w9.heap.size, 0, none⟩ rfl (encM m (.slice Af m.files.length cf)) BA.out.cells Try.underlying56 rfl info_man3 ?_)
                | (refine wpList_load_aggG (by first | rfl | simp [Region.wanted, yielded]) 56 (.tmp 13) rfl ⟨gm, 0, none⟩ rfl (encM m (.slice Am m.files.length cm)) XA.out.cells Try.underlying56 rfl info_man3 ?_))
              refine (msame_any wA _ _ m m MA.out.mat (HMt.out wA HbA.out) true (by simp)).mono ?_
              rintro _ wB ⟨rfl, hbB⟩
              have XB := Lib.hid (XA.out.blwM hbB)
              have WB := Lib.hid (WA.out.blwM hbB)
              have HbB := Lib.hid (bstep HbA.out hbB)
              have HdB := Lib.hid (HdA.out.below_ hbB)
              have hzB := hbB.size
              have HoneM : Hid (∀ u ∈ encM m (.slice Am m.files.length cm), u.oneCell' = true) := encM_one _ _ rfl
              clear hbB XA WA HdA MA BA M9 Hd9 Hb9 W9 X9
              go_wp2_with (first
                | (refine wpList_load_aggG (by first | rfl | simp [Region.wanted, yielded]) 56 (.tmp 13) rfl ⟨gm, 0, none⟩ rfl (encM m (.slice Am m.files.length cm)) XB.out.cells Try.underlying56 rfl info_man3 ?_)
                | (refine wpList_store_boxW rfl 56 56 (.tmp 11) (.tmp 83) rfl gw (encM was (.slice Aw was.files.length cw)) (encM m (.slice Am m.files.length cm)) rfl rfl WB.out rfl HoneM.out info_man3 ?_
                   intro we hend hche hze))
              go_roundw
              case rel => exact ⟨k + 1, dW, m, .slice Am m.files.length cm, X', by omega, by simp, HdB.out.chg hche (fun q hq => .inr (by rw [hq]; exact HXg.out)), fun q hq => by have := HX7.out q hq; omega, HXg.out, P2.out, P4.out, P3.out, P5.out, fun n hn => .inl ⟨Hm.out, P6.out n hn⟩, hend, Hfm.out, HbB.out.trans (hche.below (B := w.heap.size) HbB.out.size (fun k hk => by omega))⟩
              case measure => simp [intOf]; omega

            · have hdl : decide ((k : Int) < (l.length : Int) - 1) = false := decide_eq_false (by omega)
              have hfd := falls_disk d m.ver.toNat (slotM m) (slotM_length m Hm.out) Ho.out (by rw [H40.out]; decide) Hwt.out F kp.toNat tn.toNat
              obtain ⟨D1, hD1⟩ : ∃ D1, D1 = (wman { d with fuse := F } m.ver.toNat (slotM m) 2).1 := ⟨_, rfl⟩
              obtain ⟨e1, he1⟩ : ∃ e1, e1 = (wman { d with fuse := F } m.ver.toNat (slotM m) 2).2 := ⟨_, rfl⟩
              rw [← hD1, ← he1] at hfd
              obtain ⟨DD, hDD⟩ : ∃ DD, DD = backD D1 kp.toNat tn.toNat := ⟨_, rfl⟩
              rw [← hDD] at hfd
              obtain ⟨f1, f2, f3, f4, f5, f6, f7⟩ := hfd
              rw [H40.out] at f5
              have hrd := falls_read d DD m was Hm.out Hah.out f3 f4 (by rw [f5]; decide) f7
              have hbo := fun he => both_read DD m Hm.out f3 f4 (by rw [f5]; decide) (f6 he)
              rw [← slotL_bl d Ho.out Hwt.out (by rw [H40.out]; decide) 0 (by omega), ← slotL_bl d Ho.out Hwt.out (by rw [H40.out]; decide) 1 (by omega)] at hrd
              have HD1 := Lib.hid hD1
              have HE1 := Lib.hid he1
              have HDD := Lib.hid hDD
              have F1 := Lib.hid f1
              have F2 := Lib.hid f2
              have F3 := Lib.hid f3
              have F4 := Lib.hid f4
              have F5 := Lib.hid f5
              have Hrd := Lib.hid hrd
              have Hbo := Lib.hid hbo
              clear hD1 he1 hDD f1 f2 f3 f4 f5 f6 f7 hrd hbo
              go_wp2_with fail
              refine (model_mod w7 w.heap.size X' g d Hd7.out Hwt.out Ho.out H40.out).mono ?_
              rintro _ w8 ⟨u1, u2, rfl, hu1, hu2, hmod8, hd8, hb8⟩
              have X8lt := Lib.hid X7.out.lt
              have W8lt := Lib.hid W7.out.lt
              have X8 := Lib.hid (X7.out.blwM hb8)
              have W8 := Lib.hid (W7.out.blwM hb8)
              have Hb8 := Lib.hid (bstep Hb7.out hb8)
              have hz8 := hb8.size
              obtain ⟨X2, hX2⟩ : ∃ X2 : Nat → Prop, X2 = fun q => X' q ∨ q = w8.heap.size := ⟨_, rfl⟩
              have hd8' : DK w.heap.size X2 w8 g d := by
                rw [hX2]
                exact hd8.apart fun q hq => hq.elim (fun h => .inl h) (fun h => .inr (by omega))
              have hxx : X2 gm ∧ X2 gw ∧ X2 w8.heap.size ∧ (∀ q, X2 q → q < w8.heap.size + 1) := by
                rw [hX2]
                refine ⟨.inl HXm.out, .inl HXg.out, .inr rfl, fun q hq => ?_⟩
                rcases hq with h | h
                · have := HX7.out q h; omega
                · omega
              obtain ⟨x1, x2, x3, x4⟩ := hxx
              have Hx1 := Lib.hid x1
              have Hx2 := Lib.hid x2
              have Hx3 := Lib.hid x3
              have Hx4 := Lib.hid x4
              have Hd8 := Lib.hid hd8'
              have Hmod8 := Lib.hid hmod8
              have HoneD : Hid (∀ u ∈ [Value.int .i64 40, .bool false, .int .i64 (-1), u1, u2], u.oneCell' = true) := Lib.hid fun u hu => by
                simp at hu
                rcases hu with rfl | rfl | rfl | rfl | rfl
                · rfl
                · rfl
                · rfl
                · exact hu1
                · exact hu2
              clear hd8 hd8' hb8 hmod8 Hd7 X7 W7 hX2 x1 x2 x3 x4 HX' HX7 HXm HXg
              go_upto_region 21 with (first
                | (refine wpList_alloc_z rfl 42 rfl info_rD5z zeroDc rfl ?_)
                | (refine wpList_store_newW rfl 42 (.tmp 17) (.tmp 85) rfl zeroDc [Value.int .i64 40, .bool false, .int .i64 (-1), u1, u2] rfl rfl info_rD5 rfl HoneD.out ?_
                   intro w9 hbx9 hb9 hz9))
              try simp only [Act.put, List.setIfInBounds_toArray, List.set_cons_zero, List.set_cons_succ]
              have X9 := Lib.hid (X8.out.blwM hb9)
              have W9 := Lib.hid (W8.out.blwM hb9)
              have D9 := Lib.hid hbx9
              have Hb9 := Lib.hid (bstep Hb8.out hb9)
              have Hd9 := Lib.hid (Hd8.out.below_ hb9)
              have Hmod9 := Lib.hid (Hmod8.out.below hb9 (fun q hq => hq.2))
              have hO9 : Hid (∀ q, (w7.heap.size ≤ q ∧ q < w8.heap.size) → q < w9.heap.size) := fun q hq => by omega
              clear hbx9 hb9 X8 W8 Hd8 Hmod8
              refine wp_region_typed [some 86, some 87, some 88, some 89, some 90, some 91, some 18, some 19] [86, 87, 88, 89, 90, 91, 18, 19]
                [Ph.is (.agg ([Value.int .i64 40, .bool false, .int .i64 (-1), u1, u2]).toArray),
                  Ph.by_ (slotL d 0),
                  Ph.is (.string (bst (slotL d 0))),
                  Ph.is (.agg ([Value.int .i64 40, .bool false, .int .i64 (-1), u1, u2]).toArray),
                  Ph.by_ (slotL d 1),
                  Ph.is (.string (bst (slotL d 1))),
                  Ph.is (.string (bst (slotL d 0))),
                  Ph.is (.string (bst (slotL d 1)))] rfl rfl (by kernel_rfl) (by kernel_rfl) ?_ ?_
              · refine ⟨?_, ?_, ?_, ?_, ?_, ?_, ?_, ?_, trivial⟩
                · -- 0: slot 86 := Op.load 42 t17
                  refine ob_yes fun f w' hb hp => ?_
                  simp [PreOf, factOf, valOf, Ph.is, Ph.by_, Ph.any, Region.binds] at hp
                  refine ⟨by simp [Gd, valOf, hp], ?_⟩
                  refine mild_val (.agg ([Value.int .i64 40, .bool false, .int .i64 (-1), u1, u2]).toArray) ?_ rfl
                  have hr := run_loadVar_cells w' ⟨w8.heap.size, 0, none⟩ 42 [Value.int .i64 40, .bool false, .int .i64 (-1), u1, u2] (D9.out.blwM hb).cells Try.underlying42 rfl info_rD5
                  simp [execOp, evalF, hp, Instr.loadAt, Instr.sureAddr, hr]
                · -- 1: slot 87 := Op.call   value (Operand.func 39), args := #[t86, const (0:i64)], argTypes := #[42, 3]  
                  refine ob_yes fun f w' hb hp => ?_
                  simp [PreOf, factOf, valOf, Ph.is, Ph.by_, Ph.any, Region.binds] at hp
                  refine ⟨by simp [Gd, valOf, hp], ?_⟩
                  refine mild_call 39 _ _ Try.f39 Try.func39 (by kernel_rfl) (by kernel_rfl) rfl ?_
                  simp [evalF, hp, Ph.is, Ph.by_, Ph.any]
                  exact slot_mod w' _ _ _ d 0 (by omega) (fun q hq => by have := hO9.out q hq; have := hb.size; omega) Ho.out H40.out (Hmod9.out.below hb hO9.out)
                · -- 2: slot 88 := Op.convert 30 9 t87
                  refine ob_yes fun f w' hb hp => ?_
                  simp [PreOf, factOf, valOf, Ph.is, Ph.by_, Ph.any, Region.binds] at hp
                  refine ⟨by simp [Gd, valOf, hp], ?_⟩
                  refine mild_val (.string (bst (slotL d 0))) ?_ rfl
                  have hc := conv8 (by first | exact hp | exact hp.1 | exact hp.2 | exact hp.1.1 | exact hp.1.2 | exact hp.2.1 | exact hp.2.2)
                  simp [execOp, evalF, hp, hc]
                · -- 3: slot 89 := Op.load 42 t17
                  refine ob_yes fun f w' hb hp => ?_
                  simp [PreOf, factOf, valOf, Ph.is, Ph.by_, Ph.any, Region.binds] at hp
                  refine ⟨by simp [Gd, valOf, hp], ?_⟩
                  refine mild_val (.agg ([Value.int .i64 40, .bool false, .int .i64 (-1), u1, u2]).toArray) ?_ rfl
                  have hr := run_loadVar_cells w' ⟨w8.heap.size, 0, none⟩ 42 [Value.int .i64 40, .bool false, .int .i64 (-1), u1, u2] (D9.out.blwM hb).cells Try.underlying42 rfl info_rD5
                  simp [execOp, evalF, hp, Instr.loadAt, Instr.sureAddr, hr]
                · -- 4: slot 90 := Op.call   value (Operand.func 39), args := #[t89, const (1:i64)], argTypes := #[42, 3]  
                  refine ob_yes fun f w' hb hp => ?_
                  simp [PreOf, factOf, valOf, Ph.is, Ph.by_, Ph.any, Region.binds] at hp
                  refine ⟨by simp [Gd, valOf, hp], ?_⟩
                  refine mild_call 39 _ _ Try.f39 Try.func39 (by kernel_rfl) (by kernel_rfl) rfl ?_
                  simp [evalF, hp, Ph.is, Ph.by_, Ph.any]
                  exact slot_mod w' _ _ _ d 1 (by omega) (fun q hq => by have := hO9.out q hq; have := hb.size; omega) Ho.out H40.out (Hmod9.out.below hb hO9.out)
                · -- 5: slot 91 := Op.convert 30 9 t90
                  refine ob_yes fun f w' hb hp => ?_
                  simp [PreOf, factOf, valOf, Ph.is, Ph.by_, Ph.any, Region.binds] at hp
                  refine ⟨by simp [Gd, valOf, hp], ?_⟩
                  refine mild_val (.string (bst (slotL d 1))) ?_ rfl
                  have hc := conv8 (by first | exact hp | exact hp.1 | exact hp.2 | exact hp.1.1 | exact hp.1.2 | exact hp.2.1 | exact hp.2.2)
                  simp [execOp, evalF, hp, hc]
                · -- 6: slot 18 := Op.assign t88
                  refine ob_yes fun f w' hb hp => ?_
                  simp [PreOf, factOf, valOf, Ph.is, Ph.by_, Ph.any, Region.binds] at hp
                  refine ⟨by simp [Gd, valOf, hp], ?_⟩
                  refine mild_val (.string (bst (slotL d 0))) ?_ rfl
                  simp [execOp, evalF, hp]
                · -- 7: slot 19 := Op.assign t91
                  refine ob_yes fun f w' hb hp => ?_
                  simp [PreOf, factOf, valOf, Ph.is, Ph.by_, Ph.any, Region.binds] at hp
                  refine ⟨by simp [Gd, valOf, hp], ?_⟩
                  refine mild_val (.string (bst (slotL d 1))) ?_ rfl
                  simp [execOp, evalF, hp]
              · intro f w2 hb2 hp
                simp only [PostOf, Ph.is, Ph.by_, Ph.any] at hp
                obtain ⟨h0, h1, h2, h3, h4, h5, h6, h7, _⟩ := hp
                simp only [fills, List.foldl_cons, List.foldl_nil, Act.put, List.setIfInBounds_toArray, List.set_cons_zero, List.set_cons_succ, h0, h2, h3, h5, h6, h7]
                clear h0 h2 h3 h5 h6 h7
                generalize f 87 = v87 at *
                generalize f 90 = v90 at *
                have XA := Lib.hid (X9.out.blwM hb2)
                have WA := Lib.hid (W9.out.blwM hb2)
                have DA := Lib.hid (D9.out.blwM hb2)
                have HbA := Lib.hid (bstep Hb9.out hb2)
                have HdA := Lib.hid (Hd9.out.below_ hb2)
                have hzA := hb2.size
                clear hb2 X9 W9 D9 Hd9 Hmod9 Hb9
                obtain ⟨sa, hsa⟩ : ∃ sa, sa = slotL d 0 := ⟨_, rfl⟩
                obtain ⟨sb, hsb⟩ : ∃ sb, sb = slotL d 1 := ⟨_, rfl⟩
                rw [← hsa, ← hsb]
                have hrd2 := Hrd.out
                rw [← hsa, ← hsb] at hrd2
                have Hrd2 := Lib.hid hrd2
                clear hsa hsb hrd2 Hrd
                go_wp2_with fail
                refine (dfuse_dk (n := F) HdA.out HF.out).mono ?_
                rintro _ wB ⟨rfl, hdB, hchB⟩
                have XB := Lib.hid (hchB.box Hx1.out XA.out)
                have WB := Lib.hid (hchB.box Hx2.out WA.out)
                have DB := Lib.hid (hchB.box Hx3.out DA.out)
                have HbB := Lib.hid (HbA.out.trans (hchB.below_ HbA.out.size))
                have HdB := Lib.hid hdB
                have hzB := hchB.size
                clear hdB hchB XA WA DA HdA
                go_wp2_with (refine wpList_load_aggG (by first | rfl | simp [Region.wanted, yielded]) 56 (.tmp 13) rfl ⟨gm, 0, none⟩ rfl (encM m (.slice Am m.files.length cm)) XB.out.cells Try.underlying56 rfl info_man3 ?_)
                refine (mwrite_any wB w.heap.size X2 g { d with fuse := F } _ m HdB.out (fun q hq => by have := Hx4.out q hq; omega) HbB.out.size (by show d.wt.length ≤ 900000; rw [Hwt.out]; decide) (HMt.out wB HbB.out) Hm.out).mono ?_
                rintro _ wC ⟨rfl, hdC, hchC⟩
                rw [← HD1.out] at hdC
                rw [← HE1.out]
                have XC := Lib.hid (hchC.box Hx1.out XB.out)
                have WC := Lib.hid (hchC.box Hx2.out WB.out)
                have DC := Lib.hid (hchC.box Hx3.out DB.out)
                have HbC := Lib.hid (HbB.out.trans (hchC.below_ HbB.out.size))
                have HdC := Lib.hid hdC
                have hzC := hchC.size
                clear hdC hchC XB WB DB HdB HD1 HE1
                go_wp2_with fail
                refine (dback_dk (keep := kp.toNat) (torn := tn.toNat) HdC.out (fun q hq => by have := Hx4.out q hq; omega) HbC.out.size hkp htn F1.out).mono ?_
                rintro _ wE ⟨rfl, hdE, hchE⟩
                rw [← HDD.out] at hdE
                have XE := Lib.hid (hchE.box Hx1.out XC.out)
                have WE := Lib.hid (hchE.box Hx2.out WC.out)
                have DE := Lib.hid (hchE.box Hx3.out DC.out)
                have HbE := Lib.hid (HbC.out.trans (hchE.below_ HbC.out.size))
                have HdE := Lib.hid hdE
                have hzE := hchE.size
                clear hdE hchE XC WC DC HdC HDD F1
                go_wp2_with fail
                refine (mfread_on wE w.heap.size X2 g DD HdE.out (by rw [F4.out]; decide) F3.out (by rw [F5.out]; decide) (by rw [F5.out]; decide)).mono ?_
                rintro _ wG ⟨vG, rfl, hmG, hdG, hbG⟩
                obtain ⟨eR, heR⟩ : ∃ eR, eR = rdE (rst (slotL DD) 2) := ⟨_, rfl⟩
                obtain ⟨R, hR⟩ : ∃ R, R = rdM (rst (slotL DD) 2) := ⟨_, rfl⟩
                have HER := Lib.hid heR
                have HR := Lib.hid hR
                rw [← heR]
                rw [← hR] at hmG
                have hrd3 := Hrd2.out
                have hbo3 := Hbo.out
                rw [← heR, ← hR] at hrd3
                rw [← heR, ← hR] at hbo3
                have Hrd3 := Lib.hid hrd3
                have Hbo3 := Lib.hid hbo3
                clear heR hR hrd3 hbo3 Hrd2 Hbo
                obtain ⟨vg, hvg, hff⟩ := id hmG
                obtain ⟨Af, cf, hvf2, -, -⟩ := hff.form
                subst hvf2
                subst hvg
                have XG := Lib.hid (XE.out.blwM hbG)
                have WG := Lib.hid (WE.out.blwM hbG)
                have DG := Lib.hid (DE.out.blwM hbG)
                have HbG := Lib.hid (bstep HbE.out hbG)
                have MG := Lib.hid hmG
                have HdG := Lib.hid hdG
                have hzG := hbG.size
                have HoneR : Hid (∀ u ∈ encM R (.slice Af R.files.length cf), u.oneCell' = true) := encM_one _ _ rfl
                clear hmG hff hbG hdG HdE XE WE DE
                go_wp2_with (first
                  | (refine wpList_alloc_z rfl 56 rfl info_manz zeroMc zeroM_cells ?_)
                  | (refine wpList_store_newW rfl 56 (.tmp 21) (.tmp 105) rfl zeroMc (encM R (.slice Af R.files.length cf)) rfl rfl info_man3 rfl HoneR.out ?_
                     intro wH hbxH hbH hzH
                     have XH := Lib.hid (XG.out.blwM hbH)
                     have WH := Lib.hid (WG.out.blwM hbH)
                     have DH := Lib.hid (DG.out.blwM hbH)
                     have BH := Lib.hid hbxH
                     have HbH := Lib.hid (bstep HbG.out hbH)
                     have MH := Lib.hid (MG.out.step hbH)
                     have HdH := Lib.hid (HdG.out.below_ hbH)
                     clear hbxH hbH))
                refine (model_mod wH w.heap.size X2 g DD HdH.out F4.out F3.out F5.out).mono ?_
                rintro _ wI ⟨t1, t2, rfl, ht1, ht2, hmodI, hdI, hbI⟩
                have XI := Lib.hid (XH.out.blwM hbI)
                have WI := Lib.hid (WH.out.blwM hbI)
                have DI := Lib.hid (DH.out.blwM hbI)
                have BI := Lib.hid (BH.out.blwM hbI)
                have HbI := Lib.hid (bstep HbH.out hbI)
                have MI := Lib.hid (MH.out.step hbI)
                have HmodI := Lib.hid hmodI
                have hzI := hbI.size
                have HoneE : Hid (∀ u ∈ [Value.int .i64 40, .bool false, .int .i64 (-1), t1, t2], u.oneCell' = true) := Lib.hid fun u hu => by
                  simp at hu
                  rcases hu with rfl | rfl | rfl | rfl | rfl
                  · rfl
                  · rfl
                  · rfl
                  · exact ht1
                  · exact ht2
                clear hdI hbI hmodI HdH HdG XH WH DH BH MH XG WG DG MG
                have hzz : w8.heap.size < wG.heap.size := by omega
                have hzw := XI.out.lt
                go_upto_region 27 with (first
                  | (refine wpList_store_boxW rfl 42 42 (.tmp 17) (.tmp 108) rfl w8.heap.size [Value.int .i64 40, .bool false, .int .i64 (-1), u1, u2] [Value.int .i64 40, .bool false, .int .i64 (-1), t1, t2] rfl rfl DI.out rfl HoneE.out info_rD5 ?_
                     intro wJ hbxJ hchJ hzJ))
                try simp only [Act.put, List.setIfInBounds_toArray, List.set_cons_zero, List.set_cons_succ]
                have hgm8 : gm < w8.heap.size ∧ gw < w8.heap.size := by
                  have := X8lt.out
                  have := W8lt.out
                  exact ⟨by omega, by omega⟩
                have XJ := Lib.hid (XI.out.chg hchJ (by omega))
                have WJ_ := Lib.hid (WI.out.chg hchJ (by omega))
                have BJ := Lib.hid (BI.out.chg hchJ (by omega))
                have DJ := Lib.hid hbxJ
                have MJ := Lib.hid (MI.out.chg hchJ (fun q hq => by omega))
                have HbJ := Lib.hid (HbI.out.trans (hchJ.below (B := w.heap.size) HbI.out.size (fun q hq => by omega)))
                have HmodJ : Hid (ModAt wJ (fun q => wH.heap.size ≤ q ∧ q < wI.heap.size) t1 t2 DD) := HmodI.out.chg hchJ (fun q hq => ⟨hq.2, by omega⟩)
                have hOJ : Hid (∀ q, (wH.heap.size ≤ q ∧ q < wI.heap.size) → q < wJ.heap.size) := fun q hq => by omega
                clear hbxJ hchJ XI WI BI DI MI HbI HmodI
                go_wp2_with (refine wpList_load_aggG (by first | rfl | simp [Region.wanted, yielded]) 42 (.tmp 17) rfl ⟨w8.heap.size, 0, none⟩ rfl ([Value.int .i64 40, .bool false, .int .i64 (-1), t1, t2]) DJ.out.cells Try.underlying42 rfl info_rD5 ?_)
                refine (read_mod wJ _ _ _ DD hOJ.out F3.out F5.out HmodJ.out).mono ?_
                rintro _ wK ⟨vK, rfl, hmK, hbK⟩
                rw [← HER.out]
                rw [← HR.out] at hmK
                obtain ⟨vy, hvy, hfy⟩ := id hmK
                obtain ⟨Ay, cy, hvy2, -, -⟩ := hfy.form
                subst hvy2
                subst hvy
                have HoneY : Hid (∀ u ∈ encM R (.slice Ay R.files.length cy), u.oneCell' = true) := encM_one _ _ rfl
                have XK := Lib.hid (XJ.out.blwM hbK)
                have WK := Lib.hid (WJ_.out.blwM hbK)
                have BK := Lib.hid (BJ.out.blwM hbK)
                have DK_ := Lib.hid (DJ.out.blwM hbK)
                have MK := Lib.hid (MJ.out.step hbK)
                have YK := Lib.hid hmK
                have HbK := Lib.hid (bstep HbJ.out hbK)
                have HmodK := Lib.hid (HmodJ.out.below hbK hOJ.out)
                have hzK := hbK.size
                clear hmK hfy hbK XJ WJ_ BJ DJ MJ HbJ HmodJ HER HR
                go_upto_region 28 with (first
                  | (refine wpList_alloc_z rfl 56 rfl info_manz zeroMc zeroM_cells ?_)
                  | (refine wpList_store_newW rfl 56 (.tmp 23) (.tmp 112) rfl zeroMc (encM R (.slice Ay R.files.length cy)) rfl rfl info_man3 rfl HoneY.out ?_
                     intro wL hbxL hbL hzL))
                try simp only [Act.put, List.setIfInBounds_toArray, List.set_cons_zero, List.set_cons_succ]
                have S0 : Hid (FSt w gm gw w8.heap.size wG.heap.size wK.heap.size (encM m (.slice Am m.files.length cm)) (encM was (.slice Aw was.files.length cw)) [Value.int .i64 40, .bool false, .int .i64 (-1), t1, t2] (encM R (.slice Af R.files.length cf)) (encM R (.slice Ay R.files.length cy)) (fun q => wH.heap.size ≤ q ∧ q < wI.heap.size) t1 t2 DD wE.heap.size wJ.heap.size R R wL) :=
                  ⟨XK.out.blwM hbL, WK.out.blwM hbL, DK_.out.blwM hbL, BK.out.blwM hbL, hbxL, HmodK.out.below hbL (fun q hq => Nat.lt_of_lt_of_le (hOJ.out q hq) hzK), fun q hq => by have := hOJ.out q hq; have := hbL.size; omega, MK.out.step hbL, YK.out.step hbL, bstep HbK.out hbL⟩
                clear hbxL hbL XK WK BK DK_ MK YK HbK HmodK hOJ hO9
                generalize w8.heap.size = gD at *
                generalize wG.heap.size = gx at *
                generalize wK.heap.size = gy at *
                obtain e6 | e6 := F2.out
                · subst e6
                  have hbo4 := Lib.hid (Hbo3.out rfl)
                  go_wp2_with (first | (refine wpList_load_aggG (by first | rfl | simp [Region.wanted, yielded]) 56 (.tmp 21) rfl ⟨gx, 0, none⟩ rfl (encM R (.slice Af R.files.length cf)) S0.out.bx.cells Try.underlying56 rfl info_man3 ?_) | (refine wpList_load_aggG (by first | rfl | simp [Region.wanted, yielded]) 56 (.tmp 23) rfl ⟨gy, 0, none⟩ rfl (encM R (.slice Ay R.files.length cy)) S0.out.by_.cells Try.underlying56 rfl info_man3 ?_))
                  refine (msame_any wL _ _ R R S0.out.ix.mat S0.out.iy.mat true (by simp)).mono ?_
                  rintro _ wM ⟨rfl, hbM⟩
                  have S1 := Lib.hid (S0.out.step hbM)
                  clear hbM S0
                  go_wp2_with (first | (refine wpList_load_aggG (by first | rfl | simp [Region.wanted, yielded]) 56 (.tmp 21) rfl ⟨gx, 0, none⟩ rfl (encM R (.slice Af R.files.length cf)) S1.out.bx.cells Try.underlying56 rfl info_man3 ?_) | (refine wpList_load_aggG (by first | rfl | simp [Region.wanted, yielded]) 56 (.tmp 13) rfl ⟨gm, 0, none⟩ rfl (encM m (.slice Am m.files.length cm)) S1.out.bm.cells Try.underlying56 rfl info_man3 ?_))
                  refine (msame_any wM _ _ R m S1.out.ix.mat (HMt.out wM S1.out.bl) true (by simp [hbo4.out.2])).mono ?_
                  rintro _ wS ⟨rfl, hbN⟩
                  have SS := Lib.hid (S1.out.step hbN)
                  clear hbN S1
                  go_wp2_with (first | (refine wpList_load_aggG (by first | rfl | simp [Region.wanted, yielded]) 42 (.tmp 17) rfl ⟨gD, 0, none⟩ rfl ([Value.int .i64 40, .bool false, .int .i64 (-1), t1, t2]) SS.out.bD.cells Try.underlying42 rfl info_rD5 ?_) | (refine wpList_load_aggG (by first | rfl | simp [Region.wanted, yielded]) 56 (.tmp 13) rfl ⟨gm, 0, none⟩ rfl (encM m (.slice Am m.files.length cm)) SS.out.bm.cells Try.underlying56 rfl info_man3 ?_))
                  refine (mixed_mod wS _ _ _ DD 0 (by omega) SS.out.lo F3.out F5.out SS.out.mod sa _ m (HMt.out wS SS.out.bl) Hm.out).mono ?_
                  rintro _ wP ⟨rfl, hbP⟩
                  have SP := Lib.hid (SS.out.step hbP)
                  clear hbP SS
                  cases h0 : mixP (slotL DD 0) sa m with
                  | true =>
                    go_wp2_with (go_at_call 30; refine (HA.out _).mono ?_; rintro e wa ⟨rfl, hba⟩)
                    go_ret
                    exact ⟨rfl, bstep SP.out.bl hba⟩
                  | false =>
                    have H0 := Lib.hid h0
                    clear h0
                    go_wp2_with (first | (refine wpList_load_aggG (by first | rfl | simp [Region.wanted, yielded]) 42 (.tmp 17) rfl ⟨gD, 0, none⟩ rfl ([Value.int .i64 40, .bool false, .int .i64 (-1), t1, t2]) SP.out.bD.cells Try.underlying42 rfl info_rD5 ?_) | (refine wpList_load_aggG (by first | rfl | simp [Region.wanted, yielded]) 56 (.tmp 13) rfl ⟨gm, 0, none⟩ rfl (encM m (.slice Am m.files.length cm)) SP.out.bm.cells Try.underlying56 rfl info_man3 ?_))
                    refine (mixed_mod wP _ _ _ DD 1 (by omega) SP.out.lo F3.out F5.out SP.out.mod sb _ m (HMt.out wP SP.out.bl) Hm.out).mono ?_
                    rintro _ wQ ⟨rfl, hbQ⟩
                    have SQ := Lib.hid (SP.out.step hbQ)
                    clear hbQ SP
                    cases h1 : mixP (slotL DD 1) sb m with
                    | true =>
                      go_wp2_with (go_at_call 30; refine (HA.out _).mono ?_; rintro e wa ⟨rfl, hba⟩)
                      go_ret
                      exact ⟨rfl, bstep SQ.out.bl hba⟩
                    | false =>
                      obtain ⟨r0, r1⟩ := Hrd3.out H0.out h1
                      have R1 := Lib.hid r1
                      subst r0
                      clear h1 r1
                      obtain ⟨r, hr⟩ : ∃ r : Bool, r = true ↔ R = m := by
                        by_cases h : R = m
                        · exact ⟨true, by simp [h]⟩
                        · exact ⟨false, by simp [h]⟩
                      have HRR := Lib.hid hr
                      clear hr
                      go_wp2_with (first | (refine wpList_load_aggG (by first | rfl | simp [Region.wanted, yielded]) 56 (.tmp 21) rfl ⟨gx, 0, none⟩ rfl (encM R (.slice Af R.files.length cf)) SQ.out.bx.cells Try.underlying56 rfl info_man3 ?_) | (refine wpList_load_aggG (by first | rfl | simp [Region.wanted, yielded]) 56 (.tmp 13) rfl ⟨gm, 0, none⟩ rfl (encM m (.slice Am m.files.length cm)) SQ.out.bm.cells Try.underlying56 rfl info_man3 ?_))
                      refine (msame_any wQ _ _ R m SQ.out.ix.mat (HMt.out wQ SQ.out.bl) r HRR.out).mono ?_
                      rintro _ wR ⟨rfl, hbR⟩
                      have SR := Lib.hid (SQ.out.step hbR)
                      clear hbR SQ
                      cases r with
                      | true =>
                        go_wp2_with (go_at_call 30; refine (HA.out _).mono ?_; rintro e wa ⟨rfl, hba⟩)
                        go_ret
                        exact ⟨rfl, bstep SR.out.bl hba⟩
                      | false =>
                        go_wp2_with (first | (refine wpList_load_aggG (by first | rfl | simp [Region.wanted, yielded]) 56 (.tmp 21) rfl ⟨gx, 0, none⟩ rfl (encM R (.slice Af R.files.length cf)) SR.out.bx.cells Try.underlying56 rfl info_man3 ?_) | (refine wpList_load_aggG (by first | rfl | simp [Region.wanted, yielded]) 56 (.tmp 11) rfl ⟨gw, 0, none⟩ rfl (encM was (.slice Aw was.files.length cw)) SR.out.bw.cells Try.underlying56 rfl info_man3 ?_))
                        refine (msame_any wR _ _ R was SR.out.ix.mat (HWs.out wR SR.out.bl) true (by simp; rcases R1.out with h | h; exact absurd (HRR.out.2 h) (by simp); exact h)).mono ?_
                        rintro _ wT ⟨rfl, hbT⟩
                        have ST := Lib.hid (SR.out.step hbT)
                        clear hbT SR
                        go_wp2_with (go_at_call 30; refine (HA.out _).mono ?_; rintro e wa ⟨rfl, hba⟩)
                        go_ret
                        exact ⟨rfl, bstep ST.out.bl hba⟩
                · subst e6
                  go_wp2_with (first | (refine wpList_load_aggG (by first | rfl | simp [Region.wanted, yielded]) 56 (.tmp 21) rfl ⟨gx, 0, none⟩ rfl (encM R (.slice Af R.files.length cf)) S0.out.bx.cells Try.underlying56 rfl info_man3 ?_) | (refine wpList_load_aggG (by first | rfl | simp [Region.wanted, yielded]) 56 (.tmp 23) rfl ⟨gy, 0, none⟩ rfl (encM R (.slice Ay R.files.length cy)) S0.out.by_.cells Try.underlying56 rfl info_man3 ?_))
                  refine (msame_any wL _ _ R R S0.out.ix.mat S0.out.iy.mat true (by simp)).mono ?_
                  rintro _ wS ⟨rfl, hbM⟩
                  have SS := Lib.hid (S0.out.step hbM)
                  clear hbM S0
                  go_wp2_with (first | (refine wpList_load_aggG (by first | rfl | simp [Region.wanted, yielded]) 42 (.tmp 17) rfl ⟨gD, 0, none⟩ rfl ([Value.int .i64 40, .bool false, .int .i64 (-1), t1, t2]) SS.out.bD.cells Try.underlying42 rfl info_rD5 ?_) | (refine wpList_load_aggG (by first | rfl | simp [Region.wanted, yielded]) 56 (.tmp 13) rfl ⟨gm, 0, none⟩ rfl (encM m (.slice Am m.files.length cm)) SS.out.bm.cells Try.underlying56 rfl info_man3 ?_))
                  refine (mixed_mod wS _ _ _ DD 0 (by omega) SS.out.lo F3.out F5.out SS.out.mod sa _ m (HMt.out wS SS.out.bl) Hm.out).mono ?_
                  rintro _ wP ⟨rfl, hbP⟩
                  have SP := Lib.hid (SS.out.step hbP)
                  clear hbP SS
                  cases h0 : mixP (slotL DD 0) sa m with
                  | true =>
                    go_wp2_with (go_at_call 30; refine (HA.out _).mono ?_; rintro e wa ⟨rfl, hba⟩)
                    go_ret
                    exact ⟨rfl, bstep SP.out.bl hba⟩
                  | false =>
                    have H0 := Lib.hid h0
                    clear h0
                    go_wp2_with (first | (refine wpList_load_aggG (by first | rfl | simp [Region.wanted, yielded]) 42 (.tmp 17) rfl ⟨gD, 0, none⟩ rfl ([Value.int .i64 40, .bool false, .int .i64 (-1), t1, t2]) SP.out.bD.cells Try.underlying42 rfl info_rD5 ?_) | (refine wpList_load_aggG (by first | rfl | simp [Region.wanted, yielded]) 56 (.tmp 13) rfl ⟨gm, 0, none⟩ rfl (encM m (.slice Am m.files.length cm)) SP.out.bm.cells Try.underlying56 rfl info_man3 ?_))
                    refine (mixed_mod wP _ _ _ DD 1 (by omega) SP.out.lo F3.out F5.out SP.out.mod sb _ m (HMt.out wP SP.out.bl) Hm.out).mono ?_
                    rintro _ wQ ⟨rfl, hbQ⟩
                    have SQ := Lib.hid (SP.out.step hbQ)
                    clear hbQ SP
                    cases h1 : mixP (slotL DD 1) sb m with
                    | true =>
                      go_wp2_with (go_at_call 30; refine (HA.out _).mono ?_; rintro e wa ⟨rfl, hba⟩)
                      go_ret
                      exact ⟨rfl, bstep SQ.out.bl hba⟩
                    | false =>
                      obtain ⟨r0, r1⟩ := Hrd3.out H0.out h1
                      have R1 := Lib.hid r1
                      subst r0
                      clear h1 r1
                      obtain ⟨r, hr⟩ : ∃ r : Bool, r = true ↔ R = m := by
                        by_cases h : R = m
                        · exact ⟨true, by simp [h]⟩
                        · exact ⟨false, by simp [h]⟩
                      have HRR := Lib.hid hr
                      clear hr
                      go_wp2_with (first | (refine wpList_load_aggG (by first | rfl | simp [Region.wanted, yielded]) 56 (.tmp 21) rfl ⟨gx, 0, none⟩ rfl (encM R (.slice Af R.files.length cf)) SQ.out.bx.cells Try.underlying56 rfl info_man3 ?_) | (refine wpList_load_aggG (by first | rfl | simp [Region.wanted, yielded]) 56 (.tmp 13) rfl ⟨gm, 0, none⟩ rfl (encM m (.slice Am m.files.length cm)) SQ.out.bm.cells Try.underlying56 rfl info_man3 ?_))
                      refine (msame_any wQ _ _ R m SQ.out.ix.mat (HMt.out wQ SQ.out.bl) r HRR.out).mono ?_
                      rintro _ wR ⟨rfl, hbR⟩
                      have SR := Lib.hid (SQ.out.step hbR)
                      clear hbR SQ
                      cases r with
                      | true =>
                        go_wp2_with (go_at_call 30; refine (HA.out _).mono ?_; rintro e wa ⟨rfl, hba⟩)
                        go_ret
                        exact ⟨rfl, bstep SR.out.bl hba⟩
                      | false =>
                        go_wp2_with (first | (refine wpList_load_aggG (by first | rfl | simp [Region.wanted, yielded]) 56 (.tmp 21) rfl ⟨gx, 0, none⟩ rfl (encM R (.slice Af R.files.length cf)) SR.out.bx.cells Try.underlying56 rfl info_man3 ?_) | (refine wpList_load_aggG (by first | rfl | simp [Region.wanted, yielded]) 56 (.tmp 11) rfl ⟨gw, 0, none⟩ rfl (encM was (.slice Aw was.files.length cw)) SR.out.bw.cells Try.underlying56 rfl info_man3 ?_))
                        refine (msame_any wR _ _ R was SR.out.ix.mat (HWs.out wR SR.out.bl) true (by simp; rcases R1.out with h | h; exact absurd (HRR.out.2 h) (by simp); exact h)).mono ?_
                        rintro _ wT ⟨rfl, hbT⟩
                        have ST := Lib.hid (SR.out.step hbT)
                        clear hbT SR
                        go_wp2_with (go_at_call 30; refine (HA.out _).mono ?_; rintro e wa ⟨rfl, hba⟩)
                        go_ret
                        exact ⟨rfl, bstep ST.out.bl hba⟩


      · have hdk : decide ((k : Int) < (l.length : Int)) = false := decide_eq_false (by omega)
        go_wp2_with (go_at_call 30; refine (HA.out _).mono ?_; rintro e wa ⟨rfl, hba⟩)
        go_ret
        exact ⟨rfl, bstep Hbl.out hba⟩

set_option maxRecDepth 100000 in
theorem lifted (os : Os) (started : os.Started) (H : Type) (enc : TypeId × Value → H) :
    ReturnsInHanded {} Try.checked os 11 .any (Rows.manifestFallsSpec.pre6 enc Try.prog Try.f11 Rows.manifestFallsRow.domain false) (Rows.manifestFallsSpec.post enc Try.prog Try.f11 false true false false) := by
  refine returnsInHanded_of_change (C := Try.checked) own started (by kernel_rfl) Try.func11
    (ChangeSpec.witness6 (enc := enc) (C := Try.checked) false ⟨#[], #[.slice none 0 0, .int .i64 0, .int .u64 0, .int .u64 0], []⟩ 8 (by kernel_rfl) (by kernel_rfl) (by kernel_rfl) (by kernel_rfl)) ?_
  intro W base args ds gs before hval0 hW hcnd _
  have hval : ∀ (j : Nat) t v, Try.f11.params[j]? = some t → args[j]? = some v → Value.okWide Try.prog W .any base t v := hval0
  have hW' := hW
  obtain ⟨p, q, hA0, hV, rfl, hfz, hnd⟩ := hW
  have hA : DataW.TrodAll enc Try.prog W 0 (fun _ => true) true Try.f11.params.toList args.toList ds p := hA0
  rw [Try.params11] at hA hval
  obtain ⟨v0, vs0, d0, ds0, p0, q0, hargs, rfl, rfl, h0, r0⟩ := trodAll_cons hA
  obtain ⟨v1, vs1, d1, ds1, p1, q1, rfl, rfl, rfl, h1, r1⟩ := trodAll_cons r0
  obtain ⟨v2, vs2, d2, ds2, p2, q2, rfl, rfl, rfl, h2, r2⟩ := trodAll_cons r1
  obtain ⟨v3, vs3, d3, ds3, p3, q3, rfl, rfl, rfl, h3, r3⟩ := trodAll_cons r2
  obtain ⟨rfl, rfl, rfl⟩ := trodAll_nil r3
  obtain rfl : args = #[v0, v1, v2, v3] := by cases args; simp_all
  obtain ⟨rfl, rfl⟩ := trodVars_none hV
  have k0 := h0
  have lt0 : ∀ x ∈ p0, x.block < W.heap.size := by obtain ⟨m, hm⟩ := k0; exact DataW.trod_lt m _ _ _ hm
  have i0 := InC.of h0
  obtain ⟨a0, len0, cap0, rfl⟩ := okWide_slice Try.underlying77 (hval 0 77 v0 rfl rfl)
  have j0 : InC W 77 [_] := i0
  have k1 := h1
  have lt1 : ∀ x ∈ p1, x.block < W.heap.size := by obtain ⟨m, hm⟩ := k1; exact DataW.trod_lt m _ _ _ hm
  have i1 := InC.of h1
  obtain ⟨a1, rfl⟩ := okWide_int Try.underlying3 (hval 1 3 v1 rfl rfl)
  have j1 : InC W 3 [_] := i1
  have k2 := h2
  have lt2 : ∀ x ∈ p2, x.block < W.heap.size := by obtain ⟨m, hm⟩ := k2; exact DataW.trod_lt m _ _ _ hm
  have i2 := InC.of h2
  obtain ⟨a2, rfl⟩ := okWide_int Try.underlying33 (hval 2 33 v2 rfl rfl)
  have j2 : InC W 33 [_] := i2
  have k3 := h3
  have lt3 : ∀ x ∈ p3, x.block < W.heap.size := by obtain ⟨m, hm⟩ := k3; exact DataW.trod_lt m _ _ _ hm
  have i3 := InC.of h3
  obtain ⟨a3, rfl⟩ := okWide_int Try.underlying33 (hval 3 33 v3 rfl rfl)
  have j3 : InC W 33 [_] := i3
  clear hA0 hval0
  refine (walk _ _ _ _ W j0 j1 j2 j3).mono fun e W' ⟨he, bel⟩ => ?_
  subst he
  exact ⟨_, rfl, _, _, _, [], _, [], hW', trodAll_mk1 (shut_bool Try.underlying4 _), (trodAll_cons_mk (Below.trod laidOut (by kernel_rfl) (of_decide_eq_true (by kernel_rfl)) k0 bel lt0) (trodAll_cons_mk (Below.trod laidOut (by kernel_rfl) (of_decide_eq_true (by kernel_rfl)) k1 bel lt1) (trodAll_cons_mk (Below.trod laidOut (by kernel_rfl) (of_decide_eq_true (by kernel_rfl)) k2 bel lt2) (trodAll_cons_mk (Below.trod laidOut (by kernel_rfl) (of_decide_eq_true (by kernel_rfl)) k3 bel lt3) trodAll_mk0)))), rfl, bel.frame _, fun h => by cases h⟩

theorem over : Rows.manifestFallsRow.holds Try.pinned (OpenSpec.ofChange Rows.manifestFallsSpec) :=
  OpenClaim.holds_of_wide 11 Try.f11 rfl rfl rfl rfl rfl rfl rfl ⟨rfl, rfl, rfl, rfl, rfl⟩ rfl rfl rfl rfl rfl (by kernel_rfl) Try.func11 (by kernel_rfl)
    (of_decide_eq_true (by kernel_rfl)) (by unfold Func.isWrapper; first | (rw [if_pos (by decide +kernel)]; kernel_rfl) | (rw [if_neg (by decide +kernel)]; exact ⟨rfl, rfl⟩))
    (fun os started H enc _ => lifted os started H enc)

theorem proved : Rows.ManifestFallsSaid := over
#print axioms proved
end Go.Proofs.Ytpoicbhbkabllaa.manifestFalls
