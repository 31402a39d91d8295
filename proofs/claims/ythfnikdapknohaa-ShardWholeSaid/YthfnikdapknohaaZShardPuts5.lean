/- The law 'ShardPuts' returns true for every input, and each argument reads behind the call as it read before. No condition. -/
import Derived.Test.YthfnikdapknohaaZShardPuts4
import Derived.Test.YthfnikdapknohaaRows
import Derived.WalkKit
import Derived.ProofKit
import Derived.OpenShut
import Derived.ShutString
import Derived.ChangeOld
import Derived.Below
namespace Go.Proofs.Ythfnikdapknohaa
set_option linter.unusedSimpArgs false
set_option linter.unusedVariables false
open Go.RowKit Go.Shelf
attribute [local go_sem] Oper.semAt_some

theorem run_slice_line (w : World) (fr : Nat) (a b : Value) : (Instr.buildSlice 92 1 #[(0, .agg (lineC fr a b).toArray)]).run Try.prog w =
    .ok (.slice (some ⟨w.heap.size, 0, none⟩) 1 1) (w.alloc (.cells (lineC fr a b).toArray 98)) := by
  obtain ⟨it, hit, hz0, hz1, hby⟩ := info_parts infoLine
  refine run_buildSlice w _ _ 1 _ _ it _ Try.underlying92 hit hz0 (by rw [hz1]; decide) (by rw [hz1]; decide) ?_
  rw [hz1]
  exact fill_whole 3 _ (lineC fr a b) (by first | rfl | simp) (by first | rfl | simp [lineC])
/-- the lines that are read so far -/
def LnOwn (W : World) (base : Nat) (va : Value) (acc : List GLine) : Prop := OwnR 98 cLine W base (fun k => base ≤ k ∧ k < W.heap.size ∧ va.ownBlock ≠ some k) va acc
theorem LnOwn.below_ {W W' : World} {base : Nat} {va : Value} {acc : List GLine} (h : LnOwn W base va acc) (hb : Below W.heap.size W W') : LnOwn W' base va acc :=
  (OwnR.below_ h hb).widen (fun k hk => ⟨hk.1, by have := hb.size; omega, hk.2.2⟩) (fun k hk => ⟨hk.2.1, hk.2.2⟩)
theorem LnOwn.rd {W W' : World} {base g : Nat} {va : Value} {acc : List GLine} (h : LnOwn W base va acc) (hg : W.grownBy W' (some g)) (hgb : g < base) : LnOwn W' base va acc :=
  (OwnR.keep h hg (by
    cases hv : va.ownBlock with
    | none => exact .inl rfl
    | some q => exact .inr fun e => by injection e with e; have := (OwnR.blk h q hv).1; omega) (fun k hk e => by injection e with e; omega)).widen (fun k hk => ⟨hk.1, by have := hg.size; omega, hk.2.2⟩) (fun k hk => ⟨hk.2.1, hk.2.2⟩)
theorem LnOwn.ofS {W : World} {base : Nat} {S : Nat → Prop} {va : Value} {acc : List GLine} (h : OwnR 98 cLine W base S va acc) (hS : ∀ k, S k → base ≤ k) : LnOwn W base va acc := by
  have h4 : ∀ k, S k → k < W.heap.size ∧ va.ownBlock ≠ some k := by obtain ⟨_, _, _, _, h4⟩ := h; exact h4
  exact h.widen (fun k hk => ⟨hS k hk, (h4 k hk).1, (h4 k hk).2⟩) (fun k hk => ⟨hk.2.1, hk.2.2⟩)
theorem sec_one (k : Nat) (A : Option Addr) (n c : Nat) : ∀ u ∈ ([.int .u8 (k : Int), .slice A n c] : List Value), u.oneCell' = true := by
  intro u hu; simp at hu; rcases hu with rfl | rfl <;> rfl

set_option maxRecDepth 100000 in
set_option maxHeartbeats 12800000 in
theorem shget_any (w : World) (v : Value) (b : List UInt8) (hby : By w w.heap.size v b) (hl : b.length ≤ 100000) (hs : rsz (rowsOf (plines b)) ≤ 20000) :
    Calls Try.prog 15 #[v] w fun e w' => Below w.heap.size w w' ∧ ((isSh b ∧ ∃ g, e = .returned (.tuple #[.pointer (some ⟨g, 0, none⟩), .int .i64 0]) ∧ w.heap.size ≤ g ∧ LinesAt w' w'.heap.size g (plines b)) ∨ (¬ isSh b ∧ e = .returned (.tuple #[.pointer none, .int .i64 5]))) := by
  obtain ⟨A, c, rfl, hc1, hc2, _⟩ := id hby
  unfold maxLen at hc2
  have hfg := fget_any w (.slice A b.length c) b hby (by omega)
  have Hby := Lib.hid hby
  have Hfg := Lib.hid hfg
  have hbad : (sE b ≠ 0 ∨ sN b ≠ b.length ∨ sK b ≠ 83) → ¬ isSh b := fun h hi => by
    obtain ⟨h1, h2, h3, _⟩ := hi
    rcases h with h | h | h
    · exact h h1
    · exact h h2
    · exact h h3
  have Hbad := Lib.hid hbad
  have hLb : (sL b).length ≤ b.length := by
    unfold sL
    split
    · simp only [List.length_take, List.length_drop]; omega
    · simp
  clear hfg hby hbad
  refine (callsIn_wide (n := 5)).1 ?_
  refine callsIn_of_wp_marks Try.func15 rfl trivial ?_ rfl
  simp only [Try.ntmps15, List.size_toArray, List.length_cons, List.length_nil, Nat.reduceAdd, Nat.reduceSub, Array.replicate_succ, Array.replicate_zero, List.push_toArray, List.append_toArray, List.nil_append, List.cons_append]
  gi_wp2
  refine ⟨trivial, ?_⟩
  refine (callsIn_wide.2 Hfg.out).mono ?_
  rintro _ w1 ⟨v1, rfl, ho1, hb1⟩
  have Hb1 := Lib.hid hb1
  have Ho1 := Lib.hid ho1
  obtain ⟨A1, c1, rfl, _, _, _⟩ := ho1.form_
  clear hb1 ho1 Hfg
  have hk1 := u8_lt (sK b)
  have hone := sec_one (sK b).toNat A1 (sL b).length c1
  have Hone := Lib.hid hone
  clear hone
  by_cases hgood : sE b = 0 ∧ sN b = b.length ∧ sK b = 83
  · obtain ⟨g1, g2, g3⟩ := hgood
    have HG1 := Lib.hid g1
    have HG2 := Lib.hid g2
    have HG3 := Lib.hid g3
    have hpl : plines b = (prows (numS b.length (sL b) 0).1 0 [] (numS b.length (sL b) 0).2.1 (numS b.length (sL b) 0).2.2).1 := rfl
    have Hpl := Lib.hid hpl
    have hnl := (numS_lt b.length (sL b) 0).2
    have hns := numS_len b.length (sL b) 0
    clear hpl g1 g2 g3
    rw [HG1.out, HG2.out, HG3.out]
    rw [HG3.out] at Hone
    have Ho1b := Lib.hid (Ho1.out.by_)
    obtain ⟨w4, hw4⟩ : ∃ w4, ((w1.alloc (.cells #[.int .u8 83, .slice A1 (sL b).length c1] 87)).alloc (.cells #[.slice A1 (sL b).length c1, .int .i64 0] 145)).alloc (.cells #[.slice none 0 0] 94) = w4 := ⟨_, rfl⟩
    have hb14 : Below w1.heap.size w1 w4 := by rw [← hw4]; exact bstep (bstep (balloc _ _) (balloc _ _)) (balloc _ _)
    have hz4 : w4.heap.size = w1.heap.size + 1 + 1 + 1 := by rw [← hw4]; simp
    have hrd4 : RdrAt w4 (w1.heap.size + 1) (sL b) 0 := by
      rw [← hw4]
      have h1 := RdrAt.new_ (w := w1.alloc (.cells #[.int .u8 83, .slice A1 (sL b).length c1] 87)) (v := .slice A1 (sL b).length c1) (l := sL b) ((Ho1b.out.step (balloc _ _)))
      rw [World.size_alloc] at h1
      exact h1.below (B := w1.heap.size + 1 + 1) (by omega) (by
        have := balloc ((w1.alloc (.cells #[.int .u8 83, .slice A1 (sL b).length c1] 87)).alloc (.cells #[.slice A1 (sL b).length c1, .int .i64 0] 145)) (.cells #[.slice none 0 0] 94)
        rwa [World.size_alloc, World.size_alloc] at this)
    have hgs4 : BoxAt 94 w4 (w1.heap.size + 1 + 1) [.slice none 0 0] := by
      rw [← hw4]
      have := BoxAt.new_ 94 ((w1.alloc (.cells #[.int .u8 83, .slice A1 (sL b).length c1] 87)).alloc (.cells #[.slice A1 (sL b).length c1, .int .i64 0] 145)) [.slice none 0 0]
      simpa using this
    have Hrd4 := Lib.hid hrd4
    have Hgs4 := Lib.hid hgs4
    have hs1 := Hb1.out.size
    have Hb4 := Lib.hid (Hb1.out.trans (hb14.mono hs1))
    have Hvn := Lib.hid (vnum_any w4 (w1.heap.size + 1) (sL b) 0 b.length (by omega) hrd4)
    clear hb14 hrd4 hgs4
    have hcv : IntKind.u64.wrap (b.length : Int) = (b.length : Int) := by rw [wrap_u64]; omega
    gi_wp2_with (first
      | (refine wpListIn_alloc_z rfl 87 rfl infoSec3 [.int .u8 0, .slice none 0 0] rfl ?_)
      | (refine wpListIn_store_new rfl 87 (.tmp 4) (.tmp 19) rfl [.int .u8 0, .slice none 0 0] [.int .u8 (((83 : UInt8).toNat : Nat) : Int), .slice A1 (sL b).length c1] rfl rfl infoSec rfl Hone.out ?_))
    refine ⟨trivial, ?_⟩
    refine (callsIn_wide.2 (vnew_any _ _ _ _)).mono ?_
    rintro _ _ ⟨rfl, rfl⟩
    gi_wp2
    refine ⟨trivial, ?_⟩
    try rw [hw4]
    refine (callsIn_wide.2 Hvn.out).mono ?_
    rintro _ w5 ⟨rfl, hrd5, hg5⟩
    clear hw4
    obtain ⟨gr, hgr⟩ : ∃ gr, w1.heap.size + 1 = gr := ⟨_, rfl⟩
    have hgs5 := Hgs4.out.grown hg5 (fun e => by injection e with e; omega)
    have Hb5 := Lib.hid (Hb4.out.trans (gofBelow hg5 (B := w.heap.size) (by omega) (fun k hk => by injection hk with hk; omega)))
    have hz5 := hg5.size
    obtain ⟨base, hbase⟩ : ∃ base, w1.heap.size + 1 + 1 + 1 = base := ⟨_, rfl⟩
    obtain ⟨gs, hgs⟩ : ∃ gs, gr + 1 = gs := ⟨_, rfl⟩
    rw [hz4, hbase] at hz5
    rw [hgr, hgs] at hgs5
    rw [hgr] at hrd5
    have Hrd5 := Lib.hid hrd5
    have Hgs5 := Lib.hid hgs5
    obtain ⟨n0, s0, e0, hN0⟩ : ∃ a b' c', numS b.length (sL b) 0 = (a, b', c') := ⟨_, _, _, rfl⟩
    rw [hN0] at Hrd5 hnl hns Hpl
    simp only at hnl hns
    have hbg : gs + 1 = base := by omega
    have hwb : w.heap.size ≤ gr := by omega
    have hrg : gr < gs := by omega
    rw [hN0]
    clear hrd5 hgs5 hg5 Hvn Hgs4 Hrd4 Hb4 hN0
    gi_wp2
    gi_loopw [9, 10] (fun vx vn wr => ∃ (n next : Nat) (acc : List GLine) (s : List UInt8) (e : Int) (va : Value), vn = .int .u64 (n : Int) ∧ vx = .int .u64 (next : Int) ∧ next ≤ 4294967296 ∧ RdrAt wr gr s e ∧ BoxAt 94 wr gs [va] ∧ LnOwn wr base va acc ∧ s.length ≤ b.length ∧ acc.length + n ≤ b.length ∧ (prows n next acc s e).1 = plines b ∧ Below w.heap.size w wr ∧ base ≤ wr.heap.size) (fun _ vn _ => (intOf vn).toNat)
    case atStart => exact ⟨n0, 0, [], s0, e0, .slice none 0 0, rfl, rfl, by omega, Hrd5.out, Hgs5.out, OwnR.nil_ (fun k hk => hk.2.1), by omega, by simpa using hnl, Hpl.out.symm, Hb5.out, hz5⟩
    case round =>
      obtain ⟨n, next, acc, s, e, va, rfl, rfl, hnx, hrd, hgsr, hln, hsl, han, hpr, hbw, hbs⟩ := hrel
      have Hrd := Lib.hid hrd
      have Hgsr := Lib.hid hgsr
      have Hln0 := Lib.hid hln
      have Hbw := Lib.hid hbw
      have hver := verr_any wr gr s e hrd
      have Hver := Lib.hid hver
      by_cases hstop : n = 0 ∨ e ≠ 0 ∨ 4294967295 < next
      · have hacc : plines b = acc := by
          rw [← hpr]
          cases n with
          | zero => rfl
          | succ m => rw [prows, if_pos (by rcases hstop with h | h | h; (· omega); (· exact .inl h); (· exact .inr h))]
        have Hacc := Lib.hid hacc
        clear hacc hpr hrd hgsr hln hbw hver
        by_cases hn0 : n = 0
        · have hd0 : decide ((n : Int) > 0) = false := decide_eq_false (by omega)
          have hd1 : decide (0 < n) = false := decide_eq_false (by omega)
          clear hstop hn0
          gi_wp2
          refine ⟨trivial, ?_⟩
          obtain ⟨w9, hw9⟩ : ∃ w9, (wr.alloc (.cells #[.slice none 0 0] 22)).alloc (.cells #[.pointer (some ⟨gs, 0, none⟩)] 30) = w9 := ⟨_, rfl⟩
          obtain ⟨V, hV⟩ : ∃ V, wr.heap.size = V := ⟨_, rfl⟩
          have hb9 : Below wr.heap.size wr w9 := by rw [← hw9]; exact bstep (balloc _ _) (balloc _ _)
          have hz9 : w9.heap.size = V + 1 + 1 := by rw [← hw9, ← hV]; simp
          have hV9 : BoxAt 22 w9 V [.slice none 0 0] := by
            rw [← hw9, ← hV]
            exact (BoxAt.new_ 22 wr [.slice none 0 0]).alloc _
          have hB9 : BoxAt 30 w9 (V + 1) [.pointer (some ⟨gs, 0, none⟩)] := by
            rw [← hw9, ← hV]
            have := BoxAt.new_ 30 (wr.alloc (.cells #[.slice none 0 0] 22)) [.pointer (some ⟨gs, 0, none⟩)]
            simpa using this
          obtain ⟨Av, cv, rfl, hv1, hv2, _⟩ := OwnR.form' Hln0.out
          have hlines : LinesAt w9 V gs acc := by
            rw [← hV]
            exact LinesAt.below ⟨Av, cv, Hgsr.out, by omega, hv1, hv2, (OwnR.row Hln0.out).mono (fun k hk => hk.2) (fun k hk => hk.2.1)⟩ hb9
          have Hlines := Lib.hid hlines
          have HV9 := Lib.hid hV9
          have HB9 := Lib.hid hB9
          have Hbw9 := Lib.hid (Hbw.out.trans (hb9.mono (by omega)))
          have hzs : rsz (rowsOf acc) ≤ 20000 := by rw [← Hacc.out]; exact hs
          have hwV : w.heap.size ≤ V := by omega
          clear hlines hV9 hB9 hb9 Hgsr Hln0 Hbw Hver Hrd
          gi_wp2
          refine ⟨trivial, ?_⟩
          refine (callsIn_wide.2 (srows_any _ _)).mono ?_
          rintro _ _ ⟨rfl, rfl⟩
          gi_wp2
          try rw [hw9]
          clear hw9 hV
          -- STOP
          refine range_all (gf := 83) (lb := #[.pointer (some ⟨V + 1, 0, none⟩)]) rfl (enters_of Try.func83 (by kernel_rfl) rfl) (Kr := KrR V V) (fun h k => h.trans k) (fun W q o o' h1 h2 => KrR.putObj _ _ W q o o' h1 h2)
            (fun _ => rfl) (rows_iter 4 (by omega) w9 V V (V + 1) gs acc (Nat.le_refl _) (by omega) HB9.out (by omega) Hlines.out (by omega))
            (fun pre W => (∃ va, BoxAt 22 W V [va] ∧ OwnF 75 cRaw W V va (pre.map rawY) ∧ w9.heap.size ≤ W.heap.size) ∧ Below V w9 W)
            (OwnFrom.and (Own.from (fun s X Y row hs hg hr => by obtain ⟨va, i1, i2, i3⟩ := hs; exact ⟨va, i1.ownk hg hr, OwnR.ownk i2 hg hr, Nat.le_trans i3 hg.size⟩) _) (fun s X Y row hs hg hr => hs.trans (gofBelow hg (B := V) (by have := hs.size; omega) (fun k hk => by have := (hr k hk).1; omega))))
            (fun s X Y row hs hg hr => ⟨hs.1, fun x hx => OwnR.ownk (hs.2 x hx) hg (fun r e => (hr r e).2)⟩)
            ⟨⟨_, HV9.out, OwnF.nil_ _ _, Nat.le_refl _⟩, Below.refl _ _⟩
            (fun a0 pre x a' W => ((∃ va, BoxAt 22 W V [va] ∧ OwnF 75 cRaw W V va (pre.map rawY) ∧ w9.heap.size ≤ W.heap.size) ∧ Below V w9 W) ∧ x.2.oneCell' = true ∧ ∃ Bx, w9.heap.size ≤ Bx ∧ BoxAt 75 W Bx [.int .u32 (x.1.fr.toNat : Int), x.2] ∧
              a' = { tmps := (a0.tmps.setIfInBounds 78 (.agg #[.int .u32 (x.1.fr.toNat : Int), x.2])).setIfInBounds 13 (.pointer (some ⟨Bx, 0, none⟩)), defers := [] })
            (fun pre x a' _ X Y row hs hg hr => by
              obtain ⟨⟨⟨va, i1, i2, i3⟩, i4⟩, i5, Bx, i6, i7, i8⟩ := hs
              have hr' := fun r e => (hr r e).2
              exact ⟨⟨⟨va, i1.ownk hg hr', OwnR.ownk i2 hg hr', Nat.le_trans i3 hg.size⟩, i4.trans (gofBelow hg (B := V) (by have := i4.size; omega) (fun k hk => by have := (hr k hk).1; omega))⟩, i5, Bx, i6, i7.ownk hg hr', i8⟩)
            ?assign ?body ?done
          case assign =>
            rintro lq pre x W hlq ⟨⟨va, i1, i2, i3⟩, i4⟩ hR
            obtain ⟨Ax, cx, hx2, _, _, _⟩ := hR.form'
            obtain ⟨r, xv⟩ := x
            simp only at hx2
            subst hx2
            have Hone5 := Lib.hid (rowC_one r.fr.toNat Ax r.arcs.length cx)
            clear hR
            dsimp only [encY]
            gi_wp2_with (first
              | (refine wpListIn_alloc_z rfl 75 rfl infoRow [.int .u32 0, .slice none 0 0] rfl ?_)
              | (refine wpListIn_store_new rfl 75 (.tmp 13) (.tmp 78) rfl [.int .u32 0, .slice none 0 0] [.int .u32 (r.fr.toNat : Int), .slice Ax r.arcs.length cx] rfl rfl infoRow2 rfl Hone5.out ?_))
            have hb8 := balloc W (.cells #[.int .u32 (r.fr.toNat : Int), .slice Ax r.arcs.length cx] 75)
            refine ⟨(KeepsOthers.alloc _ _).from _, KrR.ofBelow hb8, ⟨⟨va, i1.alloc _, i2.alloc _, by have := hb8.size; omega⟩, i4.trans (hb8.mono (by omega))⟩, rfl, by omega, BoxAt.new_ 75 W [.int .u32 (r.fr.toNat : Int), .slice Ax r.arcs.length cx]⟩
          case body =>
            rintro lq pre x a' W hlq ⟨⟨⟨va, i1, i2, i3⟩, i4⟩, i5, Bx, i6, i7, rfl⟩ hlen
            obtain ⟨r, xv⟩ := x
            simp only at i5 i7
            have hlm : (pre.map rawY).length = pre.length := List.length_map ..
            obtain ⟨Aw, cw, rfl, _, _, _⟩ := i2.form'
            have hneV : Value.ownBlock (.slice Aw (pre.map rawY).length cw) ≠ some V := fun e => by
              obtain ⟨cur, hcur⟩ := i2.blkT _ e
              have : W.heap[V]? = _ := i1
              rw [hcur] at this
              injection this with this
              injection this with _ h2 _
              exact absurd h2 (by decide)
            rw [hlm] at i1 i2 hneV
            have hcV := i1.cell 0 _ rfl
            have I1 := Lib.hid i1
            have I2 := Lib.hid i2
            have I4 := Lib.hid i4
            have I7 := Lib.hid i7
            have HneV := Lib.hid hneV
            have h4s := i4.size
            have hVW : V ≤ W.heap.size := by omega
            have hal : pre.length ≤ 549755813887 := by omega
            clear i1 i2 i4 i7 hneV
            simp only [List.setIfInBounds_toArray, List.set_cons_zero, List.set_cons_succ]
            gi_wp2_with (first
              | (refine wpListIn_load_agg (o := { dst := some 80, op := .load 75 (.tmp 13), type := _, pos := _, after := _, guard := none }) rfl 75 (.tmp 13) rfl ⟨Bx, 0, none⟩ rfl [.int .u32 (r.fr.toNat : Int), xv] I7.out.cells Try.underlying75 rfl infoRow2 ?_)
              | (refine wpListIn_slice_row (o := { dst := some 81, op := .buildSlice 22 1 #[(0, .tmp 80)], type := _, pos := _, after := _, guard := none }) rfl (.tmp 80) rfl (.int .u32 (r.fr.toNat : Int)) xv rfl rfl ?_)
              | (refine wpListIn_app1R (C := cRaw) (o := { dst := some 82, op := .call { callee := .builtin .append, args := #[.tmp 79, .tmp 81], argTypes := #[22, 22] }, type := _, pos := _, after := _, guard := none }) rfl (.tmp 79) (.tmp 81) 22 rfl Try.underlying22 infoRow (by kernel_rfl) (by decide) (by decide) [.int .u32 (r.fr.toNat : Int), xv] I2.out (y := (Value.int .u32 (r.fr.toNat : Int), xv)) ⟨rfl, rfl, i5⟩ rfl rfl (by rw [hlm]; exact hal) hVW ?_
                 intro v6 w6 ho6 hx6
                 have hV6 := I1.out.grown hx6.gr HneV.out
                 obtain ⟨A6, c6, rfl, _, _, _⟩ := ho6.form'
                 have hl6 : (pre.map rawY ++ [((Value.int .u32 (r.fr.toNat : Int)), xv)]).length = pre.length + 1 := by simp
                 rw [hl6] at ho6 hx6
                 have hcV6 := hV6.cell 0 _ rfl
                 have hfV6 := hV6.frozen 0
                 have Ho6 := Lib.hid ho6
                 have Hx6 := Lib.hid hx6
                 have HV6 := Lib.hid hV6
                 clear ho6 hx6 hV6
                 rw [hl6]
                 refine wpListIn_store_sl rfl (.tmp 12) (.tmp 82) rfl V 0 A6 (pre.length + 1) c6 _ rfl rfl hcV6 hfV6 ?_))
            have h6s := Hx6.out.gr.size
            have hne6 := Hx6.out.ne (g := V) (by omega) HneV.out
            have hss : (w6.setCell ⟨V, 0, none⟩ (.slice A6 (pre.length + 1) c6)).heap.size = w6.heap.size := by simp [World.setCell]
            have hput := HV6.out.put 0 (.slice A6 (pre.length + 1) c6)
            refine ⟨⟨?_, fun k o hk ho hc => ?_⟩, ?_, ⟨.slice A6 (pre.length + 1) c6, hput, ?_, ?_⟩, ?_⟩
            · omega
            · refine (Below.heap_setCell _ _ _ k (by show k ≠ V; omega)).trans ((Hx6.out.gr.block k (Array.getElem?_eq_some_iff.1 ho).1 fun e => ?_).trans ho)
              obtain ⟨cur, hcur⟩ := I2.out.blkT k e.symm
              rw [ho] at hcur
              injection hcur with hcur
              subst hcur
              cases hc
            · refine KrR.trans (KrR.ofGrown Hx6.out.gr fun k e => .inr ?_) (KrR.ofGrown (gset w6 ⟨V, 0, none⟩ _) fun k e => .inl (by injection e with e; exact e.symm))
              obtain ⟨cur, hcur⟩ := I2.out.blkT k e
              exact ⟨(I2.out.blk k e).1, _, hcur, rfl⟩
            · exact Ho6.out.keep (gset w6 ⟨V, 0, none⟩ _) (by
                rcases hq : Value.ownBlock (.slice A6 (pre.length + 1) c6) with _ | q
                · exact .inl rfl
                · exact .inr (fun e => hne6 (by rw [hq]; exact e))) (fun _ h => h.elim)
            · omega
            · exact (I4.out.trans (Hx6.out.below (B := V) hVW (fun q hq => (I2.out.blk q hq).1))).setCell (p := ⟨V, 0, none⟩) (Nat.le_refl V) _
          case done =>
            rintro D xs W hD ⟨hS1, hS2⟩ ⟨⟨va, i1, i2, i3⟩, i4⟩ hK
            have hrf := rowsOfRaw i2 (b2 := w9.heap.size) (by omega) hS2
            rw [hS1] at hrf
            have hcV := i1.cell 0 _ rfl
            obtain ⟨Aw, cw, rfl, _, _, _⟩ := i2.form'
            have hlx : (xs.map rawY).length = xs.length := List.length_map ..
            rw [hlx] at hrf hcV
            have hput := shput_any W W.heap.size (.slice Aw xs.length cw) (rowsOf acc) hzs hrf.byR (Nat.le_refl _)
            have Hput := Lib.hid hput
            have Hli := Lib.hid (Hlines.out.below i4)
            have Hbw := Lib.hid (Hbw9.out.trans (i4.mono hwV))
            have hWs := i4.size
            clear hput hS1 hS2 i1 i2 hrf i4
            gi_wp2
            refine ⟨trivial, ?_⟩
            refine (callsIn_wide.2 Hput.out).mono ?_
            rintro _ w11 ⟨v11, rfl, hn11, ho11, hb11⟩
            have Hli11 := Lib.hid (Hli.out.below (hb11.mono (by omega)))
            have Hbw11 := Lib.hid (Hbw.out.trans (hb11.mono (by omega)))
            have hsz11 := hb11.size
            have hK11 : w11.heap[D]? = some (.deferred (some [])) := (hb11.block D (Array.getElem?_eq_some_iff.1 hK).1).trans hK
            have hDl := (Array.getElem?_eq_some_iff.1 hK).1
            have hbD : Below V w11 (w11.putObj D (.deferred none)) := gofBelow (grownBy_putObj' w11 D (.deferred none)) (by omega) (fun k hk => by injection hk with hk; omega)
            have hzD : (w11.putObj D (.deferred none)).heap.size = w11.heap.size := by simp [World.putObj]
            have HbF := Lib.hid (Hbw11.out.trans (hbD.mono hwV))
            have HliF := Lib.hid ((Hli11.out.below hbD).more (L1 := (w11.putObj D (.deferred none)).heap.size) (by omega))
            have Hby11 := Lib.hid (Hby.out.below Hbw11.out)
            clear hbD
            by_cases hne : shE (rowsOf acc) = 0
            · have hrow0 : rowsOf acc ≠ [] ∧ newE none (rowsOf acc) = 0 := by
                unfold shE at hne
                split at hne
                · simp at hne
                · rename_i h0; exact ⟨h0, hne⟩
              have Hrow0 := Lib.hid hrow0
              have Ho11 := Lib.hid (ho11 hne)
              rw [hne]
              obtain ⟨A11, c11, rfl, _, _, _⟩ := Ho11.out.form_
              have heq := equalB w11 w11.heap.size w.heap.size _ (.slice A b.length c) _ b Ho11.out.by_ Hby11.out
              by_cases hsb : senc (rowsOf acc) = b
              · have hsh : isSh b := by
                  refine ⟨HG1.out, HG2.out, HG3.out, ?_⟩
                  rw [Hacc.out]
                  exact ⟨hrow0.1, hrow0.2, hsb⟩
                have Hsh := Lib.hid hsh
                rw [decide_eq_true hsb] at heq
                have Heq := Lib.hid heq
                clear hn11 ho11 heq hsb hsh hrow0 hne
                gi_wp2
                refine ⟨trivial, ?_⟩
                refine (callsIn_wide.2 Heq.out).mono ?_
                rintro _ _ ⟨rfl, rfl⟩
                gi_wp2
                refine ⟨by simp, .inl ⟨_, _, rfl, run_takeDeferred hK11, ?_⟩⟩
                refine ⟨_, results_tmp2 rfl _ _ _, HbF.out, .inl ⟨Hsh.out, gs, rfl, by omega, ?_⟩⟩
                rw [Hacc.out]
                exact HliF.out
              · have hsh : ¬ isSh b := fun h => hsb (by have := h.2.2.2.2.2; rwa [Hacc.out] at this)
                have Hsh := Lib.hid hsh
                rw [decide_eq_false hsb] at heq
                have Heq := Lib.hid heq
                clear hn11 ho11 heq hsb hsh hrow0 hne
                gi_wp2
                refine ⟨trivial, ?_⟩
                refine (callsIn_wide.2 Heq.out).mono ?_
                rintro _ _ ⟨rfl, rfl⟩
                gi_wp2
                refine ⟨by simp, .inl ⟨_, _, rfl, run_takeDeferred hK11, ?_⟩⟩
                exact ⟨_, results_tmp2 rfl _ _ _, HbF.out, .inr ⟨Hsh.out, rfl⟩⟩
            · have hsh : ¬ isSh b := fun h => by
                have h1 := h.2.2.2.1
                have h2 := h.2.2.2.2.1
                rw [Hacc.out] at h1 h2
                exact hne (by unfold shE; rw [if_neg h1, h2])
              have Hsh := Lib.hid hsh
              have hd : (shE (rowsOf acc) == 0) = false := beq_eq_false_iff_ne.2 hne
              have hd' : (shE (rowsOf acc) != 0) = true := by simp [bne, hd]
              clear hn11 ho11 hsh hne
              generalize shE (rowsOf acc) = ee at *
              gi_wp2
              refine ⟨trivial, ?_⟩
              gi_wp2
              refine ⟨by simp, .inl ⟨_, _, rfl, run_takeDeferred hK11, ?_⟩⟩
              exact ⟨_, results_tmp2 rfl _ _ _, HbF.out, .inr ⟨Hsh.out, rfl⟩⟩
        · have hd0 : decide ((n : Int) > 0) = true := decide_eq_true (by omega)
          have hd1 : decide (0 < n) = true := decide_eq_true (by omega)
          by_cases he : e = 0
          · subst he
            have hd2 : decide ((next : Int) ≤ 4294967295) = false := decide_eq_false (by omega)
            have hd3 : decide (next ≤ 4294967295) = false := decide_eq_false (by omega)
            clear hstop hn0
            gi_wp2
            refine ⟨trivial, ?_⟩
            refine (callsIn_wide.2 Hver.out).mono ?_
            rintro _ _ ⟨rfl, rfl⟩
            obtain ⟨w9, hw9⟩ : ∃ w9, (wr.alloc (.cells #[.slice none 0 0] 22)).alloc (.cells #[.pointer (some ⟨gs, 0, none⟩)] 30) = w9 := ⟨_, rfl⟩
            obtain ⟨V, hV⟩ : ∃ V, wr.heap.size = V := ⟨_, rfl⟩
            have hb9 : Below wr.heap.size wr w9 := by rw [← hw9]; exact bstep (balloc _ _) (balloc _ _)
            have hz9 : w9.heap.size = V + 1 + 1 := by rw [← hw9, ← hV]; simp
            have hV9 : BoxAt 22 w9 V [.slice none 0 0] := by
              rw [← hw9, ← hV]
              exact (BoxAt.new_ 22 wr [.slice none 0 0]).alloc _
            have hB9 : BoxAt 30 w9 (V + 1) [.pointer (some ⟨gs, 0, none⟩)] := by
              rw [← hw9, ← hV]
              have := BoxAt.new_ 30 (wr.alloc (.cells #[.slice none 0 0] 22)) [.pointer (some ⟨gs, 0, none⟩)]
              simpa using this
            obtain ⟨Av, cv, rfl, hv1, hv2, _⟩ := OwnR.form' Hln0.out
            have hlines : LinesAt w9 V gs acc := by
              rw [← hV]
              exact LinesAt.below ⟨Av, cv, Hgsr.out, by omega, hv1, hv2, (OwnR.row Hln0.out).mono (fun k hk => hk.2) (fun k hk => hk.2.1)⟩ hb9
            have Hlines := Lib.hid hlines
            have HV9 := Lib.hid hV9
            have HB9 := Lib.hid hB9
            have Hbw9 := Lib.hid (Hbw.out.trans (hb9.mono (by omega)))
            have hzs : rsz (rowsOf acc) ≤ 20000 := by rw [← Hacc.out]; exact hs
            have hwV : w.heap.size ≤ V := by omega
            clear hlines hV9 hB9 hb9 Hgsr Hln0 Hbw Hver Hrd
            gi_wp2
            refine ⟨trivial, ?_⟩
            refine (callsIn_wide.2 (srows_any _ _)).mono ?_
            rintro _ _ ⟨rfl, rfl⟩
            gi_wp2
            try rw [hw9]
            clear hw9 hV
            -- STOP
            refine range_all (gf := 83) (lb := #[.pointer (some ⟨V + 1, 0, none⟩)]) rfl (enters_of Try.func83 (by kernel_rfl) rfl) (Kr := KrR V V) (fun h k => h.trans k) (fun W q o o' h1 h2 => KrR.putObj _ _ W q o o' h1 h2)
              (fun _ => rfl) (rows_iter 4 (by omega) w9 V V (V + 1) gs acc (Nat.le_refl _) (by omega) HB9.out (by omega) Hlines.out (by omega))
              (fun pre W => (∃ va, BoxAt 22 W V [va] ∧ OwnF 75 cRaw W V va (pre.map rawY) ∧ w9.heap.size ≤ W.heap.size) ∧ Below V w9 W)
              (OwnFrom.and (Own.from (fun s X Y row hs hg hr => by obtain ⟨va, i1, i2, i3⟩ := hs; exact ⟨va, i1.ownk hg hr, OwnR.ownk i2 hg hr, Nat.le_trans i3 hg.size⟩) _) (fun s X Y row hs hg hr => hs.trans (gofBelow hg (B := V) (by have := hs.size; omega) (fun k hk => by have := (hr k hk).1; omega))))
              (fun s X Y row hs hg hr => ⟨hs.1, fun x hx => OwnR.ownk (hs.2 x hx) hg (fun r e => (hr r e).2)⟩)
              ⟨⟨_, HV9.out, OwnF.nil_ _ _, Nat.le_refl _⟩, Below.refl _ _⟩
              (fun a0 pre x a' W => ((∃ va, BoxAt 22 W V [va] ∧ OwnF 75 cRaw W V va (pre.map rawY) ∧ w9.heap.size ≤ W.heap.size) ∧ Below V w9 W) ∧ x.2.oneCell' = true ∧ ∃ Bx, w9.heap.size ≤ Bx ∧ BoxAt 75 W Bx [.int .u32 (x.1.fr.toNat : Int), x.2] ∧
                a' = { tmps := (a0.tmps.setIfInBounds 78 (.agg #[.int .u32 (x.1.fr.toNat : Int), x.2])).setIfInBounds 13 (.pointer (some ⟨Bx, 0, none⟩)), defers := [] })
              (fun pre x a' _ X Y row hs hg hr => by
                obtain ⟨⟨⟨va, i1, i2, i3⟩, i4⟩, i5, Bx, i6, i7, i8⟩ := hs
                have hr' := fun r e => (hr r e).2
                exact ⟨⟨⟨va, i1.ownk hg hr', OwnR.ownk i2 hg hr', Nat.le_trans i3 hg.size⟩, i4.trans (gofBelow hg (B := V) (by have := i4.size; omega) (fun k hk => by have := (hr k hk).1; omega))⟩, i5, Bx, i6, i7.ownk hg hr', i8⟩)
              ?assign ?body ?done
            case assign =>
              rintro lq pre x W hlq ⟨⟨va, i1, i2, i3⟩, i4⟩ hR
              obtain ⟨Ax, cx, hx2, _, _, _⟩ := hR.form'
              obtain ⟨r, xv⟩ := x
              simp only at hx2
              subst hx2
              have Hone5 := Lib.hid (rowC_one r.fr.toNat Ax r.arcs.length cx)
              clear hR
              dsimp only [encY]
              gi_wp2_with (first
                | (refine wpListIn_alloc_z rfl 75 rfl infoRow [.int .u32 0, .slice none 0 0] rfl ?_)
                | (refine wpListIn_store_new rfl 75 (.tmp 13) (.tmp 78) rfl [.int .u32 0, .slice none 0 0] [.int .u32 (r.fr.toNat : Int), .slice Ax r.arcs.length cx] rfl rfl infoRow2 rfl Hone5.out ?_))
              have hb8 := balloc W (.cells #[.int .u32 (r.fr.toNat : Int), .slice Ax r.arcs.length cx] 75)
              refine ⟨(KeepsOthers.alloc _ _).from _, KrR.ofBelow hb8, ⟨⟨va, i1.alloc _, i2.alloc _, by have := hb8.size; omega⟩, i4.trans (hb8.mono (by omega))⟩, rfl, by omega, BoxAt.new_ 75 W [.int .u32 (r.fr.toNat : Int), .slice Ax r.arcs.length cx]⟩
            case body =>
              rintro lq pre x a' W hlq ⟨⟨⟨va, i1, i2, i3⟩, i4⟩, i5, Bx, i6, i7, rfl⟩ hlen
              obtain ⟨r, xv⟩ := x
              simp only at i5 i7
              have hlm : (pre.map rawY).length = pre.length := List.length_map ..
              obtain ⟨Aw, cw, rfl, _, _, _⟩ := i2.form'
              have hneV : Value.ownBlock (.slice Aw (pre.map rawY).length cw) ≠ some V := fun e => by
                obtain ⟨cur, hcur⟩ := i2.blkT _ e
                have : W.heap[V]? = _ := i1
                rw [hcur] at this
                injection this with this
                injection this with _ h2 _
                exact absurd h2 (by decide)
              rw [hlm] at i1 i2 hneV
              have hcV := i1.cell 0 _ rfl
              have I1 := Lib.hid i1
              have I2 := Lib.hid i2
              have I4 := Lib.hid i4
              have I7 := Lib.hid i7
              have HneV := Lib.hid hneV
              have h4s := i4.size
              have hVW : V ≤ W.heap.size := by omega
              have hal : pre.length ≤ 549755813887 := by omega
              clear i1 i2 i4 i7 hneV
              simp only [List.setIfInBounds_toArray, List.set_cons_zero, List.set_cons_succ]
              gi_wp2_with (first
                | (refine wpListIn_load_agg (o := { dst := some 80, op := .load 75 (.tmp 13), type := _, pos := _, after := _, guard := none }) rfl 75 (.tmp 13) rfl ⟨Bx, 0, none⟩ rfl [.int .u32 (r.fr.toNat : Int), xv] I7.out.cells Try.underlying75 rfl infoRow2 ?_)
                | (refine wpListIn_slice_row (o := { dst := some 81, op := .buildSlice 22 1 #[(0, .tmp 80)], type := _, pos := _, after := _, guard := none }) rfl (.tmp 80) rfl (.int .u32 (r.fr.toNat : Int)) xv rfl rfl ?_)
                | (refine wpListIn_app1R (C := cRaw) (o := { dst := some 82, op := .call { callee := .builtin .append, args := #[.tmp 79, .tmp 81], argTypes := #[22, 22] }, type := _, pos := _, after := _, guard := none }) rfl (.tmp 79) (.tmp 81) 22 rfl Try.underlying22 infoRow (by kernel_rfl) (by decide) (by decide) [.int .u32 (r.fr.toNat : Int), xv] I2.out (y := (Value.int .u32 (r.fr.toNat : Int), xv)) ⟨rfl, rfl, i5⟩ rfl rfl (by rw [hlm]; exact hal) hVW ?_
                   intro v6 w6 ho6 hx6
                   have hV6 := I1.out.grown hx6.gr HneV.out
                   obtain ⟨A6, c6, rfl, _, _, _⟩ := ho6.form'
                   have hl6 : (pre.map rawY ++ [((Value.int .u32 (r.fr.toNat : Int)), xv)]).length = pre.length + 1 := by simp
                   rw [hl6] at ho6 hx6
                   have hcV6 := hV6.cell 0 _ rfl
                   have hfV6 := hV6.frozen 0
                   have Ho6 := Lib.hid ho6
                   have Hx6 := Lib.hid hx6
                   have HV6 := Lib.hid hV6
                   clear ho6 hx6 hV6
                   rw [hl6]
                   refine wpListIn_store_sl rfl (.tmp 12) (.tmp 82) rfl V 0 A6 (pre.length + 1) c6 _ rfl rfl hcV6 hfV6 ?_))
              have h6s := Hx6.out.gr.size
              have hne6 := Hx6.out.ne (g := V) (by omega) HneV.out
              have hss : (w6.setCell ⟨V, 0, none⟩ (.slice A6 (pre.length + 1) c6)).heap.size = w6.heap.size := by simp [World.setCell]
              have hput := HV6.out.put 0 (.slice A6 (pre.length + 1) c6)
              refine ⟨⟨?_, fun k o hk ho hc => ?_⟩, ?_, ⟨.slice A6 (pre.length + 1) c6, hput, ?_, ?_⟩, ?_⟩
              · omega
              · refine (Below.heap_setCell _ _ _ k (by show k ≠ V; omega)).trans ((Hx6.out.gr.block k (Array.getElem?_eq_some_iff.1 ho).1 fun e => ?_).trans ho)
                obtain ⟨cur, hcur⟩ := I2.out.blkT k e.symm
                rw [ho] at hcur
                injection hcur with hcur
                subst hcur
                cases hc
              · refine KrR.trans (KrR.ofGrown Hx6.out.gr fun k e => .inr ?_) (KrR.ofGrown (gset w6 ⟨V, 0, none⟩ _) fun k e => .inl (by injection e with e; exact e.symm))
                obtain ⟨cur, hcur⟩ := I2.out.blkT k e
                exact ⟨(I2.out.blk k e).1, _, hcur, rfl⟩
              · exact Ho6.out.keep (gset w6 ⟨V, 0, none⟩ _) (by
                  rcases hq : Value.ownBlock (.slice A6 (pre.length + 1) c6) with _ | q
                  · exact .inl rfl
                  · exact .inr (fun e => hne6 (by rw [hq]; exact e))) (fun _ h => h.elim)
              · omega
              · exact (I4.out.trans (Hx6.out.below (B := V) hVW (fun q hq => (I2.out.blk q hq).1))).setCell (p := ⟨V, 0, none⟩) (Nat.le_refl V) _
            case done =>
              rintro D xs W hD ⟨hS1, hS2⟩ ⟨⟨va, i1, i2, i3⟩, i4⟩ hK
              have hrf := rowsOfRaw i2 (b2 := w9.heap.size) (by omega) hS2
              rw [hS1] at hrf
              have hcV := i1.cell 0 _ rfl
              obtain ⟨Aw, cw, rfl, _, _, _⟩ := i2.form'
              have hlx : (xs.map rawY).length = xs.length := List.length_map ..
              rw [hlx] at hrf hcV
              have hput := shput_any W W.heap.size (.slice Aw xs.length cw) (rowsOf acc) hzs hrf.byR (Nat.le_refl _)
              have Hput := Lib.hid hput
              have Hli := Lib.hid (Hlines.out.below i4)
              have Hbw := Lib.hid (Hbw9.out.trans (i4.mono hwV))
              have hWs := i4.size
              clear hput hS1 hS2 i1 i2 hrf i4
              gi_wp2
              refine ⟨trivial, ?_⟩
              refine (callsIn_wide.2 Hput.out).mono ?_
              rintro _ w11 ⟨v11, rfl, hn11, ho11, hb11⟩
              have Hli11 := Lib.hid (Hli.out.below (hb11.mono (by omega)))
              have Hbw11 := Lib.hid (Hbw.out.trans (hb11.mono (by omega)))
              have hsz11 := hb11.size
              have hK11 : w11.heap[D]? = some (.deferred (some [])) := (hb11.block D (Array.getElem?_eq_some_iff.1 hK).1).trans hK
              have hDl := (Array.getElem?_eq_some_iff.1 hK).1
              have hbD : Below V w11 (w11.putObj D (.deferred none)) := gofBelow (grownBy_putObj' w11 D (.deferred none)) (by omega) (fun k hk => by injection hk with hk; omega)
              have hzD : (w11.putObj D (.deferred none)).heap.size = w11.heap.size := by simp [World.putObj]
              have HbF := Lib.hid (Hbw11.out.trans (hbD.mono hwV))
              have HliF := Lib.hid ((Hli11.out.below hbD).more (L1 := (w11.putObj D (.deferred none)).heap.size) (by omega))
              have Hby11 := Lib.hid (Hby.out.below Hbw11.out)
              clear hbD
              by_cases hne : shE (rowsOf acc) = 0
              · have hrow0 : rowsOf acc ≠ [] ∧ newE none (rowsOf acc) = 0 := by
                  unfold shE at hne
                  split at hne
                  · simp at hne
                  · rename_i h0; exact ⟨h0, hne⟩
                have Hrow0 := Lib.hid hrow0
                have Ho11 := Lib.hid (ho11 hne)
                rw [hne]
                obtain ⟨A11, c11, rfl, _, _, _⟩ := Ho11.out.form_
                have heq := equalB w11 w11.heap.size w.heap.size _ (.slice A b.length c) _ b Ho11.out.by_ Hby11.out
                by_cases hsb : senc (rowsOf acc) = b
                · have hsh : isSh b := by
                    refine ⟨HG1.out, HG2.out, HG3.out, ?_⟩
                    rw [Hacc.out]
                    exact ⟨hrow0.1, hrow0.2, hsb⟩
                  have Hsh := Lib.hid hsh
                  rw [decide_eq_true hsb] at heq
                  have Heq := Lib.hid heq
                  clear hn11 ho11 heq hsb hsh hrow0 hne
                  gi_wp2
                  refine ⟨trivial, ?_⟩
                  refine (callsIn_wide.2 Heq.out).mono ?_
                  rintro _ _ ⟨rfl, rfl⟩
                  gi_wp2
                  refine ⟨by simp, .inl ⟨_, _, rfl, run_takeDeferred hK11, ?_⟩⟩
                  refine ⟨_, results_tmp2 rfl _ _ _, HbF.out, .inl ⟨Hsh.out, gs, rfl, by omega, ?_⟩⟩
                  rw [Hacc.out]
                  exact HliF.out
                · have hsh : ¬ isSh b := fun h => hsb (by have := h.2.2.2.2.2; rwa [Hacc.out] at this)
                  have Hsh := Lib.hid hsh
                  rw [decide_eq_false hsb] at heq
                  have Heq := Lib.hid heq
                  clear hn11 ho11 heq hsb hsh hrow0 hne
                  gi_wp2
                  refine ⟨trivial, ?_⟩
                  refine (callsIn_wide.2 Heq.out).mono ?_
                  rintro _ _ ⟨rfl, rfl⟩
                  gi_wp2
                  refine ⟨by simp, .inl ⟨_, _, rfl, run_takeDeferred hK11, ?_⟩⟩
                  exact ⟨_, results_tmp2 rfl _ _ _, HbF.out, .inr ⟨Hsh.out, rfl⟩⟩
              · have hsh : ¬ isSh b := fun h => by
                  have h1 := h.2.2.2.1
                  have h2 := h.2.2.2.2.1
                  rw [Hacc.out] at h1 h2
                  exact hne (by unfold shE; rw [if_neg h1, h2])
                have Hsh := Lib.hid hsh
                have hd : (shE (rowsOf acc) == 0) = false := beq_eq_false_iff_ne.2 hne
                have hd' : (shE (rowsOf acc) != 0) = true := by simp [bne, hd]
                clear hn11 ho11 hsh hne
                generalize shE (rowsOf acc) = ee at *
                gi_wp2
                refine ⟨trivial, ?_⟩
                gi_wp2
                refine ⟨by simp, .inl ⟨_, _, rfl, run_takeDeferred hK11, ?_⟩⟩
                exact ⟨_, results_tmp2 rfl _ _ _, HbF.out, .inr ⟨Hsh.out, rfl⟩⟩
          · have hd2 : (e == 0) = false := beq_eq_false_iff_ne.2 he
            clear hstop hn0 he
            gi_wp2
            refine ⟨trivial, ?_⟩
            refine (callsIn_wide.2 Hver.out).mono ?_
            rintro _ _ ⟨rfl, rfl⟩
            obtain ⟨w9, hw9⟩ : ∃ w9, (wr.alloc (.cells #[.slice none 0 0] 22)).alloc (.cells #[.pointer (some ⟨gs, 0, none⟩)] 30) = w9 := ⟨_, rfl⟩
            obtain ⟨V, hV⟩ : ∃ V, wr.heap.size = V := ⟨_, rfl⟩
            have hb9 : Below wr.heap.size wr w9 := by rw [← hw9]; exact bstep (balloc _ _) (balloc _ _)
            have hz9 : w9.heap.size = V + 1 + 1 := by rw [← hw9, ← hV]; simp
            have hV9 : BoxAt 22 w9 V [.slice none 0 0] := by
              rw [← hw9, ← hV]
              exact (BoxAt.new_ 22 wr [.slice none 0 0]).alloc _
            have hB9 : BoxAt 30 w9 (V + 1) [.pointer (some ⟨gs, 0, none⟩)] := by
              rw [← hw9, ← hV]
              have := BoxAt.new_ 30 (wr.alloc (.cells #[.slice none 0 0] 22)) [.pointer (some ⟨gs, 0, none⟩)]
              simpa using this
            obtain ⟨Av, cv, rfl, hv1, hv2, _⟩ := OwnR.form' Hln0.out
            have hlines : LinesAt w9 V gs acc := by
              rw [← hV]
              exact LinesAt.below ⟨Av, cv, Hgsr.out, by omega, hv1, hv2, (OwnR.row Hln0.out).mono (fun k hk => hk.2) (fun k hk => hk.2.1)⟩ hb9
            have Hlines := Lib.hid hlines
            have HV9 := Lib.hid hV9
            have HB9 := Lib.hid hB9
            have Hbw9 := Lib.hid (Hbw.out.trans (hb9.mono (by omega)))
            have hzs : rsz (rowsOf acc) ≤ 20000 := by rw [← Hacc.out]; exact hs
            have hwV : w.heap.size ≤ V := by omega
            clear hlines hV9 hB9 hb9 Hgsr Hln0 Hbw Hver Hrd
            gi_wp2
            refine ⟨trivial, ?_⟩
            refine (callsIn_wide.2 (srows_any _ _)).mono ?_
            rintro _ _ ⟨rfl, rfl⟩
            gi_wp2
            try rw [hw9]
            clear hw9 hV
            -- STOP
            refine range_all (gf := 83) (lb := #[.pointer (some ⟨V + 1, 0, none⟩)]) rfl (enters_of Try.func83 (by kernel_rfl) rfl) (Kr := KrR V V) (fun h k => h.trans k) (fun W q o o' h1 h2 => KrR.putObj _ _ W q o o' h1 h2)
              (fun _ => rfl) (rows_iter 4 (by omega) w9 V V (V + 1) gs acc (Nat.le_refl _) (by omega) HB9.out (by omega) Hlines.out (by omega))
              (fun pre W => (∃ va, BoxAt 22 W V [va] ∧ OwnF 75 cRaw W V va (pre.map rawY) ∧ w9.heap.size ≤ W.heap.size) ∧ Below V w9 W)
              (OwnFrom.and (Own.from (fun s X Y row hs hg hr => by obtain ⟨va, i1, i2, i3⟩ := hs; exact ⟨va, i1.ownk hg hr, OwnR.ownk i2 hg hr, Nat.le_trans i3 hg.size⟩) _) (fun s X Y row hs hg hr => hs.trans (gofBelow hg (B := V) (by have := hs.size; omega) (fun k hk => by have := (hr k hk).1; omega))))
              (fun s X Y row hs hg hr => ⟨hs.1, fun x hx => OwnR.ownk (hs.2 x hx) hg (fun r e => (hr r e).2)⟩)
              ⟨⟨_, HV9.out, OwnF.nil_ _ _, Nat.le_refl _⟩, Below.refl _ _⟩
              (fun a0 pre x a' W => ((∃ va, BoxAt 22 W V [va] ∧ OwnF 75 cRaw W V va (pre.map rawY) ∧ w9.heap.size ≤ W.heap.size) ∧ Below V w9 W) ∧ x.2.oneCell' = true ∧ ∃ Bx, w9.heap.size ≤ Bx ∧ BoxAt 75 W Bx [.int .u32 (x.1.fr.toNat : Int), x.2] ∧
                a' = { tmps := (a0.tmps.setIfInBounds 78 (.agg #[.int .u32 (x.1.fr.toNat : Int), x.2])).setIfInBounds 13 (.pointer (some ⟨Bx, 0, none⟩)), defers := [] })
              (fun pre x a' _ X Y row hs hg hr => by
                obtain ⟨⟨⟨va, i1, i2, i3⟩, i4⟩, i5, Bx, i6, i7, i8⟩ := hs
                have hr' := fun r e => (hr r e).2
                exact ⟨⟨⟨va, i1.ownk hg hr', OwnR.ownk i2 hg hr', Nat.le_trans i3 hg.size⟩, i4.trans (gofBelow hg (B := V) (by have := i4.size; omega) (fun k hk => by have := (hr k hk).1; omega))⟩, i5, Bx, i6, i7.ownk hg hr', i8⟩)
              ?assign ?body ?done
            case assign =>
              rintro lq pre x W hlq ⟨⟨va, i1, i2, i3⟩, i4⟩ hR
              obtain ⟨Ax, cx, hx2, _, _, _⟩ := hR.form'
              obtain ⟨r, xv⟩ := x
              simp only at hx2
              subst hx2
              have Hone5 := Lib.hid (rowC_one r.fr.toNat Ax r.arcs.length cx)
              clear hR
              dsimp only [encY]
              gi_wp2_with (first
                | (refine wpListIn_alloc_z rfl 75 rfl infoRow [.int .u32 0, .slice none 0 0] rfl ?_)
                | (refine wpListIn_store_new rfl 75 (.tmp 13) (.tmp 78) rfl [.int .u32 0, .slice none 0 0] [.int .u32 (r.fr.toNat : Int), .slice Ax r.arcs.length cx] rfl rfl infoRow2 rfl Hone5.out ?_))
              have hb8 := balloc W (.cells #[.int .u32 (r.fr.toNat : Int), .slice Ax r.arcs.length cx] 75)
              refine ⟨(KeepsOthers.alloc _ _).from _, KrR.ofBelow hb8, ⟨⟨va, i1.alloc _, i2.alloc _, by have := hb8.size; omega⟩, i4.trans (hb8.mono (by omega))⟩, rfl, by omega, BoxAt.new_ 75 W [.int .u32 (r.fr.toNat : Int), .slice Ax r.arcs.length cx]⟩
            case body =>
              rintro lq pre x a' W hlq ⟨⟨⟨va, i1, i2, i3⟩, i4⟩, i5, Bx, i6, i7, rfl⟩ hlen
              obtain ⟨r, xv⟩ := x
              simp only at i5 i7
              have hlm : (pre.map rawY).length = pre.length := List.length_map ..
              obtain ⟨Aw, cw, rfl, _, _, _⟩ := i2.form'
              have hneV : Value.ownBlock (.slice Aw (pre.map rawY).length cw) ≠ some V := fun e => by
                obtain ⟨cur, hcur⟩ := i2.blkT _ e
                have : W.heap[V]? = _ := i1
                rw [hcur] at this
                injection this with this
                injection this with _ h2 _
                exact absurd h2 (by decide)
              rw [hlm] at i1 i2 hneV
              have hcV := i1.cell 0 _ rfl
              have I1 := Lib.hid i1
              have I2 := Lib.hid i2
              have I4 := Lib.hid i4
              have I7 := Lib.hid i7
              have HneV := Lib.hid hneV
              have h4s := i4.size
              have hVW : V ≤ W.heap.size := by omega
              have hal : pre.length ≤ 549755813887 := by omega
              clear i1 i2 i4 i7 hneV
              simp only [List.setIfInBounds_toArray, List.set_cons_zero, List.set_cons_succ]
              gi_wp2_with (first
                | (refine wpListIn_load_agg (o := { dst := some 80, op := .load 75 (.tmp 13), type := _, pos := _, after := _, guard := none }) rfl 75 (.tmp 13) rfl ⟨Bx, 0, none⟩ rfl [.int .u32 (r.fr.toNat : Int), xv] I7.out.cells Try.underlying75 rfl infoRow2 ?_)
                | (refine wpListIn_slice_row (o := { dst := some 81, op := .buildSlice 22 1 #[(0, .tmp 80)], type := _, pos := _, after := _, guard := none }) rfl (.tmp 80) rfl (.int .u32 (r.fr.toNat : Int)) xv rfl rfl ?_)
                | (refine wpListIn_app1R (C := cRaw) (o := { dst := some 82, op := .call { callee := .builtin .append, args := #[.tmp 79, .tmp 81], argTypes := #[22, 22] }, type := _, pos := _, after := _, guard := none }) rfl (.tmp 79) (.tmp 81) 22 rfl Try.underlying22 infoRow (by kernel_rfl) (by decide) (by decide) [.int .u32 (r.fr.toNat : Int), xv] I2.out (y := (Value.int .u32 (r.fr.toNat : Int), xv)) ⟨rfl, rfl, i5⟩ rfl rfl (by rw [hlm]; exact hal) hVW ?_
                   intro v6 w6 ho6 hx6
                   have hV6 := I1.out.grown hx6.gr HneV.out
                   obtain ⟨A6, c6, rfl, _, _, _⟩ := ho6.form'
                   have hl6 : (pre.map rawY ++ [((Value.int .u32 (r.fr.toNat : Int)), xv)]).length = pre.length + 1 := by simp
                   rw [hl6] at ho6 hx6
                   have hcV6 := hV6.cell 0 _ rfl
                   have hfV6 := hV6.frozen 0
                   have Ho6 := Lib.hid ho6
                   have Hx6 := Lib.hid hx6
                   have HV6 := Lib.hid hV6
                   clear ho6 hx6 hV6
                   rw [hl6]
                   refine wpListIn_store_sl rfl (.tmp 12) (.tmp 82) rfl V 0 A6 (pre.length + 1) c6 _ rfl rfl hcV6 hfV6 ?_))
              have h6s := Hx6.out.gr.size
              have hne6 := Hx6.out.ne (g := V) (by omega) HneV.out
              have hss : (w6.setCell ⟨V, 0, none⟩ (.slice A6 (pre.length + 1) c6)).heap.size = w6.heap.size := by simp [World.setCell]
              have hput := HV6.out.put 0 (.slice A6 (pre.length + 1) c6)
              refine ⟨⟨?_, fun k o hk ho hc => ?_⟩, ?_, ⟨.slice A6 (pre.length + 1) c6, hput, ?_, ?_⟩, ?_⟩
              · omega
              · refine (Below.heap_setCell _ _ _ k (by show k ≠ V; omega)).trans ((Hx6.out.gr.block k (Array.getElem?_eq_some_iff.1 ho).1 fun e => ?_).trans ho)
                obtain ⟨cur, hcur⟩ := I2.out.blkT k e.symm
                rw [ho] at hcur
                injection hcur with hcur
                subst hcur
                cases hc
              · refine KrR.trans (KrR.ofGrown Hx6.out.gr fun k e => .inr ?_) (KrR.ofGrown (gset w6 ⟨V, 0, none⟩ _) fun k e => .inl (by injection e with e; exact e.symm))
                obtain ⟨cur, hcur⟩ := I2.out.blkT k e
                exact ⟨(I2.out.blk k e).1, _, hcur, rfl⟩
              · exact Ho6.out.keep (gset w6 ⟨V, 0, none⟩ _) (by
                  rcases hq : Value.ownBlock (.slice A6 (pre.length + 1) c6) with _ | q
                  · exact .inl rfl
                  · exact .inr (fun e => hne6 (by rw [hq]; exact e))) (fun _ h => h.elim)
              · omega
              · exact (I4.out.trans (Hx6.out.below (B := V) hVW (fun q hq => (I2.out.blk q hq).1))).setCell (p := ⟨V, 0, none⟩) (Nat.le_refl V) _
            case done =>
              rintro D xs W hD ⟨hS1, hS2⟩ ⟨⟨va, i1, i2, i3⟩, i4⟩ hK
              have hrf := rowsOfRaw i2 (b2 := w9.heap.size) (by omega) hS2
              rw [hS1] at hrf
              have hcV := i1.cell 0 _ rfl
              obtain ⟨Aw, cw, rfl, _, _, _⟩ := i2.form'
              have hlx : (xs.map rawY).length = xs.length := List.length_map ..
              rw [hlx] at hrf hcV
              have hput := shput_any W W.heap.size (.slice Aw xs.length cw) (rowsOf acc) hzs hrf.byR (Nat.le_refl _)
              have Hput := Lib.hid hput
              have Hli := Lib.hid (Hlines.out.below i4)
              have Hbw := Lib.hid (Hbw9.out.trans (i4.mono hwV))
              have hWs := i4.size
              clear hput hS1 hS2 i1 i2 hrf i4
              gi_wp2
              refine ⟨trivial, ?_⟩
              refine (callsIn_wide.2 Hput.out).mono ?_
              rintro _ w11 ⟨v11, rfl, hn11, ho11, hb11⟩
              have Hli11 := Lib.hid (Hli.out.below (hb11.mono (by omega)))
              have Hbw11 := Lib.hid (Hbw.out.trans (hb11.mono (by omega)))
              have hsz11 := hb11.size
              have hK11 : w11.heap[D]? = some (.deferred (some [])) := (hb11.block D (Array.getElem?_eq_some_iff.1 hK).1).trans hK
              have hDl := (Array.getElem?_eq_some_iff.1 hK).1
              have hbD : Below V w11 (w11.putObj D (.deferred none)) := gofBelow (grownBy_putObj' w11 D (.deferred none)) (by omega) (fun k hk => by injection hk with hk; omega)
              have hzD : (w11.putObj D (.deferred none)).heap.size = w11.heap.size := by simp [World.putObj]
              have HbF := Lib.hid (Hbw11.out.trans (hbD.mono hwV))
              have HliF := Lib.hid ((Hli11.out.below hbD).more (L1 := (w11.putObj D (.deferred none)).heap.size) (by omega))
              have Hby11 := Lib.hid (Hby.out.below Hbw11.out)
              clear hbD
              by_cases hne : shE (rowsOf acc) = 0
              · have hrow0 : rowsOf acc ≠ [] ∧ newE none (rowsOf acc) = 0 := by
                  unfold shE at hne
                  split at hne
                  · simp at hne
                  · rename_i h0; exact ⟨h0, hne⟩
                have Hrow0 := Lib.hid hrow0
                have Ho11 := Lib.hid (ho11 hne)
                rw [hne]
                obtain ⟨A11, c11, rfl, _, _, _⟩ := Ho11.out.form_
                have heq := equalB w11 w11.heap.size w.heap.size _ (.slice A b.length c) _ b Ho11.out.by_ Hby11.out
                by_cases hsb : senc (rowsOf acc) = b
                · have hsh : isSh b := by
                    refine ⟨HG1.out, HG2.out, HG3.out, ?_⟩
                    rw [Hacc.out]
                    exact ⟨hrow0.1, hrow0.2, hsb⟩
                  have Hsh := Lib.hid hsh
                  rw [decide_eq_true hsb] at heq
                  have Heq := Lib.hid heq
                  clear hn11 ho11 heq hsb hsh hrow0 hne
                  gi_wp2
                  refine ⟨trivial, ?_⟩
                  refine (callsIn_wide.2 Heq.out).mono ?_
                  rintro _ _ ⟨rfl, rfl⟩
                  gi_wp2
                  refine ⟨by simp, .inl ⟨_, _, rfl, run_takeDeferred hK11, ?_⟩⟩
                  refine ⟨_, results_tmp2 rfl _ _ _, HbF.out, .inl ⟨Hsh.out, gs, rfl, by omega, ?_⟩⟩
                  rw [Hacc.out]
                  exact HliF.out
                · have hsh : ¬ isSh b := fun h => hsb (by have := h.2.2.2.2.2; rwa [Hacc.out] at this)
                  have Hsh := Lib.hid hsh
                  rw [decide_eq_false hsb] at heq
                  have Heq := Lib.hid heq
                  clear hn11 ho11 heq hsb hsh hrow0 hne
                  gi_wp2
                  refine ⟨trivial, ?_⟩
                  refine (callsIn_wide.2 Heq.out).mono ?_
                  rintro _ _ ⟨rfl, rfl⟩
                  gi_wp2
                  refine ⟨by simp, .inl ⟨_, _, rfl, run_takeDeferred hK11, ?_⟩⟩
                  exact ⟨_, results_tmp2 rfl _ _ _, HbF.out, .inr ⟨Hsh.out, rfl⟩⟩
              · have hsh : ¬ isSh b := fun h => by
                  have h1 := h.2.2.2.1
                  have h2 := h.2.2.2.2.1
                  rw [Hacc.out] at h1 h2
                  exact hne (by unfold shE; rw [if_neg h1, h2])
                have Hsh := Lib.hid hsh
                have hd : (shE (rowsOf acc) == 0) = false := beq_eq_false_iff_ne.2 hne
                have hd' : (shE (rowsOf acc) != 0) = true := by simp [bne, hd]
                clear hn11 ho11 hsh hne
                generalize shE (rowsOf acc) = ee at *
                gi_wp2
                refine ⟨trivial, ?_⟩
                gi_wp2
                refine ⟨by simp, .inl ⟨_, _, rfl, run_takeDeferred hK11, ?_⟩⟩
                exact ⟨_, results_tmp2 rfl _ _ _, HbF.out, .inr ⟨Hsh.out, rfl⟩⟩
      · obtain ⟨m, rfl⟩ : ∃ m, n = m + 1 := ⟨n - 1, by omega⟩
        have he : e = 0 := by
          rcases Decidable.em (e = 0) with h | h
          · exact h
          · exact absurd (.inr (.inl h)) hstop
        subst he
        have hnx2 : next ≤ 4294967295 := by omega
        rw [prows, if_neg (by omega)] at hpr
        have hlen := row_len next s 0
        have hrr := shread_any wr gr s 0 next (by omega) hnx2 hrd
        have Hrr := Lib.hid hrr
        have Hpr := Lib.hid hpr
        have hd0 : decide (((m + 1 : Nat) : Int) > 0) = true := decide_eq_true (by omega)
        have hd1 : decide (0 < m + 1) = true := decide_eq_true (by omega)
        have hd2 : decide ((next : Int) ≤ 4294967295) = true := decide_eq_true (by omega)
        have hd3 : decide (next ≤ 4294967295) = true := decide_eq_true (by omega)
        obtain ⟨s2, e2, hC⟩ : ∃ a b', (rowC next s 0).2 = (a, b') := ⟨_, _, rfl⟩
        rw [hC] at Hrr Hpr hlen
        simp only at hlen
        have hfr := u32_lt (rowL next s 0).1.fr
        generalize rowL next s 0 = ln at *
        clear hC hstop hpr hrr hver hrd hgsr hln hbw
        gi_wp2
        refine ⟨trivial, ?_⟩
        refine (callsIn_wide.2 Hver.out).mono ?_
        rintro _ _ ⟨rfl, rfl⟩
        gi_wp2
        refine ⟨trivial, ?_⟩
        refine (callsIn_wide.2 Hrr.out).mono ?_
        rintro _ w6 ⟨Aa, ca, At, ct, rfl, hoa, hot, hrd6, hg6⟩
        have Hone6 := Lib.hid (lineC_one ln.1.fr.toNat Aa At ln.1.arcs.length ca ln.2.length ct)
        have Hoa := Lib.hid hoa
        have Hot := Lib.hid hot
        have Hrd6 := Lib.hid hrd6
        have Hgs6 := Lib.hid (Hgsr.out.grown hg6 (fun e => by injection e with e; omega))
        have Hln6 := Lib.hid (Hln0.out.rd hg6 (by omega))
        have Hbw6 := Lib.hid (Hbw.out.trans (gofBelow hg6 (B := w.heap.size) (by omega) (fun k hk => by injection hk with hk; omega)))
        have hs6 := hg6.size
        have Hvb : Hid (∀ q, va.ownBlock = some q → q < wr.heap.size) := Lib.hid (fun q hq => (OwnR.blk Hln0.out q hq).2)
        clear hoa hot hrd6 hg6 Hrr Hver Hrd Hgsr Hln0 Hbw
        gi_wp2_with (first
          | (refine wpListIn_alloc_z rfl 98 rfl infoLine [.int .u32 0, .slice none 0 0, .slice none 0 0] rfl ?_)
          | (refine wpListIn_store_new rfl 98 (.tmp 11) (.tmp 60) rfl [.int .u32 0, .slice none 0 0, .slice none 0 0] (lineC ln.1.fr.toNat (.slice Aa ln.1.arcs.length ca) (.slice At ln.2.length ct)) rfl rfl infoLine2 rfl Hone6.out ?_))
        try simp only [Act.put, List.setIfInBounds_toArray, List.set_cons_zero, List.set_cons_succ]
        have hb7 := balloc w6 (.cells (lineC ln.1.fr.toNat (.slice Aa ln.1.arcs.length ca) (.slice At ln.2.length ct)).toArray 98)
        have Hgl := Lib.hid (BoxAt.new_ 98 w6 (lineC ln.1.fr.toNat (.slice Aa ln.1.arcs.length ca) (.slice At ln.2.length ct)))
        have Hgs := Lib.hid (Hgs6.out.alloc (.cells (lineC ln.1.fr.toNat (.slice Aa ln.1.arcs.length ca) (.slice At ln.2.length ct)).toArray 98))
        have Hln7 := Lib.hid (Hln6.out.below_ hb7)
        have Hrd7 := Lib.hid (Hrd6.out.below Hrd6.out.lt hb7)
        have Hbw7 := Lib.hid (Hbw6.out.trans (hb7.mono (by omega)))
        have Hoa7 := Lib.hid (Hoa.out.below_ hb7)
        have Hot7 := Lib.hid (Hot.out.below_ hb7)
        have hs7 := hb7.size
        have Hne : Hid (va.ownBlock ≠ some w6.heap.size) := Lib.hid (fun e => by have := Hvb.out _ e; omega)
        clear hb7 Hgs6 Hln6 Hrd6 Hbw6 Hoa Hot
        generalize w6.alloc (.cells (lineC ln.1.fr.toNat (.slice Aa ln.1.arcs.length ca) (.slice At ln.2.length ct)).toArray 98) = w8 at *
        generalize hgl : w6.heap.size = gl at *
        have Hln : Hid (OwnR 98 cLine w8.drew base (fun k => base ≤ k ∧ k < w8.heap.size ∧ va.ownBlock ≠ some k) va acc) := Lib.hid (show OwnR 98 cLine w8.drew base (fun k => base ≤ k ∧ k < w8.heap.size ∧ va.ownBlock ≠ some k) va acc from Hln7.out)
        have Hat : Hid (cLine.at_ w8.drew (fun k => base ≤ k ∧ k < w8.heap.size ∧ va.ownBlock ≠ some k) (lineC ln.1.fr.toNat (.slice Aa ln.1.arcs.length ca) (.slice At ln.2.length ct)) ln) := Lib.hid ⟨_, _, rfl,
          (show RowOn cArc w8.drew (fun k => wr.heap.size + 1 ≤ k ∧ k < w8.heap.size) (fun _ => False) (.slice Aa ln.1.arcs.length ca) ln.1.arcs from Hoa7.out.row).mono (fun k hk => ⟨by omega, hk.2, fun e => by have := Hvb.out _ e; omega⟩) (fun _ _ => trivial),
          (show RowOn cCell w8.drew (fun k => wr.heap.size + 1 ≤ k ∧ k < w8.heap.size) (fun _ => False) (.slice At ln.2.length ct) ln.2 from Hot7.out.row).mono (fun k hk => ⟨by omega, hk.2, fun e => by have := Hvb.out _ e; omega⟩) (fun _ _ => trivial)⟩
        have Hacc : Hid (acc.length ≤ 549755813887) := Lib.hid (by omega)
        have Hbase : Hid (base ≤ w8.drew.heap.size) := Lib.hid (show base ≤ w8.heap.size by omega)
        have Hgb : Hid (gs < base) := Lib.hid (by omega)
        refine wpIn_wide.2 ?_
        refine wp_region_mixL (ds := [61, 62, 63, 64, 65, 66, 67, 68]) 8 (fun bb vs W' => BoxAt 94 W' gs [va] ∧ BoxAt 98 W' gl (lineC ln.1.fr.toNat (.slice Aa ln.1.arcs.length ca) (.slice At ln.2.length ct)) ∧ (bb 7 = true → bb 6 = true) ∧ (bb 6 = false → W' = w8.drew) ∧ (bb 6 = true → bb 7 = false → W' = w8.drew.alloc (.cells (lineC ln.1.fr.toNat (.slice Aa ln.1.arcs.length ca) (.slice At ln.2.length ct)).toArray 98) ∧ vs 6 = .slice (some ⟨w8.heap.size, 0, none⟩) 1 1) ∧ (bb 7 = true → OwnR 98 cLine W' base (fun k => base ≤ k ∧ k < w8.heap.size ∧ va.ownBlock ≠ some k) (vs 7) (acc ++ [ln]) ∧ Ext w8.drew W' va (vs 7))) [some 61, some 62, some 63, some 64, some 65, some 66, some 67, some 68]
          [fun v => v = .pointer (some ⟨gs, 0, none⟩), fun v => v = .pointer (some ⟨gs, 0, none⟩), fun v => v = .pointer (some ⟨gs, 0, none⟩), fun v => v = .pointer (some ⟨gs, 0, none⟩), fun v => v = va, fun v => v = .agg (lineC ln.1.fr.toNat (.slice Aa ln.1.arcs.length ca) (.slice At ln.2.length ct)).toArray, fun _ => True, fun _ => True]
          rfl rfl rfl (by kernel_rfl) (by kernel_rfl) ?_ (fun _ => ⟨Hgs.out, Hgl.out, by simp, fun _ => rfl, by simp, by simp⟩) ?_
        · refine ⟨?_, ?_, ?_, ?_, ?_, ?_, ?_, ?_, trivial⟩
          · -- 0: slot 61 := Op.move t8
            refine obM_yes fun f bb w' hj hs hd hp => ?_
            simp [PreO, factO, valOf, Region.binds] at hp hd
            refine ⟨by simp [Gd, valOf, hp], ?_⟩
            refine mildM_val (.pointer (some ⟨gs, 0, none⟩)) (w' := w') ?_ rfl (by simpa using hj)
            simp [execOp, evalF, hp, go_sem]
          · -- 1: slot 62 := Op.move t8
            refine obM_yes fun f bb w' hj hs hd hp => ?_
            simp [PreO, factO, valOf, Region.binds] at hp hd
            refine ⟨by simp [Gd, valOf, hp], ?_⟩
            refine mildM_val (.pointer (some ⟨gs, 0, none⟩)) (w' := w') ?_ rfl (by simpa using hj)
            simp [execOp, evalF, hp, go_sem]
          · -- 2: slot 63 := Op.nilCheck t62
            refine obM_yes fun f bb w' hj hs hd hp => ?_
            simp [PreO, factO, valOf, Region.binds] at hp hd
            refine ⟨by simp [Gd, valOf, hp], ?_⟩
            refine mildM_val (.pointer (some ⟨gs, 0, none⟩)) (w' := w') ?_ rfl (by simpa using hj)
            simp [execOp, evalF, hp, go_sem]
          · -- 3: slot 64 := Op.fieldAddr 94 t63 0
            refine obM_yes fun f bb w' hj hs hd hp => ?_
            simp [PreO, factO, valOf, Region.binds] at hp hd
            refine ⟨by simp [Gd, valOf, hp], ?_⟩
            refine mildM_val (.pointer (some ⟨gs, 0, none⟩)) (w' := w') ?_ rfl (by simpa using hj)
            simp [execOp, evalF, hp, go_sem]
          · -- 4: slot 65 := Op.load 92 t64
            refine obM_yes fun f bb w' hj hs hd hp => ?_
            simp [PreO, factO, valOf, Region.binds] at hp hd
            refine ⟨by simp [Gd, valOf, hp], ?_⟩
            have hc := hj.1.cell 0 _ rfl
            refine mildM_val (va) (w' := w') ?_ rfl (by simpa using hj)
            simp [execOp, evalF, hp, go_sem, hc]
          · -- 5: slot 66 := Op.load 98 t11
            refine obM_yes fun f bb w' hj hs hd hp => ?_
            simp [PreO, factO, valOf, Region.binds] at hp hd
            refine ⟨by simp [Gd, valOf, hp], ?_⟩
            have hl := run_loadVar_cells w' ⟨gl, 0, none⟩ 98 (lineC ln.1.fr.toNat (.slice Aa ln.1.arcs.length ca) (.slice At ln.2.length ct)) hj.2.1.cells Try.underlying98 rfl infoLine2
            refine mildM_val (.agg (lineC ln.1.fr.toNat (.slice Aa ln.1.arcs.length ca) (.slice At ln.2.length ct)).toArray) (w' := w') ?_ rfl (by simpa using hj)
            simp only [execOp, evalF, List.contains_eq_mem, Instr.loadAt, Instr.sureAddr, Sem.run_bind, Sem.run_pure, Result.andThen_ok]
            simp [hp, hl]
          · -- 6: slot 67 := Op.buildSlice 92 1 #[(0, t66)]
            refine obM_yes fun f bb w' hj hs hd hp => ?_
            simp [PreO, factO, valOf, Region.binds] at hp hd
            refine ⟨by simp [Gd, valOf, hp], ?_⟩
            obtain ⟨j1, j2, j3, j4, j5, j6⟩ := hj
            have h7 : bb 7 = false := by cases hx : bb 7 with | false => rfl | true => rw [j3 hx] at hs; cases hs
            have hw' := j4 hs
            subst hw'
            refine mildM_val (.slice (some ⟨w8.heap.size, 0, none⟩) 1 1) (w' := w8.drew.alloc (.cells (lineC ln.1.fr.toNat (.slice Aa ln.1.arcs.length ca) (.slice At ln.2.length ct)).toArray 98)) ?_ trivial ⟨j1.alloc _, j2.alloc _, by simp, by simp, fun _ _ => ⟨rfl, rfl⟩, by simp [h7]⟩
            have hr := run_slice_line w8.drew ln.1.fr.toNat (.slice Aa ln.1.arcs.length ca) (.slice At ln.2.length ct)
            simp [execOp, evalF, hp, hr]
          · -- 7: slot 68 := Op.call   builtin append, args := #[t65, t67], argTypes := #[92, 92]  
            refine obM_yes fun f bb w' hj hs hd hp => ?_
            simp [PreO, factO, valOf, Region.binds] at hp hd
            refine ⟨by simp [Gd, valOf, hp], ?_⟩
            obtain ⟨j1, j2, j3, j4, j5, j6⟩ := hj
            have h6 : bb 6 = true := by first | exact hd.2.1 | exact hd.2 | exact hd
            obtain ⟨hw9, hv6⟩ := j5 h6 hs
            subst hw9
            refine mildM_ex (exec_app1R (C := cLine) (w := w8.drew) (.tmp 65) (.tmp 67) 92 rfl Try.underlying92 infoLine (by kernel_rfl) (by decide) (by decide) (lineC ln.1.fr.toNat (.slice Aa ln.1.arcs.length ca) (.slice At ln.2.length ct)) (S := (fun k => base ≤ k ∧ k < w8.heap.size ∧ va.ownBlock ≠ some k)) (base := base) Hln.out (y := ln) Hat.out (by simp [evalF, hp]) (by simpa [evalF, valOf] using hv6) Hacc.out Hbase.out) ?_
            intro v' w3 g1 g2
            exact ⟨trivial, (j1.ofAlloc Hgs.out.lt).grown g2.gr (fun e => by have := (Hln.out.blk _ e).1; have := Hgb.out; omega), (j2.ofAlloc Hgl.out.lt).grown g2.gr Hne.out, by simp [h6], by simp [h6], by simp, fun _ => ⟨g1, g2⟩⟩
        · intro f bb wd hall hj hp
          simp only [PostO] at hp
          obtain ⟨e0, e1, e2, e3, e4, e5, _, _, _⟩ := hp
          simp only [fills, List.foldl_cons, List.foldl_nil, Act.put, List.setIfInBounds_toArray, List.set_cons_zero, List.set_cons_succ, e0, e1, e2, e3, e4, e5]
          clear e0 e1 e2 e3 e4 e5
          simp only [List.drop_succ_cons, List.drop_zero]
          obtain ⟨hof, hex⟩ : OwnR 98 cLine wd base (fun k => base ≤ k ∧ k < w8.heap.size ∧ va.ownBlock ≠ some k) (f 68) (acc ++ [ln]) ∧ Ext w8.drew wd va (f 68) := hj.2.2.2.2.2 (by simp [hall])
          have hgsd := hj.1
          have hgld := hj.2.1
          clear hj hall
          generalize f 67 = v67 at *
          generalize f 68 = v68 at *
          obtain ⟨A68, c68, rfl, _, _, _⟩ := hof.form'
          have hl1 : (acc ++ [ln]).length = acc.length + 1 := by simp
          rw [hl1] at hof hex
          have hcS := hgsd.cell 0 _ rfl
          have hfS := hgsd.frozen 0
          have hlo := LnOwn.ofS hof (fun k hk => hk.1)
          have q1 := hex.gr.size
          have hwbase : w.heap.size ≤ base := by omega
          have hw8b : w.heap.size ≤ w8.heap.size := by omega
          have q2 : w8.drew.heap.size = w8.heap.size := rfl
          have hgrow : w8.grownBy wd va.ownBlock := ⟨hex.gr.os, hex.gr.tape, hex.gr.output, hex.gr.size, hex.gr.block⟩
          have Hrd9 := Lib.hid ((Hrd7.out.grown hgrow (fun k hk => by have := (OwnR.blk Hln7.out k hk).1; omega)).grown (gset wd ⟨gs, 0, none⟩ (.slice A68 (acc.length + 1) c68)) (fun k hk => by injection hk with hk; subst hk; show gr < gs; omega))
          have Hgs9 := Lib.hid (hgsd.put 0 (.slice A68 (acc.length + 1) c68))
          have Hln9 := Lib.hid (hlo.rd (gset wd ⟨gs, 0, none⟩ (.slice A68 (acc.length + 1) c68)) (by show gs < base; omega))
          have Hbw9 := Lib.hid ((Hbw7.out.trans (gofBelow hgrow (B := w.heap.size) hw8b (fun k hk => Nat.le_trans hwbase (OwnR.blk Hln7.out k hk).1))).setCell (p := ⟨gs, 0, none⟩) (by show w.heap.size ≤ gs; omega) (.slice A68 (acc.length + 1) c68))
          have hgl9 := hgld.other ⟨gs, 0, none⟩ (.slice A68 (acc.length + 1) c68) (by show gs ≠ gl; omega)
          have hcL := hgl9.cell 0 _ rfl
          have hz9 : (wd.setCell ⟨gs, 0, none⟩ (.slice A68 (acc.length + 1) c68)).heap.size = wd.heap.size := by simp [World.setCell]
          have hcv1 : IntKind.u64.wrap (ln.1.fr.toNat : Int) = (ln.1.fr.toNat : Int) := by rw [wrap_u64]; omega
          have hcv2 : IntKind.u64.wrap ((ln.1.fr.toNat : Int) + 1) = (ln.1.fr.toNat : Int) + 1 := by rw [wrap_u64]; omega
          have hcv3 : IntKind.u64.wrap (((m + 1 : Nat) : Int) - 1) = (m : Int) := by rw [wrap_u64]; omega
          have hcv4 : IntKind.u64.wrap ((m : Int) + 1 - 1) = (m : Int) := by rw [wrap_u64]; omega
          clear hof hex hgsd hgld hlo hgrow hgl9 Hln Hat Hgs Hgl Hln7 Hrd7 Hbw7 Hoa7 Hot7
          go_wp2_with fail
          gi_wp2
          go_roundw
          case rel => exact ⟨m, ln.1.fr.toNat + 1, acc ++ [ln], s2, e2, _, by first | rfl | go_num, by first | rfl | go_num, by omega, Hrd9.out, Hgs9.out, Hln9.out, by omega, by rw [hl1]; omega, Hpr.out, Hbw9.out, by omega⟩
          case measure => simp [intOf]
  · have hbd := Hbad.out (by
      by_cases h1 : sE b = 0
      · by_cases h2 : sN b = b.length
        · exact .inr (.inr fun h3 => hgood ⟨h1, h2, h3⟩)
        · exact .inr (.inl h2)
      · exact .inl h1)
    have Hbd := Lib.hid hbd
    clear hbd Hbad
    rcases (show sE b ≠ 0 ∨ (sE b = 0 ∧ sN b ≠ b.length) ∨ (sE b = 0 ∧ sN b = b.length ∧ sK b ≠ 83) by
      by_cases h1 : sE b = 0
      · by_cases h2 : sN b = b.length
        · exact .inr (.inr ⟨h1, h2, fun h3 => hgood ⟨h1, h2, h3⟩⟩)
        · exact .inr (.inl ⟨h1, h2⟩)
      · exact .inl h1) with h1 | ⟨h1, h2⟩ | ⟨h1, h2, h3⟩
    · have hd : (sE b == 0) = false := beq_eq_false_iff_ne.2 h1
      have hd' : (sE b != 0) = true := by simp [bne, hd]
      clear hgood h1
      generalize sE b = eb at *
      generalize sN b = nb at *
      generalize (sK b).toNat = kb at *
      gi_wp2_with (first
        | (refine wpListIn_alloc_z rfl 87 rfl infoSec3 [.int .u8 0, .slice none 0 0] rfl ?_)
        | (refine wpListIn_store_new rfl 87 (.tmp 4) (.tmp 19) rfl [.int .u8 0, .slice none 0 0] [.int .u8 (kb : Int), .slice A1 (sL b).length c1] rfl rfl infoSec rfl Hone.out ?_))
      exact ⟨_, results_tmp2 rfl _ _ _, Hb1.out.trans ((balloc _ _).mono Hb1.out.size), .inr ⟨Hbd.out, rfl⟩⟩
    · have hd : (((sN b : Nat) : Int) == ((b.length : Nat) : Int)) = false := beq_eq_false_iff_ne.2 (by omega)
      have hd' : (sN b == b.length) = false := beq_eq_false_iff_ne.2 h2
      rw [h1]
      clear hgood h1 h2
      generalize sN b = nb at *
      generalize (sK b).toNat = kb at *
      gi_wp2_with (first
        | (refine wpListIn_alloc_z rfl 87 rfl infoSec3 [.int .u8 0, .slice none 0 0] rfl ?_)
        | (refine wpListIn_store_new rfl 87 (.tmp 4) (.tmp 19) rfl [.int .u8 0, .slice none 0 0] [.int .u8 (kb : Int), .slice A1 (sL b).length c1] rfl rfl infoSec rfl Hone.out ?_))
      exact ⟨_, results_tmp2 rfl _ _ _, Hb1.out.trans ((balloc _ _).mono Hb1.out.size), .inr ⟨Hbd.out, rfl⟩⟩
    · have hk83 : ¬ (sK b).toNat = 83 := fun e => h3 (UInt8.toNat_inj.1 e)
      have hd : (((sK b).toNat : Int) == 83) = false := beq_eq_false_iff_ne.2 (by omega)
      have hd' : ((sK b).toNat == 83) = false := beq_eq_false_iff_ne.2 hk83
      rw [h1, h2]
      clear hgood h1 h2 h3
      generalize (sK b).toNat = kb at *
      gi_wp2_with (first
        | (refine wpListIn_alloc_z rfl 87 rfl infoSec3 [.int .u8 0, .slice none 0 0] rfl ?_)
        | (refine wpListIn_store_new rfl 87 (.tmp 4) (.tmp 19) rfl [.int .u8 0, .slice none 0 0] [.int .u8 (kb : Int), .slice A1 (sL b).length c1] rfl rfl infoSec rfl Hone.out ?_))
      exact ⟨_, results_tmp2 rfl _ _ _, Hb1.out.trans ((balloc _ _).mono Hb1.out.size), .inr ⟨Hbd.out, rfl⟩⟩
end Go.Proofs.Ythfnikdapknohaa

namespace Go.Proofs.Ythfnikdapknohaa
set_option linter.unusedSimpArgs false
set_option linter.unusedVariables false
open Go.RowKit

def exRow : List GRow := [⟨1, [⟨2, 3⟩]⟩]
theorem exRow_new : newE none exRow = 0 := by decide +kernel
theorem exRow_sz : rsz exRow = 2 := by decide +kernel
theorem exRow_bt : btab [⟨2, 3⟩] = [⟨3, 0⟩] := by decide +kernel
theorem exRow_len : (senc exRow).length = 20 := by
  rw [senc_len]
  simp [exRow, rowsB, row1, gput, gapsL, gaps1, cput, cput1, exRow_bt, vput_lt]
set_option maxRecDepth 100000 in
set_option maxHeartbeats 1600000 in
theorem awake23 (w : World) : Calls Try.prog 12 #[] w fun e w' => e = .returned (.bool true) ∧ Below w.heap.size w w' := by
  obtain ⟨w2, hw2⟩ : ∃ w2, (w.alloc (.cells #[.int .u32 2, .int .u32 3] 70)).alloc (.cells #[.int .u32 1, .slice (some ⟨w.heap.size, 0, none⟩) 1 1] 75) = w2 := ⟨_, rfl⟩
  have hb2 : Below w.heap.size w w2 := by rw [← hw2]; exact bstep (balloc _ _) (balloc _ _)
  have hrow : ByRw w2 w2.heap.size (.slice (some ⟨w.heap.size + 1, 0, none⟩) 1 1) exRow := by
    rw [← hw2]
    refine ⟨_, 1, rfl, Nat.le_refl _, by simp [maxLen], fun _ => ⟨_, rfl, by simp only [World.size_alloc]; omega, fun i x hi => ?_⟩⟩
    match i, hi with
    | 0, hi =>
      injection hi with hi
      subst hi
      refine ⟨[.int .u32 1, .slice (some ⟨w.heap.size, 0, none⟩) 1 1], ⟨_, rfl, ?_⟩, fun j u hu => ?_⟩
      · refine ⟨_, 1, rfl, Nat.le_refl _, by simp [maxLen], fun _ => ⟨_, rfl, by simp only [World.size_alloc]; omega, fun i x hi => ?_⟩⟩
        match i, hi with
        | 0, hi =>
          injection hi with hi
          subst hi
          refine ⟨_, ⟨rfl, trivial⟩, fun j u hu => ?_⟩
          have h0 := World.news_of_block (heap_alloc_new w (.cells #[.int .u32 2, .int .u32 3] 70)) j u (by simpa using hu)
          rw [Nat.zero_mul, Nat.zero_add, World.cell?_alloc_lt _ _ _ (by rw [add_block]; simp)]
          exact h0
        | i + 1, hi => simp at hi
      · have h0 := World.news_of_block (heap_alloc_new (w.alloc (.cells #[.int .u32 2, .int .u32 3] 70)) (.cells #[.int .u32 1, .slice (some ⟨w.heap.size, 0, none⟩) 1 1] 75)) j u (by simpa using hu)
        rw [World.size_alloc] at h0
        rw [Nat.zero_mul, Nat.zero_add]
        exact h0
    | i + 1, hi => simp [exRow] at hi
  have hput := shput_any w2 w2.heap.size _ exRow (by rw [exRow_sz]; decide) hrow (Nat.le_refl _)
  have hE : shE exRow = 0 := by unfold shE; rw [if_neg (by simp [exRow]), exRow_new]
  rw [hE] at hput
  have hsh := isSh_enc exRow (by simp [exRow]) exRow_new (by rw [exRow_sz]; decide)
  have hpl := plines_ok exRow exRow_new (by rw [exRow_sz]; decide)
  have hrs : rsz (rowsOf (plines (senc exRow))) ≤ 20000 := by rw [hpl, rowsOf_withT, exRow_sz]; decide
  have hll : (plines (senc exRow)).length = 1 := by rw [hpl]; rfl
  have hlen := exRow_len
  have Hput := Lib.hid hput
  have Hsh := Lib.hid hsh
  have Hb2 := Lib.hid hb2
  have Hrs := Lib.hid hrs
  have Hll := Lib.hid hll
  clear hput hsh hb2 hrow hE hpl hrs hll
  go_enter Try.func12, Try.ntmps12
  go_wp2_with fail
  try rw [hw2]
  clear hw2
  refine Hput.out.mono ?_
  rintro _ w3 ⟨v3, rfl, _, ho3, hb3⟩
  have Ho3 := Lib.hid (ho3 (by first | exact trivial | rfl))
  have Hb3 := Lib.hid (bstep Hb2.out hb3)
  obtain ⟨A3, c3, rfl, _, _, _⟩ := Ho3.out.form_
  have hget := shget_any w3 _ (senc exRow) Ho3.out.by_ (by rw [hlen]; decide) Hrs.out
  rw [hlen] at hget
  have Hget := Lib.hid hget
  clear hb3 ho3 hget Hput
  go_wp2_with fail
  refine Hget.out.mono ?_
  rintro _ w4 ⟨hb4, ⟨_, g, rfl, hg, hl⟩ | ⟨hn, _⟩⟩
  · have hsl := slen_any w4 w4.heap.size g _ hl
    rw [Hll.out] at hsl
    have Hsl := Lib.hid hsl
    have Hb4 := Lib.hid (bstep Hb3.out hb4)
    clear hsl hb4 hl
    go_wp2_with fail
    refine Hsl.out.mono ?_
    rintro _ _ ⟨rfl, rfl⟩
    go_wp2_with fail
    go_ret
    exact ⟨rfl, Hb4.out⟩
  · exact absurd Hsh.out hn
end Go.Proofs.Ythfnikdapknohaa

namespace Go.Proofs.Ythfnikdapknohaa.shardPuts
open Go.Proofs.Ythfnikdapknohaa
open Go.ChangeShapes Go.WideShapes Go.ChangeAt Go.RowKit
set_option linter.unusedVariables false
set_option linter.unusedSimpArgs false

theorem own : ownKnob Try.prog.godebug = none := by kernel_rfl
theorem laidOut : laidOutB Try.prog = true := by kernel_rfl

def Ph.rws (l : List GRow) : Ph := ⟨fun v w => ByRw w w.heap.size v l, fun _ _ _ h hb => h.step hb⟩
set_option maxRecDepth 100000 in
set_option maxHeartbeats 4000000 in
theorem walk (v0 : Value) (w : World) (h0 : InC w 22 [v0]) :
    Calls Try.prog 3 #[v0] w fun e w' => e = .returned (.bool true) ∧ Below w.heap.size w w' := by
  obtain ⟨l, hr⟩ := h0.rows
  clear h0
  obtain ⟨A, c, rfl, hc1, hc2⟩ := hr.form
  unfold maxLen at hc2
  have hfew := few_any w w.heap.size _ l hr
  cases hf : fewR l with
  | false =>
    rw [hf] at hfew
    go_enter Try.func3, Try.ntmps3
    go_wp2_with fail
    refine hfew.mono ?_
    rintro _ _ ⟨rfl, rfl⟩
    go_wp2_with (go_at_call 12; refine (awake23 _).mono ?_; rintro e wa ⟨rfl, hba⟩)
    go_ret
    exact ⟨rfl, hba⟩
  | true =>
    rw [hf] at hfew
    have hsz := fewR_rsz l hf
    have hput := shput_any w w.heap.size (.slice A l.length c) l (by omega) hr (Nat.le_refl _)
    have Hput := Lib.hid hput
    have H := Lib.hid hr
    clear hput hr hf
    go_enter Try.func3, Try.ntmps3
    go_wp2_with fail
    refine hfew.mono ?_
    rintro _ _ ⟨rfl, rfl⟩
    clear hfew
    go_wp2_with fail
    refine Hput.out.mono ?_
    rintro _ w3 ⟨v3, rfl, hn3, ho3, hb3⟩
    have Hb3 := Lib.hid hb3
    have hw3 := hb3.size
    clear Hput hb3
    by_cases hl0 : l = []
    · have hE : shE l = 1 := if_pos hl0
      have hv := hn3 (by rw [hE]; decide)
      subst hv
      rw [hE]
      subst hl0
      clear hn3 ho3 hE
      go_wp2_with (go_at_call 12; refine (awake23 _).mono ?_; rintro e wa ⟨rfl, hba⟩)
      go_ret
      exact ⟨rfl, bstep Hb3.out hba⟩
    · have hE : shE l = newE none l := if_neg hl0
      have hlen : 0 < l.length := List.length_pos_iff.2 hl0
      have hd0 : ((l.length : Int) == 0) = false := beq_eq_false_iff_ne.2 (by omega)
      have hd1 : (l.length == 0) = false := beq_eq_false_iff_ne.2 (by omega)
      rw [hE] at hn3 ho3 ⊢
      have H3 := Lib.hid (H.out.below Hb3.out)
      have hrn := fun q => rnew_any (w3.drewN q) w.heap.size (.slice A l.length c) l (by omega) (show ByRw (w3.drewN q) w.heap.size (.slice A l.length c) l from H3.out)
      have hrn0 := rnew_any w3 w.heap.size (.slice A l.length c) l (by omega) H3.out
      by_cases hn : newE none l = 0
      · have ho := ho3 hn
        rw [hn] at hrn0 ⊢
        have Hn := Lib.hid hn
        have Hs3 := Lib.hid ho
        have Hl0 := Lib.hid hl0
        have Hrn0 := Lib.hid hrn0
        clear hn3 ho3 hE hn ho hl0 hrn hrn0
        obtain ⟨A3, c3, rfl, _, _, _⟩ := Hs3.out.form_
        go_wp2_with fail
        refine Hrn0.out.mono ?_
        rintro _ _ ⟨rfl, q, rfl⟩
        have hslen : (senc l).length ≤ 100000 := by
          have h1 := rowsB_len l none 0 Hn.out (by omega)
          have h2 := vput_len64 l.length (by omega)
          rw [senc_len]; omega
        have hpl := plines_ok l Hn.out (by omega)
        have hget := shget_any (w3.drewN q) (.slice A3 (senc l).length c3) (senc l) (show By (w3.drewN q) w3.heap.size (.slice A3 (senc l).length c3) (senc l) from Hs3.out.by_) hslen (by rw [hpl, rowsOf_withT]; omega)
        have hsh := isSh_enc l Hl0.out Hn.out (by omega)
        rw [hpl] at hget
        have Hget := Lib.hid hget
        have Hsh := Lib.hid hsh
        have Hb3q := Lib.hid (bdrewN Hb3.out q)
        clear hget hsh hpl
        go_wp2_with fail
        refine Hget.out.mono ?_
        rintro _ w5 ⟨hb5, ⟨_, g, rfl, hg, hl⟩ | ⟨hns, _⟩⟩
        · have HL := Lib.hid hl
          have Hb5 := Lib.hid (bstep Hb3q.out hb5)
          have H5 := Lib.hid (H.out.below Hb5.out)
          have hw5 := Hb5.out.size
          have Hs5 := Lib.hid (By.step (w := w3.drewN q) (show By (w3.drewN q) (w3.drewN q).heap.size (.slice A3 (senc l).length c3) (senc l) from Hs3.out.by_) hb5)
          have Hll : Hid ((withT l).length = l.length) := Lib.hid (by simp [withT])
          clear hb5 hl Hget
          go_wp2_with fail
          refine wp_region_typed [some 49, some 50, some 51, some 52, some 53, some 54, some 55, some 56, some 57, some 58, some 59, some 60, some 61, some 62, some 63, some 64, some 65, some 66, some 67, some 68, some 69, some 70, some 71, some 72, some 73, some 74, some 75, some 76, some 77, some 78, some 2] [49, 50, 51, 52, 53, 54, 55, 56, 57, 58, 59, 60, 61, 62, 63, 64, 65, 66, 67, 68, 69, 70, 71, 72, 73, 74, 75, 76, 77, 78, 2]
            [Ph.is (.int .i64 0),
              Ph.is (.bool true),
              Ph.is (.bool true),
              Ph.is (.slice A3 (senc l).length c3),
              Ph.is (.string (bst (senc l))),
              Ph.is (.slice A l.length c),
              Ph.by_ (senc l),
              Ph.is (.string (bst (senc l))),
              Ph.is (.bool true),
              Ph.is (.bool true),
              Ph.is (.bool true),
              Ph.is (.int .i64 0),
              Ph.is (.bool true),
              Ph.is (.bool true),
              Ph.is (.bool true),
              Ph.is (.pointer (some ⟨g, 0, none⟩)),
              Ph.is (.int .i64 (l.length : Int)),
              Ph.is (.slice A l.length c),
              Ph.is (.int .i64 (l.length : Int)),
              Ph.is (.bool true),
              Ph.is (.bool true),
              Ph.is (.bool true),
              Ph.is (.pointer (some ⟨g, 0, none⟩)),
              Ph.rws l,
              Ph.is (.slice A l.length c),
              Ph.is (.bool true),
              Ph.is (.bool true),
              Ph.is (.bool true),
              Ph.is (.bool true),
              Ph.is (.bool true),
              Ph.is (.bool true)] rfl rfl (by kernel_rfl) (by kernel_rfl) ?_ ?_
          · refine ⟨?_, ?_, ?_, ?_, ?_, ?_, ?_, ?_, ?_, ?_, ?_, ?_, ?_, ?_, ?_, ?_, ?_, ?_, ?_, ?_, ?_, ?_, ?_, ?_, ?_, ?_, ?_, ?_, ?_, ?_, ?_, trivial⟩
            · -- 0: slot 49 := Op.move t4
              refine ob_yes fun f w' hb hp => ?_
              simp [PreOf, factOf, valOf, Ph.is, Ph.by_, Ph.any, Region.binds, Ph.rws] at hp
              refine ⟨by simp [Gd, valOf, hp], ?_⟩
              refine mild_val (.int .i64 0) ?_ rfl
              simp [execOp, evalF, hp]
            · -- 1: slot 50 := Op.binOp BinOp.eql 26 t49 (const (0:i64)) 26
              refine ob_yes fun f w' hb hp => ?_
              simp [PreOf, factOf, valOf, Ph.is, Ph.by_, Ph.any, Region.binds, Ph.rws] at hp
              refine ⟨by simp [Gd, valOf, hp], ?_⟩
              refine mild_val (.bool true) ?_ rfl
              simp [execOp, evalF, hp, go_sem]
            · -- 2: slot 51 := Op.move t50
              refine ob_yes fun f w' hb hp => ?_
              simp [PreOf, factOf, valOf, Ph.is, Ph.by_, Ph.any, Region.binds, Ph.rws] at hp
              refine ⟨by simp [Gd, valOf, hp], ?_⟩
              refine mild_val (.bool true) ?_ rfl
              simp [execOp, evalF, hp]
            · -- 3: slot 52 := Op.move t3
              refine ob_yes fun f w' hb hp => ?_
              simp [PreOf, factOf, valOf, Ph.is, Ph.by_, Ph.any, Region.binds, Ph.rws] at hp
              refine ⟨by simp [Gd, valOf, hp], ?_⟩
              refine mild_val (.slice A3 (senc l).length c3) ?_ rfl
              simp [execOp, evalF, hp]
            · -- 4: slot 53 := Op.convert 25 9 t52
              refine ob_yes fun f w' hb hp => ?_
              simp [PreOf, factOf, valOf, Ph.is, Ph.by_, Ph.any, Region.binds, Ph.rws] at hp
              refine ⟨by simp [Gd, valOf, hp], ?_⟩
              refine mild_val (.string (bst (senc l))) ?_ rfl
              have hc := conv8 ((Hs5.out).below hb)
              simp [execOp, evalF, hp, hc]
            · -- 5: slot 54 := Op.move t0
              refine ob_yes fun f w' hb hp => ?_
              simp [PreOf, factOf, valOf, Ph.is, Ph.by_, Ph.any, Region.binds, Ph.rws] at hp
              refine ⟨by simp [Gd, valOf, hp], ?_⟩
              refine mild_val (.slice A l.length c) ?_ rfl
              simp [execOp, evalF, hp]
            · -- 6: slot 55 := Op.call   value (Operand.func 16), args := #[t54], argTypes := #[22]  
              refine ob_yes fun f w' hb hp => ?_
              simp [PreOf, factOf, valOf, Ph.is, Ph.by_, Ph.any, Region.binds, Ph.rws] at hp
              refine ⟨by simp [Gd, valOf, hp], ?_⟩
              refine mild_call 16 _ _ Try.f16 Try.func16 (by kernel_rfl) (by kernel_rfl) rfl ?_
              simp [evalF, hp, Ph.is, Ph.by_, Ph.any, Ph.rws]
              exact (rsput_any w' w.heap.size (.slice A l.length c) l (by omega) (H5.out.below (hb.mono hw5)) (Nat.le_trans hw5 hb.size) Hn.out).mono fun e w7 ⟨v, h1, h2, h3⟩ => ⟨v, h1, h3, h2.by_⟩
            · -- 7: slot 56 := Op.convert 25 9 t55
              refine ob_yes fun f w' hb hp => ?_
              simp [PreOf, factOf, valOf, Ph.is, Ph.by_, Ph.any, Region.binds, Ph.rws] at hp
              refine ⟨by simp [Gd, valOf, hp], ?_⟩
              refine mild_val (.string (bst (senc l))) ?_ rfl
              have hc := conv8 (by first | exact hp | exact hp.1 | exact hp.2 | exact hp.1.1 | exact hp.1.2 | exact hp.2.1 | exact hp.2.2)
              simp [execOp, evalF, hp, hc]
            · -- 8: slot 57 := Op.binOp BinOp.eql 9 t53 t56 9
              refine ob_yes fun f w' hb hp => ?_
              simp [PreOf, factOf, valOf, Ph.is, Ph.by_, Ph.any, Region.binds, Ph.rws] at hp
              refine ⟨by simp [Gd, valOf, hp], ?_⟩
              refine mild_val (.bool true) ?_ rfl
              simp [execOp, evalF, hp, go_sem]
            · -- 9: slot 58 := Op.pick t51 t57 (const (Value.bool false))
              refine ob_yes fun f w' hb hp => ?_
              simp [PreOf, factOf, valOf, Ph.is, Ph.by_, Ph.any, Region.binds, Ph.rws] at hp
              refine ⟨by simp [Gd, valOf, hp], ?_⟩
              refine mild_val (.bool true) ?_ rfl
              simp [execOp, evalF, hp, go_sem]
            · -- 10: slot 59 := Op.move t58
              refine ob_yes fun f w' hb hp => ?_
              simp [PreOf, factOf, valOf, Ph.is, Ph.by_, Ph.any, Region.binds, Ph.rws] at hp
              refine ⟨by simp [Gd, valOf, hp], ?_⟩
              refine mild_val (.bool true) ?_ rfl
              simp [execOp, evalF, hp]
            · -- 11: slot 60 := Op.move t6
              refine ob_yes fun f w' hb hp => ?_
              simp [PreOf, factOf, valOf, Ph.is, Ph.by_, Ph.any, Region.binds, Ph.rws] at hp
              refine ⟨by simp [Gd, valOf, hp], ?_⟩
              refine mild_val (.int .i64 0) ?_ rfl
              simp [execOp, evalF, hp]
            · -- 12: slot 61 := Op.binOp BinOp.eql 26 t60 (const (0:i64)) 26
              refine ob_yes fun f w' hb hp => ?_
              simp [PreOf, factOf, valOf, Ph.is, Ph.by_, Ph.any, Region.binds, Ph.rws] at hp
              refine ⟨by simp [Gd, valOf, hp], ?_⟩
              refine mild_val (.bool true) ?_ rfl
              simp [execOp, evalF, hp, go_sem]
            · -- 13: slot 62 := Op.pick t59 t61 (const (Value.bool false))
              refine ob_yes fun f w' hb hp => ?_
              simp [PreOf, factOf, valOf, Ph.is, Ph.by_, Ph.any, Region.binds, Ph.rws] at hp
              refine ⟨by simp [Gd, valOf, hp], ?_⟩
              refine mild_val (.bool true) ?_ rfl
              simp [execOp, evalF, hp, go_sem]
            · -- 14: slot 63 := Op.move t62
              refine ob_yes fun f w' hb hp => ?_
              simp [PreOf, factOf, valOf, Ph.is, Ph.by_, Ph.any, Region.binds, Ph.rws] at hp
              refine ⟨by simp [Gd, valOf, hp], ?_⟩
              refine mild_val (.bool true) ?_ rfl
              simp [execOp, evalF, hp]
            · -- 15: slot 64 := Op.move t5
              refine ob_yes fun f w' hb hp => ?_
              simp [PreOf, factOf, valOf, Ph.is, Ph.by_, Ph.any, Region.binds, Ph.rws] at hp
              refine ⟨by simp [Gd, valOf, hp], ?_⟩
              refine mild_val (.pointer (some ⟨g, 0, none⟩)) ?_ rfl
              simp [execOp, evalF, hp]
            · -- 16: slot 65 := Op.call   value (Operand.func 17), args := #[t64], argTypes := #[30]  
              refine ob_yes fun f w' hb hp => ?_
              simp [PreOf, factOf, valOf, Ph.is, Ph.by_, Ph.any, Region.binds, Ph.rws] at hp
              refine ⟨by simp [Gd, valOf, hp], ?_⟩
              refine mild_call 17 _ _ Try.f17 Try.func17 (by kernel_rfl) (by kernel_rfl) rfl ?_
              simp [evalF, hp, Ph.is, Ph.by_, Ph.any, Ph.rws]
              refine (slen_any w' w5.heap.size g (withT l) (HL.out.below hb)).mono ?_
              rintro _ _ ⟨rfl, rfl⟩
              rw [Hll.out]
              first | exact ⟨_, rfl, Below.refl _ _, rfl⟩ | exact ⟨rfl, Below.refl _ _⟩
            · -- 17: slot 66 := Op.move t0
              refine ob_yes fun f w' hb hp => ?_
              simp [PreOf, factOf, valOf, Ph.is, Ph.by_, Ph.any, Region.binds, Ph.rws] at hp
              refine ⟨by simp [Gd, valOf, hp], ?_⟩
              refine mild_val (.slice A l.length c) ?_ rfl
              simp [execOp, evalF, hp]
            · -- 18: slot 67 := Op.call   builtin len, args := #[t66], argTypes := #[22]  
              refine ob_yes fun f w' hb hp => ?_
              simp [PreOf, factOf, valOf, Ph.is, Ph.by_, Ph.any, Region.binds, Ph.rws] at hp
              refine ⟨by simp [Gd, valOf, hp], ?_⟩
              refine mild_val (.int .i64 (l.length : Int)) ?_ rfl
              simp [execOp, evalF, hp, go_sem]
            · -- 19: slot 68 := Op.binOp BinOp.eql 3 t65 t67 3
              refine ob_yes fun f w' hb hp => ?_
              simp [PreOf, factOf, valOf, Ph.is, Ph.by_, Ph.any, Region.binds, Ph.rws] at hp
              refine ⟨by simp [Gd, valOf, hp], ?_⟩
              refine mild_val (.bool true) ?_ rfl
              simp [execOp, evalF, hp, go_sem]
            · -- 20: slot 69 := Op.pick t63 t68 (const (Value.bool false))
              refine ob_yes fun f w' hb hp => ?_
              simp [PreOf, factOf, valOf, Ph.is, Ph.by_, Ph.any, Region.binds, Ph.rws] at hp
              refine ⟨by simp [Gd, valOf, hp], ?_⟩
              refine mild_val (.bool true) ?_ rfl
              simp [execOp, evalF, hp, go_sem]
            · -- 21: slot 70 := Op.move t69
              refine ob_yes fun f w' hb hp => ?_
              simp [PreOf, factOf, valOf, Ph.is, Ph.by_, Ph.any, Region.binds, Ph.rws] at hp
              refine ⟨by simp [Gd, valOf, hp], ?_⟩
              refine mild_val (.bool true) ?_ rfl
              simp [execOp, evalF, hp]
            · -- 22: slot 71 := Op.move t5
              refine ob_yes fun f w' hb hp => ?_
              simp [PreOf, factOf, valOf, Ph.is, Ph.by_, Ph.any, Region.binds, Ph.rws] at hp
              refine ⟨by simp [Gd, valOf, hp], ?_⟩
              refine mild_val (.pointer (some ⟨g, 0, none⟩)) ?_ rfl
              simp [execOp, evalF, hp]
            · -- 23: slot 72 := Op.call   value (Operand.func 19), args := #[t71], argTypes := #[30]  
              refine ob_yes fun f w' hb hp => ?_
              simp [PreOf, factOf, valOf, Ph.is, Ph.by_, Ph.any, Region.binds, Ph.rws] at hp
              refine ⟨by simp [Gd, valOf, hp], ?_⟩
              refine mild_call 19 _ _ Try.f19 Try.func19 (by kernel_rfl) (by kernel_rfl) rfl ?_
              simp [evalF, hp, Ph.is, Ph.by_, Ph.any, Ph.rws]
              refine (lrows_any w' w5.heap.size g (withT l) (HL.out.below hb) hb.size (by rw [rowsOf_withT]; omega)).mono ?_
              rintro _ w7 ⟨v7, rfl, hv7, hb7⟩
              rw [rowsOf_withT] at hv7
              exact ⟨_, rfl, hb7, hv7.byR⟩
            · -- 24: slot 73 := Op.move t0
              refine ob_yes fun f w' hb hp => ?_
              simp [PreOf, factOf, valOf, Ph.is, Ph.by_, Ph.any, Region.binds, Ph.rws] at hp
              refine ⟨by simp [Gd, valOf, hp], ?_⟩
              refine mild_val (.slice A l.length c) ?_ rfl
              simp [execOp, evalF, hp]
            · -- 25: slot 74 := Op.call   value (Operand.func 18), args := #[t72, t73], argTypes := #[22, 22]  
              refine ob_yes fun f w' hb hp => ?_
              simp [PreOf, factOf, valOf, Ph.is, Ph.by_, Ph.any, Region.binds, Ph.rws] at hp
              refine ⟨by simp [Gd, valOf, hp], ?_⟩
              refine mild_call 18 _ _ Try.f18 Try.func18 (by kernel_rfl) (by kernel_rfl) rfl ?_
              simp [evalF, hp, Ph.is, Ph.by_, Ph.any, Ph.rws]
              obtain ⟨hp0, hp1⟩ := hp
              refine (rsame_any w' w'.heap.size w.heap.size _ _ l l (by first | exact hp0 | exact hp1) (H5.out.below (hb.mono hw5))).mono ?_
              rintro _ _ ⟨rfl, q, rfl⟩
              rw [decide_eq_true rfl]
              first | exact ⟨_, rfl, bdrewN (Below.refl _ _) q, rfl⟩ | exact ⟨rfl, bdrewN (Below.refl _ _) q⟩
            · -- 26: slot 75 := Op.pick t70 t74 (const (Value.bool false))
              refine ob_yes fun f w' hb hp => ?_
              simp [PreOf, factOf, valOf, Ph.is, Ph.by_, Ph.any, Region.binds, Ph.rws] at hp
              refine ⟨by simp [Gd, valOf, hp], ?_⟩
              refine mild_val (.bool true) ?_ rfl
              simp [execOp, evalF, hp, go_sem]
            · -- 27: slot 76 := Op.move t75
              refine ob_yes fun f w' hb hp => ?_
              simp [PreOf, factOf, valOf, Ph.is, Ph.by_, Ph.any, Region.binds, Ph.rws] at hp
              refine ⟨by simp [Gd, valOf, hp], ?_⟩
              refine mild_val (.bool true) ?_ rfl
              simp [execOp, evalF, hp]
            · -- 28: slot 77 := Op.call   value (Operand.func 12), args := #[], argTypes := #[]  
              refine ob_yes fun f w' hb hp => ?_
              simp [PreOf, factOf, valOf, Ph.is, Ph.by_, Ph.any, Region.binds, Ph.rws] at hp
              refine ⟨by simp [Gd, valOf, hp], ?_⟩
              refine mild_call 12 _ _ Try.f12 Try.func12 (by kernel_rfl) (by kernel_rfl) rfl ?_
              simp [evalF, hp, Ph.is, Ph.by_, Ph.any, Ph.rws]
              refine (awake23 w').mono ?_
              rintro _ w7 ⟨rfl, h2⟩
              first | exact ⟨_, rfl, h2, rfl⟩ | exact ⟨rfl, h2⟩
            · -- 29: slot 78 := Op.pick t76 t77 (const (Value.bool false))
              refine ob_yes fun f w' hb hp => ?_
              simp [PreOf, factOf, valOf, Ph.is, Ph.by_, Ph.any, Region.binds, Ph.rws] at hp
              refine ⟨by simp [Gd, valOf, hp], ?_⟩
              refine mild_val (.bool true) ?_ rfl
              simp [execOp, evalF, hp, go_sem]
            · -- 30: slot 2 := Op.assign t78
              refine ob_yes fun f w' hb hp => ?_
              simp [PreOf, factOf, valOf, Ph.is, Ph.by_, Ph.any, Region.binds, Ph.rws] at hp
              refine ⟨by simp [Gd, valOf, hp], ?_⟩
              refine mild_val (.bool true) ?_ rfl
              simp [execOp, evalF, hp]
          · intro f w2 hb2 hp
            simp only [PostOf, Ph.is, Ph.by_, Ph.any, Ph.rws] at hp
            obtain ⟨h0, h1, h2, h3, h4, h5, h6, h7, h8, h9, h10, h11, h12, h13, h14, h15, h16, h17, h18, h19, h20, h21, h22, h23, h24, h25, h26, h27, h28, h29, h30, _⟩ := hp
            simp only [fills, List.foldl_cons, List.foldl_nil, Act.put, List.setIfInBounds_toArray, List.set_cons_zero, List.set_cons_succ, h0, h1, h2, h3, h4, h5, h7, h8, h9, h10, h11, h12, h13, h14, h15, h16, h17, h18, h19, h20, h21, h22, h24, h25, h26, h27, h28, h29, h30]
            clear h0 h1 h2 h3 h4 h5 h7 h8 h9 h10 h11 h12 h13 h14 h15 h16 h17 h18 h19 h20 h21 h22 h24 h25 h26 h27 h28 h29 h30
            generalize f 55 = v55 at *
            generalize f 72 = v72 at *
            go_wp2_with fail
            go_ret
            exact ⟨rfl, bstep Hb5.out hb2⟩
        · exact absurd Hsh.out hns
      · have hv := hn3 hn
        subst hv
        have hne : (newE none l == 0) = false := by simpa using hn
        have hne' : (newE none l != 0) = true := by simpa using hn
        have Hrn := Lib.hid hrn
        have Hrn0 := Lib.hid hrn0
        clear hn3 ho3 hE hn hl0 hrn hrn0
        generalize newE none l = e at *
        go_wp2_with fail
        refine Hrn0.out.mono ?_
        rintro _ _ ⟨rfl, q, rfl⟩
        go_wp2_with fail
        refine (Hrn.out q).mono ?_
        rintro _ _ ⟨rfl, q2, rfl⟩
        go_wp2_with (go_at_call 12; refine (awake23 _).mono ?_; rintro e wa ⟨rfl, hba⟩)
        go_ret
        exact ⟨rfl, bstep (bdrewN Hb3.out (q + q2)) hba⟩

set_option maxRecDepth 100000 in
theorem lifted (os : Os) (started : os.Started) (H : Type) (enc : TypeId × Value → H) :
    ReturnsInHanded {} Try.checked os 3 .any (Rows.shardPutsSpec.pre6 enc Try.prog Try.f3 Rows.shardPutsRow.domain false) (Rows.shardPutsSpec.post enc Try.prog Try.f3 false true false false) := by
  refine returnsInHanded_of_change (C := Try.checked) own started (by kernel_rfl) Try.func3
    (ChangeSpec.witness6 (enc := enc) (C := Try.checked) false ⟨#[], #[.slice none 0 0], []⟩ 8 (by kernel_rfl) (by kernel_rfl) (by kernel_rfl) (by kernel_rfl)) ?_
  intro W base args ds gs before hval0 hW hcnd _
  have hval : ∀ (j : Nat) t v, Try.f3.params[j]? = some t → args[j]? = some v → Value.okWide Try.prog W .any base t v := hval0
  have hW' := hW
  obtain ⟨p, q, hA0, hV, rfl, hfz, hnd⟩ := hW
  have hA : DataW.TrodAll enc Try.prog W 0 (fun _ => true) true Try.f3.params.toList args.toList ds p := hA0
  rw [Try.params3] at hA hval
  obtain ⟨v0, vs0, d0, ds0, p0, q0, hargs, rfl, rfl, h0, r0⟩ := trodAll_cons hA
  obtain ⟨rfl, rfl, rfl⟩ := trodAll_nil r0
  obtain rfl : args = #[v0] := by cases args; simp_all
  obtain ⟨rfl, rfl⟩ := trodVars_none hV
  have k0 := h0
  have lt0 : ∀ x ∈ p0, x.block < W.heap.size := by obtain ⟨m, hm⟩ := k0; exact DataW.trod_lt m _ _ _ hm
  have i0 := InC.of h0
  obtain ⟨a0, len0, cap0, rfl⟩ := okWide_slice Try.underlying22 (hval 0 22 v0 rfl rfl)
  have j0 : InC W 22 [_] := i0
  clear hA0 hval0
  refine (walk _ W j0).mono fun e W' ⟨he, bel⟩ => ?_
  subst he
  exact ⟨_, rfl, _, _, _, [], _, [], hW', trodAll_mk1 (shut_bool Try.underlying4 _), (trodAll_cons_mk (Below.trod laidOut (by kernel_rfl) (of_decide_eq_true (by kernel_rfl)) k0 bel lt0) trodAll_mk0), rfl, bel.frame _, fun h => by cases h⟩

theorem over : Rows.shardPutsRow.holds Try.pinned (OpenSpec.ofChange Rows.shardPutsSpec) :=
  OpenClaim.holds_of_wide 3 Try.f3 rfl rfl rfl rfl rfl rfl rfl ⟨rfl, rfl, rfl, rfl, rfl⟩ rfl rfl rfl rfl rfl (by kernel_rfl) Try.func3 (by kernel_rfl)
    (of_decide_eq_true (by kernel_rfl)) (by unfold Func.isWrapper; first | (rw [if_pos (by decide +kernel)]; kernel_rfl) | (rw [if_neg (by decide +kernel)]; exact ⟨rfl, rfl⟩))
    (fun os started H enc _ => lifted os started H enc)

theorem proved : Rows.ShardPutsSaid := over
#print axioms proved
end Go.Proofs.Ythfnikdapknohaa.shardPuts
