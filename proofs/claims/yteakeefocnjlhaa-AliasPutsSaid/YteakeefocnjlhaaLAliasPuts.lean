/- The law 'AliasPuts' returns true for every input, and each argument reads behind the call as it read before. No condition. -/
import Derived.Test.YteakeefocnjlhaaRows
import Derived.Test.YteakeefocnjlhaaIn
import Derived.Test.YteakeefocnjlhaaAputPure
import Derived.Test.YteakeefocnjlhaaAwake16
import Derived.Test.YteakeefocnjlhaaCellSame
import Derived.Test.YteakeefocnjlhaaVarNil
import Derived.WalkKit
import Derived.ProofKit
import Derived.OpenShut
import Derived.ShutString
import Derived.ChangeOld
import Derived.Below
namespace Go.Proofs.Yteakeefocnjlhaa.aliasPuts
open Go.Proofs.Yteakeefocnjlhaa
open Go.ChangeShapes Go.WideShapes Go.ChangeAt Go.RowKit
set_option linter.unusedVariables false
set_option linter.unusedSimpArgs false

theorem own : ownKnob Try.prog.godebug = none := by kernel_rfl
theorem laidOut : laidOutB Try.prog = true := by kernel_rfl

theorem bst_append (a b : List UInt8) : bst (a ++ b) = bst a ++ bst b := by
  unfold bst
  apply ByteArray.ext
  simp
theorem bst_size (l : List UInt8) : (bst l).size = l.length := rfl
set_option maxRecDepth 100000 in
set_option maxHeartbeats 4000000 in
theorem walk (v0 v1 v2 : Value) (w : World) (h0 : InC w 22 [v0]) (h1 : InC w 67 [v1]) (h2 : InC w 26 [v2]) :
    Calls Try.prog 18 #[v0, v1, v2] w fun e w' => e = .returned (.bool true) ∧ Below w.heap.size w w' := by
  obtain ⟨b, hby⟩ := h0.bytes
  obtain ⟨l, hl⟩ := h1.gcells
  obtain ⟨m, e1, _⟩ := InC.u64 (S := fun _ => True) Try.underlying26 h2
  simp at e1
  subst e1
  have hm := u64_lt m
  generalize m.toNat = W at *
  clear h0 h1 h2 m
  obtain ⟨A, c, rfl, hc1, hc2, _⟩ := id hby
  obtain ⟨Al, cl, rfl, hl1, hl2⟩ := hl.form
  unfold maxLen at hc2 hl2
  by_cases hbig : 100 < b.length
  · go_enter Try.func18, Try.ntmps18
    go_wp2_with (go_at_call 56; refine (awake16 _).mono ?_; rintro e wa ⟨rfl, hba⟩)
    go_ret
    exact ⟨rfl, hba⟩
  by_cases hbig2 : 100 < l.length
  · go_enter Try.func18, Try.ntmps18
    go_wp2_with (go_at_call 56; refine (awake16 _).mono ?_; rintro e wa ⟨rfl, hba⟩)
    go_ret
    exact ⟨rfl, hba⟩
  have hgl : (cput l).length ≤ 2200 := by have := cput_len l; omega
  have hput := fun W h0 h hm hW => aput_any W w.heap.size w.heap.size (h0 : Value) b (hm : Ow W w.heap.size h0 b) (.slice Al l.length cl) l (by omega) (by omega) (h : ByC W w.heap.size (.slice Al l.length cl) l) (Nat.le_refl _) hW
  have hrput := fun W h hW => rcput_any W w.heap.size (.slice Al l.length cl) l (by omega) h hW
  have hgood := fun (h : cfit W l.length l = true) => cget_good W l.length l [] h
  have hbad := fun (h : cfit W l.length l = false) => cget_bad W l.length l [] h (Nat.le_refl _)
  have hmin : min (l.length - 1) 4294967295 = l.length - 1 := by omega
  have Hput := Lib.hid hput
  have Hrput := Lib.hid hrput
  have Hgood := Lib.hid hgood
  have Hbad := Lib.hid hbad
  have Hmin := Lib.hid hmin
  clear hput hrput hgood hbad hmin
  go_enter Try.func18, Try.ntmps18
  go_wp2_with (at_builtin
               refine wpList_app8 rfl (.tmp 21) (.tmp 22) rfl (Ow.new_ w [] (Nat.zero_le _)) (hby.below (balloc _ _)) rfl rfl (by simp; omega) (by simp) ?_
               intro v1 w1 hown1 hext1
               rw [List.nil_append] at hown1)
  have hb01 : Below w.heap.size w w1 := (balloc w _).trans (hext1.below (by simp) (by simp [Value.ownBlock]))
  have hw1 := hb01.size
  clear hext1
  refine (Hput.out w1 v1 (hl.below hb01) hown1 hw1).mono ?_
  rintro _ w2 ⟨vx, rfl, hown2, hext2⟩
  have hb02 := hb01.trans (hext2.below hw1 fun q hq => (hown1.blk q hq).1)
  have hx2 := hown2.by_
  obtain ⟨xs, hxs⟩ : ∃ xs, b ++ cput l = xs := ⟨_, rfl⟩
  have hxl : xs.length = b.length + (cput l).length := by rw [← hxs, List.length_append]
  have hxb : bst b ++ bst (cput l) = bst xs := by rw [← hxs, bst_append]
  have hxd : xs.drop b.length = cput l := by rw [← hxs]; simp
  rw [hxs] at hx2
  have hby2 := (hby.below hb02).more hb02.size
  have hl2' := hl.below hb02
  have Hx := Lib.hid hx2
  have Hb := Lib.hid hby2
  have HL := Lib.hid hl2'
  have Hxl := Lib.hid hxl
  have Hxb := Lib.hid hxb
  have Hxd := Lib.hid hxd
  have HB := Lib.hid hb02
  obtain ⟨Ax, cx, rfl, hcx1, hcx2, _⟩ := id hx2
  clear hxs hxl hxb hxd hx2 hby2 hl2' hown2 hown1 hb01 hext2 hb02 hby hl Hput
  have hw2 := HB.out.size
  have hxl2 : xs.length ≤ 2300 := by have := Hxl.out; omega
  go_wp2_with fail
  refine wp_region_typed [some 26, some 27, some 28, some 29, some 30, some 31, some 32, some 33, some 34] [26, 27, 28, 29, 30, 31, 32, 33, 34]
    [Ph.is (.slice Ax xs.length cx),
      Ph.is (.string (bst (xs))),
      Ph.is (.slice A b.length c),
      Ph.is (.string (bst (b))),
      Ph.is (.slice Al l.length cl),
      Ph.by_ (cput l),
      Ph.is (.string (bst (cput l))),
      Ph.is (.string (bst xs)),
      Ph.is (.bool false)] rfl rfl (by kernel_rfl) (by kernel_rfl) ?_ ?_
  · refine ⟨?_, ?_, ?_, ?_, ?_, ?_, ?_, ?_, ?_, trivial⟩
    · -- 0: slot 26 := Op.move t7
      refine ob_yes fun f w' hb hp => ?_
      simp [PreOf, factOf, valOf, Ph.is, Ph.by_, Ph.any, Region.binds] at hp
      refine ⟨by simp [Gd, valOf, hp], ?_⟩
      refine mild_val (.slice Ax xs.length cx) ?_ rfl
      simp [execOp, evalF, hp]
    · -- 1: slot 27 := Op.convert 22 9 t26
      refine ob_yes fun f w' hb hp => ?_
      simp [PreOf, factOf, valOf, Ph.is, Ph.by_, Ph.any, Region.binds] at hp
      refine ⟨by simp [Gd, valOf, hp], ?_⟩
      refine mild_val (.string (bst (xs))) ?_ rfl
      have hc := conv8 ((Hx.out).below hb)
      simp [execOp, evalF, hp, hc]
    · -- 2: slot 28 := Op.move t0
      refine ob_yes fun f w' hb hp => ?_
      simp [PreOf, factOf, valOf, Ph.is, Ph.by_, Ph.any, Region.binds] at hp
      refine ⟨by simp [Gd, valOf, hp], ?_⟩
      refine mild_val (.slice A b.length c) ?_ rfl
      simp [execOp, evalF, hp]
    · -- 3: slot 29 := Op.convert 22 9 t28
      refine ob_yes fun f w' hb hp => ?_
      simp [PreOf, factOf, valOf, Ph.is, Ph.by_, Ph.any, Region.binds] at hp
      refine ⟨by simp [Gd, valOf, hp], ?_⟩
      refine mild_val (.string (bst (b))) ?_ rfl
      have hc := conv8 ((Hb.out).below hb)
      simp [execOp, evalF, hp, hc]
    · -- 4: slot 30 := Op.move t1
      refine ob_yes fun f w' hb hp => ?_
      simp [PreOf, factOf, valOf, Ph.is, Ph.by_, Ph.any, Region.binds] at hp
      refine ⟨by simp [Gd, valOf, hp], ?_⟩
      refine mild_val (.slice Al l.length cl) ?_ rfl
      simp [execOp, evalF, hp]
    · -- 5: slot 31 := Op.call   value (Operand.func 66), args := #[t30], argTypes := #[67]  
      refine ob_yes fun f w' hb hp => ?_
      simp [PreOf, factOf, valOf, Ph.is, Ph.by_, Ph.any, Region.binds] at hp
      refine ⟨by simp [Gd, valOf, hp], ?_⟩
      refine mild_call 66 _ _ Try.f66 Try.func66 (by kernel_rfl) (by kernel_rfl) rfl ?_
      simp [evalF, hp, Ph.is, Ph.by_, Ph.any]
      exact (Hrput.out w' (HL.out.below (hb.mono hw2)) (Nat.le_trans hw2 hb.size)).mono fun e w2 ⟨v, h1, h2, h3⟩ => ⟨v, h1, h3, h2.by_⟩
    · -- 6: slot 32 := Op.convert 22 9 t31
      refine ob_yes fun f w' hb hp => ?_
      simp [PreOf, factOf, valOf, Ph.is, Ph.by_, Ph.any, Region.binds] at hp
      refine ⟨by simp [Gd, valOf, hp], ?_⟩
      refine mild_val (.string (bst (cput l))) ?_ rfl
      have hc := conv8 (by first | exact hp | exact hp.1 | exact hp.2 | exact hp.1.1 | exact hp.1.2 | exact hp.2.1 | exact hp.2.2)
      simp [execOp, evalF, hp, hc]
    · -- 7: slot 33 := Op.binOp BinOp.add 9 t29 t32 9
      refine ob_yes fun f w' hb hp => ?_
      simp [PreOf, factOf, valOf, Ph.is, Ph.by_, Ph.any, Region.binds] at hp
      refine ⟨by simp [Gd, valOf, hp], ?_⟩
      refine mild_val (.string (bst xs)) ?_ rfl
      have hxb := Hxb.out
      have hsz : (bst b).size + (bst (cput l)).size ≤ 9223372036854775807 := by rw [bst_size, bst_size]; omega
      simp [execOp, evalF, hp, go_sem, hxb, hsz]
    · -- 8: slot 34 := Op.binOp BinOp.neq 9 t27 t33 9
      refine ob_yes fun f w' hb hp => ?_
      simp [PreOf, factOf, valOf, Ph.is, Ph.by_, Ph.any, Region.binds] at hp
      refine ⟨by simp [Gd, valOf, hp], ?_⟩
      refine mild_val (.bool false) ?_ rfl
      simp [execOp, evalF, hp, go_sem]
  · intro f w2 hb2 hp
    simp only [PostOf, Ph.is, Ph.by_, Ph.any] at hp
    obtain ⟨h0, h1, h2, h3, h4, h5, h6, h7, h8, _⟩ := hp
    simp only [fills, List.foldl_cons, List.foldl_nil, Act.put, List.setIfInBounds_toArray, List.set_cons_zero, List.set_cons_succ, h0, h1, h2, h3, h4, h6, h7, h8]
    clear h0 h1 h2 h3 h4 h6 h7 h8
    generalize f 31 = v31 at *
    have HB4 := Lib.hid (HB.out.trans (hb2.mono hw2))
    have HX4 := Lib.hid (Hx.out.step hb2)
    have hl4 := HL.out.below (hb2.mono hw2)
    have HL4 := Lib.hid hl4
    have h2s := hb2.size
    clear hb2 Hx HL Hb HB Hrput
    have hw02 : w.heap.size ≤ w2.heap.size := Nat.le_trans hw2 h2s
    clear hw2 h2s
    go_wp2_with fail
    go_loopw [8, 9] (fun g i wr => ∃ k : Nat, k ≤ l.length ∧ i = .int .i64 k ∧ g = .bool (cfit W l.length (l.take k)) ∧ wr = w2) (fun _ i _ => l.length - (intOf i).toNat)
    case atStart => exact ⟨0, by omega, rfl, rfl, rfl⟩
    case round =>
      obtain ⟨k, hk, rfl, rfl, rfl⟩ := hrel
      by_cases hlt : k < l.length
      · obtain ⟨ad, rfl, hab, hx0, hx1⟩ := hl4.cells k hlt
        have hgs := cfit_snoc W l.length l k hlt
        have hcu := u64_lt (l[k]).cut
        have hot := u32_lt (l[k]).oth
        have Hgs := Lib.hid hgs
        clear hgs hl4
        generalize (l[k]).cut.toNat = cut at *
        generalize (l[k]).oth.toNat = oth at *
        generalize cfit W l.length (l.take k) = g at *
        have hwo : IntKind.u64.wrap (oth : Int) = (oth : Int) := by rw [wrap_u64]; omega
        have hwl : IntKind.u64.wrap (l.length : Int) = (l.length : Int) := by rw [wrap_u64]; omega
        cases g with
        | false =>
          go_wp2_with fail
          go_roundw
          case rel => exact ⟨k + 1, by omega, by go_num, by rw [Hgs.out]; rfl, trivial⟩
          case measure => simp [intOf]; omega
        | true =>
          by_cases hcw : cut ≤ W
          · have hd1 : decide (cut ≤ W) = true := decide_eq_true hcw
            go_wp2_with fail
            go_roundw
            case rel => exact ⟨k + 1, by omega, by go_num, by rw [Hgs.out, hd1]; simp, trivial⟩
            case measure => simp [intOf]; omega
          · have hd1 : decide (cut ≤ W) = false := decide_eq_false hcw
            go_wp2_with fail
            go_roundw
            case rel => exact ⟨k + 1, by omega, by go_num, by rw [Hgs.out, hd1]; rfl, trivial⟩
            case measure => simp [intOf]; omega
      · obtain rfl : k = l.length := by omega
        rw [List.take_length]
        have hback := HX4.out.back_ (k := b.length) (by have := Hxl.out; omega)
        rw [Hxd.out] at hback
        have Hback := Lib.hid hback
        clear hback hl4
        have hxl3 := Hxl.out
        go_wp2_with fail
        · refine (vnew_any wr _ _ _).mono ?_
          rintro _ w6 ⟨rfl, hw6⟩
          have hrd : RdrAt w6 wr.heap.size (cput l) 0 := by rw [hw6]; exact RdrAt.new_ (by have h := Hback.out; have hcc := ‹cx = b.length›; rw [if_pos hcc] at h; simpa [Hxl.out, hcc] using h)
          have hb46 : Below wr.heap.size wr w6 := by rw [hw6]; exact balloc _ _
          clear hw6 hxl3
          have hz6 := hb46.size
          have hget := aget_any w6 wr.heap.size l.length W (cput l) 0 hm (by omega) hrd
          rw [Hmin.out] at hget
          cases hg : cfit W l.length l with
          | false =>
            rw [Hbad.out hg] at hget
            clear hg
            go_wp2_with fail
            refine hget.mono ?_
            rintro _ w7 ⟨vo, rfl, hown7, hrd7, hg7⟩
            obtain ⟨Ao, co, rfl, _, _, _⟩ := hown7.form'
            have hb47 : Below wr.heap.size wr w7 := hb46.trans (gofBelow hg7 hz6 (fun k hk => by injection hk with hk; omega))
            have herr := verr_any w7 wr.heap.size [] 9 hrd7
            have HB7 := Lib.hid (HB4.out.trans (hb47.mono hw02))
            clear hown7 hrd7 hg7 hb47 hb46 hget hrd
            go_wp2_with fail
            refine herr.mono ?_
            rintro _ _ ⟨rfl, rfl⟩
            go_wp2_with (go_at_call 56; refine (awake16 _).mono ?_; rintro e wa ⟨rfl, hba⟩)
            go_ret
            exact ⟨rfl, bstep HB7.out hba⟩
          | true =>
            rw [Hgood.out hg] at hget
            clear hg
            go_wp2_with fail
            refine hget.mono ?_
            rintro _ w7 ⟨vo, rfl, hown7, hrd7, hg7⟩
            obtain ⟨Ao, co, rfl, _, _, _⟩ := hown7.form'
            have hb47 : Below wr.heap.size wr w7 := hb46.trans (gofBelow hg7 hz6 (fun k hk => by injection hk with hk; omega))
            have hsm := csame_any w7 _ _ _ (.slice Al l.length cl) _ l hown7.byC (HL4.out.below (hb47.mono hw02))
            rw [List.nil_append, decide_eq_true (rfl : l = l)] at hsm
            have hen := fun q => vend_any (w7.drewN q) wr.heap.size [] 0 (hrd7.below hrd7.lt (bdrewN (Below.refl _ _) q))
            have he0 : endE [] 0 = 0 := rfl
            rw [he0] at hen
            have HB7 := Lib.hid (HB4.out.trans (hb47.mono hw02))
            have Hen := Lib.hid hen
            clear hown7 hrd7 hg7 hb47 hb46 hget hrd hen he0
            go_wp2_with fail
            refine hsm.mono ?_
            rintro _ _ ⟨rfl, q, rfl⟩
            go_wp2_with fail
            refine (Hen.out q).mono ?_
            rintro _ _ ⟨rfl, rfl⟩
            go_wp2_with (go_at_call 56; refine (awake16 _).mono ?_; rintro e wa ⟨rfl, hba⟩)
            go_ret
            exact ⟨rfl, bstep (bdrewN HB7.out q) hba⟩
        · refine (vnew_any wr _ _ _).mono ?_
          rintro _ w6 ⟨rfl, hw6⟩
          have hrd : RdrAt w6 wr.heap.size (cput l) 0 := by rw [hw6]; exact RdrAt.new_ (by have h := Hback.out; rw [if_neg (by assumption)] at h; simpa [Hxl.out] using h)
          have hb46 : Below wr.heap.size wr w6 := by rw [hw6]; exact balloc _ _
          clear hw6 hxl3
          have hz6 := hb46.size
          have hget := aget_any w6 wr.heap.size l.length W (cput l) 0 hm (by omega) hrd
          rw [Hmin.out] at hget
          cases hg : cfit W l.length l with
          | false =>
            rw [Hbad.out hg] at hget
            clear hg
            go_wp2_with fail
            refine hget.mono ?_
            rintro _ w7 ⟨vo, rfl, hown7, hrd7, hg7⟩
            obtain ⟨Ao, co, rfl, _, _, _⟩ := hown7.form'
            have hb47 : Below wr.heap.size wr w7 := hb46.trans (gofBelow hg7 hz6 (fun k hk => by injection hk with hk; omega))
            have herr := verr_any w7 wr.heap.size [] 9 hrd7
            have HB7 := Lib.hid (HB4.out.trans (hb47.mono hw02))
            clear hown7 hrd7 hg7 hb47 hb46 hget hrd
            go_wp2_with fail
            refine herr.mono ?_
            rintro _ _ ⟨rfl, rfl⟩
            go_wp2_with (go_at_call 56; refine (awake16 _).mono ?_; rintro e wa ⟨rfl, hba⟩)
            go_ret
            exact ⟨rfl, bstep HB7.out hba⟩
          | true =>
            rw [Hgood.out hg] at hget
            clear hg
            go_wp2_with fail
            refine hget.mono ?_
            rintro _ w7 ⟨vo, rfl, hown7, hrd7, hg7⟩
            obtain ⟨Ao, co, rfl, _, _, _⟩ := hown7.form'
            have hb47 : Below wr.heap.size wr w7 := hb46.trans (gofBelow hg7 hz6 (fun k hk => by injection hk with hk; omega))
            have hsm := csame_any w7 _ _ _ (.slice Al l.length cl) _ l hown7.byC (HL4.out.below (hb47.mono hw02))
            rw [List.nil_append, decide_eq_true (rfl : l = l)] at hsm
            have hen := fun q => vend_any (w7.drewN q) wr.heap.size [] 0 (hrd7.below hrd7.lt (bdrewN (Below.refl _ _) q))
            have he0 : endE [] 0 = 0 := rfl
            rw [he0] at hen
            have HB7 := Lib.hid (HB4.out.trans (hb47.mono hw02))
            have Hen := Lib.hid hen
            clear hown7 hrd7 hg7 hb47 hb46 hget hrd hen he0
            go_wp2_with fail
            refine hsm.mono ?_
            rintro _ _ ⟨rfl, q, rfl⟩
            go_wp2_with fail
            refine (Hen.out q).mono ?_
            rintro _ _ ⟨rfl, rfl⟩
            go_wp2_with (go_at_call 56; refine (awake16 _).mono ?_; rintro e wa ⟨rfl, hba⟩)
            go_ret
            exact ⟨rfl, bstep (bdrewN HB7.out q) hba⟩

set_option maxRecDepth 100000 in
theorem lifted (os : Os) (started : os.Started) (H : Type) (enc : TypeId × Value → H) :
    ReturnsInHanded {} Try.checked os 18 .any (Rows.aliasPutsSpec.pre6 enc Try.prog Try.f18 Rows.aliasPutsRow.domain false) (Rows.aliasPutsSpec.post enc Try.prog Try.f18 false true false false) := by
  refine returnsInHanded_of_change (C := Try.checked) own started (by kernel_rfl) Try.func18
    (ChangeSpec.witness6 (enc := enc) (C := Try.checked) false ⟨#[], #[.slice none 0 0, .slice none 0 0, .int .u64 0], []⟩ 8 (by kernel_rfl) (by kernel_rfl) (by kernel_rfl) (by kernel_rfl)) ?_
  intro W base args ds gs before hval0 hW hcnd _
  have hval : ∀ (j : Nat) t v, Try.f18.params[j]? = some t → args[j]? = some v → Value.okWide Try.prog W .any base t v := hval0
  have hW' := hW
  obtain ⟨p, q, hA0, hV, rfl, hfz, hnd⟩ := hW
  have hA : DataW.TrodAll enc Try.prog W 0 (fun _ => true) true Try.f18.params.toList args.toList ds p := hA0
  rw [Try.params18] at hA hval
  obtain ⟨v0, vs0, d0, ds0, p0, q0, hargs, rfl, rfl, h0, r0⟩ := trodAll_cons hA
  obtain ⟨v1, vs1, d1, ds1, p1, q1, rfl, rfl, rfl, h1, r1⟩ := trodAll_cons r0
  obtain ⟨v2, vs2, d2, ds2, p2, q2, rfl, rfl, rfl, h2, r2⟩ := trodAll_cons r1
  obtain ⟨rfl, rfl, rfl⟩ := trodAll_nil r2
  obtain rfl : args = #[v0, v1, v2] := by cases args; simp_all
  obtain ⟨rfl, rfl⟩ := trodVars_none hV
  have k0 := h0
  have lt0 : ∀ x ∈ p0, x.block < W.heap.size := by obtain ⟨m, hm⟩ := k0; exact DataW.trod_lt m _ _ _ hm
  have i0 := InC.of h0
  obtain ⟨a0, len0, cap0, rfl⟩ := okWide_slice Try.underlying22 (hval 0 22 v0 rfl rfl)
  have j0 : InC W 22 [_] := i0
  have k1 := h1
  have lt1 : ∀ x ∈ p1, x.block < W.heap.size := by obtain ⟨m, hm⟩ := k1; exact DataW.trod_lt m _ _ _ hm
  have i1 := InC.of h1
  obtain ⟨a1, len1, cap1, rfl⟩ := okWide_slice Try.underlying67 (hval 1 67 v1 rfl rfl)
  have j1 : InC W 67 [_] := i1
  have k2 := h2
  have lt2 : ∀ x ∈ p2, x.block < W.heap.size := by obtain ⟨m, hm⟩ := k2; exact DataW.trod_lt m _ _ _ hm
  have i2 := InC.of h2
  obtain ⟨a2, rfl⟩ := okWide_int Try.underlying26 (hval 2 26 v2 rfl rfl)
  have j2 : InC W 26 [_] := i2
  clear hA0 hval0
  refine (walk _ _ _ W j0 j1 j2).mono fun e W' ⟨he, bel⟩ => ?_
  subst he
  exact ⟨_, rfl, _, _, _, [], _, [], hW', trodAll_mk1 (shut_bool Try.underlying4 _), (trodAll_cons_mk (Below.trod laidOut (by kernel_rfl) (of_decide_eq_true (by kernel_rfl)) k0 bel lt0) (trodAll_cons_mk (Below.trod laidOut (by kernel_rfl) (of_decide_eq_true (by kernel_rfl)) k1 bel lt1) (trodAll_cons_mk (Below.trod laidOut (by kernel_rfl) (of_decide_eq_true (by kernel_rfl)) k2 bel lt2) trodAll_mk0))), rfl, bel.frame _, fun h => by cases h⟩

theorem over : Rows.aliasPutsRow.holds Try.pinned (OpenSpec.ofChange Rows.aliasPutsSpec) :=
  OpenClaim.holds_of_wide 18 Try.f18 rfl rfl rfl rfl rfl rfl rfl ⟨rfl, rfl, rfl, rfl, rfl⟩ rfl rfl rfl rfl rfl (by kernel_rfl) Try.func18 (by kernel_rfl)
    (of_decide_eq_true (by kernel_rfl)) (by unfold Func.isWrapper; first | (rw [if_pos (by decide +kernel)]; kernel_rfl) | (rw [if_neg (by decide +kernel)]; exact ⟨rfl, rfl⟩))
    (fun os started H enc _ => lifted os started H enc)

theorem proved : Rows.AliasPutsSaid := over
#print axioms proved
end Go.Proofs.Yteakeefocnjlhaa.aliasPuts
