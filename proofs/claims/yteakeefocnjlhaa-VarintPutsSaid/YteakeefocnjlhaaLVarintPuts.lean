/- The law 'VarintPuts' returns true for every input, and each argument reads behind the call as it read before. No condition. -/
import Derived.Test.YteakeefocnjlhaaRows
import Derived.Test.YteakeefocnjlhaaIn
import Derived.Test.YteakeefocnjlhaaVarNil
import Derived.Test.YteakeefocnjlhaaVarRefMore
import Derived.WalkKit
import Derived.ProofKit
import Derived.OpenShut
import Derived.ShutString
import Derived.ChangeOld
import Derived.Below
namespace Go.Proofs.Yteakeefocnjlhaa.varintPuts
open Go.Proofs.Yteakeefocnjlhaa
open Go.ChangeShapes Go.WideShapes Go.ChangeAt Go.RowKit
set_option linter.unusedVariables false
set_option linter.unusedSimpArgs false

theorem own : ownKnob Try.prog.godebug = none := by kernel_rfl
theorem laidOut : laidOutB Try.prog = true := by kernel_rfl

set_option maxRecDepth 100000 in
set_option maxHeartbeats 2000000 in
theorem walk (v0 v1 v2 : Value) (w : World) (h0 : InC w 22 [v0]) (h1 : InC w 26 [v1]) (h2 : InC w 2 [v2]) :
    Calls Try.prog 7 #[v0, v1, v2] w fun e w' => e = .returned (.bool true) ∧ Below w.heap.size w w' := by
  obtain ⟨l, hby⟩ := h0.bytes
  obtain ⟨m, e1, _⟩ := InC.u64 (S := fun _ => True) Try.underlying26 h1
  obtain ⟨k, e2, hk⟩ := InC.i64 (S := fun _ => True) Try.underlying2 h2
  simp at e1 e2
  subst e1; subst e2
  have hm := u64_lt m
  generalize m.toNat = n at *
  clear h0 h1 h2 m
  obtain ⟨A, c, rfl, hc1, hc2, _⟩ := id hby
  unfold maxLen at hc2
  by_cases hbig : 1000 < l.length
  · go_enter Try.func7, Try.ntmps7
    go_wp2_with (go_at_call 20; refine (awake03 _).mono ?_; rintro e wa ⟨rfl, hba⟩)
    go_ret
    exact ⟨rfl, hba⟩
  have hz := zz_lt k hk.1 hk.2
  have hlv := vput_len64 n hm
  have hlz := vput_len64 (zz k) hz
  have hlc : l.length ≤ 1000 := by omega
  have Hlc := Lib.hid hlc
  clear hlc
  go_enter Try.func7, Try.ntmps7
  go_wp2_with (at_builtin
               refine wpList_app8 rfl (.tmp 17) (.tmp 18) rfl (Ow.new_ w [] (Nat.zero_le _)) (hby.below (balloc _ _)) rfl rfl (by have := Hlc.out; simp; omega) (by simp) ?_
               intro v1 w1 hown1 hext1
               rw [List.nil_append] at hown1)
  have hb01 : Below w.heap.size w w1 := (balloc w _).trans (hext1.below (by simp) (by simp [Value.ownBlock]))
  have hw1 := hb01.size
  refine (vput_any w1 w.heap.size v1 l hown1 n hm (by have := Hlc.out; omega) hw1).mono ?_
  rintro _ w2 ⟨v2, rfl, hown2, hext2⟩
  have hb02 := hb01.trans (hext2.below hw1 fun q hq => (hown1.blk q hq).1)
  have hw2 := hb02.size
  go_wp2_with fail
  refine (vputs_any w2 w.heap.size v2 _ hown2 k hk (by have := Hlc.out; simp; omega) hw2).mono ?_
  rintro _ w3 ⟨v3, rfl, hown3, hext3⟩
  have hb03 := hb02.trans (hext3.below hw2 fun q hq => (hown2.blk q hq).1)
  have hw3 := hb03.size
  have hby3 := hby.below hb03
  clear hown1 hown2 hext1 hext2 hext3
  go_wp2_with (at_builtin
               refine wpList_app8 rfl (.tmp 24) (.tmp 25) rfl (Ow.new_ w3 [] (Nat.zero_le _)) (hby3.below ((balloc _ _).mono hw3)) rfl rfl (by have := Hlc.out; simp; omega) (by simp) ?_
               intro v4 w4 hown4 hext4
               rw [List.nil_append] at hown4)
  have hb34 : Below w3.heap.size w3 w4 := (balloc w3 _).trans (hext4.below (by simp) (by simp [Value.ownBlock]))
  have hw4 := hb34.size
  refine (refnum_any n w4 hm).mono ?_
  rintro _ w5 ⟨v5, rfl, hown5, hb45⟩
  have hb35 := bstep hb34 hb45
  have hw5 := hb35.size
  go_wp2_with (at_builtin
               refine wpList_app8 rfl (.tmp 26) (.tmp 28) rfl (hown4.below_ hb45) hown5.by_ rfl rfl (by have := Hlc.out; omega) hw5 ?_
               intro v6 w6 hown6 hext6)
  have hb36 := hb35.trans (hext6.below hw5 fun q hq => (hown4.blk q hq).1)
  have hw6 := hb36.size
  refine (refsigned_any k hk w6).mono ?_
  rintro _ w7 ⟨v7, rfl, hown7, hb67⟩
  have hb37 := bstep hb36 hb67
  have hw7 := hb37.size
  go_wp2_with (at_builtin
               refine wpList_app8 rfl (.tmp 29) (.tmp 31) rfl (hown6.below_ hb67) hown7.by_ rfl rfl (by have := Hlc.out; simp; omega) hw7 ?_
               intro v8 w8 hown8 hext8)
  have hb38 := hb37.trans (hext8.below hw7 fun q hq => (hown6.blk q hq).1)
  have hb08 := bstep hb03 hb38
  have hby8x := hown3.by_.step hb38
  have hby8w := hown8.by_
  clear hown4 hext4 hown5 hb45 hown6 hext6 hown7 hb67 hext8 hb34 hb35 hb36 hb37
  obtain ⟨A3, c3, rfl, hd1, hd2, _⟩ := id hby8x
  generalize hx : l ++ vput n ++ vput (zz k) = x at *
  have Hx := Lib.hid hx
  have hxl : x.length ≤ 2000 := by rw [← hx]; have := Hlc.out; simp; omega
  clear hx
  refine (vnew_any w8 A3 x.length c3).mono ?_
  rintro _ w9 ⟨rfl, hw9⟩
  have hrd := RdrAt.new_ hby8x
  rw [← hw9] at hrd
  have hb89 : Below w8.heap.size w8 w9 := by rw [hw9]; exact balloc _ _
  clear hw9
  go_wp2_with fail
  have hbs : bytesS (l.length : Int) x 0 = (l, vput n ++ vput (zz k), 0) := by
    rw [← Hx.out]
    unfold bytesS
    rw [if_neg (by simp), if_neg (by omega), if_neg (by simp; omega)]
    simp
  have hvb := vbytes_any w9 w8.heap.size x 0 (l.length : Int) (by have := Hlc.out; omega) (by omega) hrd
  rw [hbs] at hvb
  refine hvb.mono ?_
  rintro _ w10 ⟨v10, rfl, hown10, hrd10, hg10⟩
  have hn1 := vnum_any w10 w8.heap.size _ 0 n hm hrd10
  have e1 : numS n (vput n ++ vput (zz k)) 0 = (n, vput (zz k), 0) := by
    unfold numS; rw [if_neg (by simp), numR_vput n n _ hm (Nat.le_refl _)]
  rw [e1] at hn1
  go_wp2_with fail
  refine hn1.mono ?_
  rintro _ w11 ⟨rfl, hrd11, hg11⟩
  have hn2 := vsigned_any w11 w8.heap.size _ 0 hrd11
  have e2 : numS 18446744073709551615 (vput (zz k)) 0 = (zz k, [], 0) := by
    have := numR_vput (zz k) 18446744073709551615 [] hz (by omega)
    rw [List.append_nil] at this
    unfold numS; rw [if_neg (by simp), this]
  rw [e2] at hn2
  simp only [unzz_zz] at hn2
  go_wp2_with fail
  refine hn2.mono ?_
  rintro _ w12 ⟨rfl, hrd12, hg12⟩
  have hgr : w9.grownBy w12 (some w8.heap.size) := gtrans hg10 (gtrans hg11 hg12)
  have hs9 := hb89.size
  have hb8c : Below w8.heap.size w8 w12 := hb89.trans (gofBelow hgr hs9 (fun k hk => by injection hk with hk; omega))
  have hb0c := bstep hb08 hb8c
  have hs12 := hb8c.size
  have hlt := hrd10.lt
  have hc1 := conv8 (hby8x.below hb8c)
  have hc2 := conv8 (hby8w.below hb8c)
  have hc4 := conv8 (hby.below hb0c)
  have hg1c : w10.grownBy w12 (some w8.heap.size) := gtrans hg11 hg12
  have hne : v10.ownBlock = none ∨ v10.ownBlock ≠ some w8.heap.size := by
    cases hv : v10.ownBlock with
    | none => exact .inl rfl
    | some q => exact .inr (fun e => by injection e with e; have h8 := (hown10.blk q hv).1; have := hrd.lt; omega)
  have hc3 := conv8 ((hown10.keep hg1c hne).by_)
  have hend := vend_any w12 w8.heap.size [] 0 hrd12
  have he0 : endE [] 0 = 0 := rfl
  rw [he0] at hend
  have Hend := Lib.hid hend
  have Hb := Lib.hid hb0c
  clear hend hb0c hb8c hgr hg1c hne hown10 hrd10 hrd11 hrd12 hby8x hby8w hby hn1 hn2 hvb hrd hb08 hb38 hb89 hby3 hown3 hown8 hb01 hb02 hb03 e1 e2 hbs
  generalize bst x = sx at *
  generalize bst l = sl at *
  go_wp2_with (first
    | (go_at_call 23; refine Hend.out.mono ?_; rintro _ _ ⟨rfl, rfl⟩)
    | (go_at_call 20; refine (awake03 _).mono ?_; rintro e wa ⟨rfl, hba⟩))
  go_ret
  exact ⟨rfl, bstep Hb.out hba⟩

set_option maxRecDepth 100000 in
theorem lifted (os : Os) (started : os.Started) (H : Type) (enc : TypeId × Value → H) :
    ReturnsInHanded {} Try.checked os 7 .any (Rows.varintPutsSpec.pre6 enc Try.prog Try.f7 Rows.varintPutsRow.domain false) (Rows.varintPutsSpec.post enc Try.prog Try.f7 false true false false) := by
  refine returnsInHanded_of_change (C := Try.checked) own started (by kernel_rfl) Try.func7
    (ChangeSpec.witness6 (enc := enc) (C := Try.checked) false ⟨#[], #[.slice none 0 0, .int .u64 0, .int .i64 0], []⟩ 8 (by kernel_rfl) (by kernel_rfl) (by kernel_rfl) (by kernel_rfl)) ?_
  intro W base args ds gs before hval0 hW hcnd _
  have hval : ∀ (j : Nat) t v, Try.f7.params[j]? = some t → args[j]? = some v → Value.okWide Try.prog W .any base t v := hval0
  have hW' := hW
  obtain ⟨p, q, hA0, hV, rfl, hfz, hnd⟩ := hW
  have hA : DataW.TrodAll enc Try.prog W 0 (fun _ => true) true Try.f7.params.toList args.toList ds p := hA0
  rw [Try.params7] at hA hval
  obtain ⟨v0, vs0, d0, ds0, p0, q0, hargs, rfl, rfl, h0, r0⟩ := trodAll_cons hA
  obtain ⟨v1, vs1, d1, ds1, p1, q1, rfl, rfl, rfl, h1, r1⟩ := trodAll_cons r0
  obtain ⟨v2, vs2, d2, ds2, p2, q2, rfl, rfl, rfl, h2, r2⟩ := trodAll_cons r1
  obtain ⟨rfl, rfl, rfl⟩ := trodAll_nil r2
  obtain rfl : args = #[v0, v1, v2] := by cases args; simp_all
  obtain ⟨rfl, rfl⟩ := trodVars_none hV
  have k0 := h0
  have lt0 : ∀ x ∈ p0, x.block < W.heap.size := by obtain ⟨m, hm⟩ := k0; exact DataW.trod_lt m _ _ _ hm
  have i0 := InC.of h0
  obtain ⟨a0, len0, cap0, rfl⟩ := okWide_slice Try.underlying22 (hval 0 22 v0 rfl rfl)
  have j0 : InC W 22 [_] := i0
  have k1 := h1
  have lt1 : ∀ x ∈ p1, x.block < W.heap.size := by obtain ⟨m, hm⟩ := k1; exact DataW.trod_lt m _ _ _ hm
  have i1 := InC.of h1
  obtain ⟨a1, rfl⟩ := okWide_int Try.underlying26 (hval 1 26 v1 rfl rfl)
  have j1 : InC W 26 [_] := i1
  have k2 := h2
  have lt2 : ∀ x ∈ p2, x.block < W.heap.size := by obtain ⟨m, hm⟩ := k2; exact DataW.trod_lt m _ _ _ hm
  have i2 := InC.of h2
  obtain ⟨a2, rfl⟩ := okWide_int Try.underlying2 (hval 2 2 v2 rfl rfl)
  have j2 : InC W 2 [_] := i2
  clear hA0 hval0
  refine (walk _ _ _ W j0 j1 j2).mono fun e W' ⟨he, bel⟩ => ?_
  subst he
  exact ⟨_, rfl, _, _, _, [], _, [], hW', trodAll_mk1 (shut_bool Try.underlying4 _), (trodAll_cons_mk (Below.trod laidOut (by kernel_rfl) (of_decide_eq_true (by kernel_rfl)) k0 bel lt0) (trodAll_cons_mk (Below.trod laidOut (by kernel_rfl) (of_decide_eq_true (by kernel_rfl)) k1 bel lt1) (trodAll_cons_mk (Below.trod laidOut (by kernel_rfl) (of_decide_eq_true (by kernel_rfl)) k2 bel lt2) trodAll_mk0))), rfl, bel.frame _, fun h => by cases h⟩

theorem over : Rows.varintPutsRow.holds Try.pinned (OpenSpec.ofChange Rows.varintPutsSpec) :=
  OpenClaim.holds_of_wide 7 Try.f7 rfl rfl rfl rfl rfl rfl rfl ⟨rfl, rfl, rfl, rfl, rfl⟩ rfl rfl rfl rfl rfl (by kernel_rfl) Try.func7 (by kernel_rfl)
    (of_decide_eq_true (by kernel_rfl)) (by unfold Func.isWrapper; first | (rw [if_pos (by decide +kernel)]; kernel_rfl) | (rw [if_neg (by decide +kernel)]; exact ⟨rfl, rfl⟩))
    (fun os started H enc _ => lifted os started H enc)

theorem proved : Rows.VarintPutsSaid := over
#print axioms proved
end Go.Proofs.Yteakeefocnjlhaa.varintPuts
