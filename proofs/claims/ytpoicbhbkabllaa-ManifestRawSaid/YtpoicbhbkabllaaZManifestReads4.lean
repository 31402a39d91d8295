/- The law 'ManifestReads' returns true for every input, and each argument reads behind the call as it read before. No condition. -/
import Derived.Test.YtpoicbhbkabllaaZManifestReads3
import Derived.BigQuiet
import Derived.Test.YtpoicbhbkabllaaRows
import Derived.WalkKit
import Derived.ProofKit
import Derived.OpenShut
import Derived.ShutString
import Derived.ChangeOld
import Derived.Below
namespace Go.Proofs.Ytpoicbhbkabllaa
set_option linter.unusedSimpArgs false
set_option linter.unusedVariables false
open Go.RowKit

theorem u32_small (n : Nat) (h : n ≤ 4294967295) : IntKind.u32.wrap (n : Int) = ((UInt32.ofNat n).toNat : Int) := by
  rw [IntKind.wrap_u32', UInt32.toNat_ofNat']
  omega
theorem BoxAt.drewq {T : TypeId} {w : World} {g : Nat} {cs : List Value} (h : BoxAt T w g cs) : BoxAt T w.drew g cs := h
theorem BoxAt.ofAlloc {T : TypeId} {w : World} {g : Nat} {cs : List Value} {o : Obj} (h : BoxAt T (w.alloc o) g cs) (hg : g < w.heap.size) : BoxAt T w g cs := (heap_alloc_old w o hg).symm.trans h
theorem run_slice_file (w : World) (f : MFile) (v : Value) (hv : v.oneCell' = true) : (Instr.buildSlice 54 1 #[(0, .agg (encF f v).toArray)]).run Try.prog w =
    .ok (.slice (some ⟨w.heap.size, 0, none⟩) 1 1) (w.alloc (.cells (encF f v).toArray 62)) := by
  obtain ⟨it, hit, hz0, hz1, hby⟩ := info_parts info_file
  refine run_buildSlice w _ _ 1 _ _ it _ Try.underlying54 hit hz0 (by rw [hz1]; decide) (by rw [hz1]; decide) ?_
  rw [hz1]
  exact fill_whole 4 _ _ (by first | rfl | simp [zeroFc]) (by first | rfl | simp [encF])
theorem bytesS_len' (n : Int) (s : List UInt8) (e : Int) : (bytesS n s e).2.1.length ≤ s.length ∧ ((bytesS n s e).1.length : Int) ≤ max n 0 := by
  unfold bytesS
  repeat' split
  all_goals simp
  all_goals omega
set_option maxRecDepth 100000 in
set_option maxHeartbeats 6400000 in
theorem mread_any (w : World) (v : Value) (l0 : List UInt8) (hby : By w w.heap.size v l0) (hl : l0.length ≤ 1073741824) :
    Calls Try.prog 59 #[v] w fun ev w' => ∃ v', ev = .returned (.tuple #[v', .int .i64 (endE (rm4 l0).2.1 (rm4 l0).2.2)]) ∧ MIn w' w.heap.size v' (rmanP l0) ∧ Below w.heap.size w w' := by
  obtain ⟨A, c, rfl, hc1, hc2, hrd0⟩ := id hby
  unfold maxLen at hc2
  obtain ⟨w0, hw0⟩ : ∃ w0, w0 = w.alloc (.cells zeroMc.toArray 56) := ⟨_, rfl⟩
  have hb0 : Below w.heap.size w w0 := by rw [hw0]; exact balloc w _
  have hres0 : BoxAt 56 w0 w.heap.size zeroMc := by rw [hw0]; exact BoxAt.new_ _ _ _
  have hz0 : w0.heap.size = w.heap.size + 1 := by rw [hw0]; simp
  have Hw0 := Lib.hid hw0
  have Hby := Lib.hid ((hby.below hb0).more hb0.size)
  have Hb0 := Lib.hid hb0
  have Hres0 := Lib.hid hres0
  have h1 := numS_lt 18446744073709551615 l0 0
  have h1' := numS_len 18446744073709551615 l0 0
  have e1 : numS 18446744073709551615 l0 0 = rm1 l0 := rfl
  rw [e1] at h1 h1'
  have h2 := numS_lt 4294967295 (rm1 l0).2.1 (rm1 l0).2.2
  have h2' := numS_len 4294967295 (rm1 l0).2.1 (rm1 l0).2.2
  have e2 : numS 4294967295 (rm1 l0).2.1 (rm1 l0).2.2 = rm2 l0 := rfl
  rw [e2] at h2 h2'
  have h3 := numS_lt 2048 (rm2 l0).2.1 (rm2 l0).2.2
  have h3' := numS_len 2048 (rm2 l0).2.1 (rm2 l0).2.2
  have e3 : numS 2048 (rm2 l0).2.1 (rm2 l0).2.2 = rm3 l0 := rfl
  rw [e3] at h3 h3'
  have E1 := Lib.hid e1
  have E2 := Lib.hid e2
  have E3 := Lib.hid e3
  have e4 : rfilesP (rm3 l0).1 [] (rm3 l0).2.1 (rm3 l0).2.2 = rm4 l0 := rfl
  have e5 : rmanP l0 = ⟨UInt64.ofNat (rm1 l0).1, UInt32.ofNat (rm2 l0).1, (rm4 l0).1⟩ := rfl
  have hu1 : ((UInt64.ofNat (rm1 l0).1).toNat : Int) = ((rm1 l0).1 : Int) := by rw [UInt64.toNat_ofNat']; omega
  have hu2 := u32_small (rm2 l0).1 h2.2
  obtain ⟨ver, hver⟩ : ∃ ver, ver = UInt64.ofNat (rm1 l0).1 := ⟨_, rfl⟩
  obtain ⟨next, hnext⟩ : ∃ next, next = UInt32.ofNat (rm2 l0).1 := ⟨_, rfl⟩
  rw [← hver] at hu1 e5
  rw [← hnext] at hu2 e5
  have E4 := Lib.hid e4
  have E5 := Lib.hid e5
  clear hw0 hb0 hres0 hby hrd0 e1 e2 e3 e4 e5 hver hnext
  go_enter Try.func59, Try.ntmps59
  go_upto_region 1 with (first
    | (refine wpList_alloc_z rfl 56 rfl info_manz zeroMc zeroM_cells ?_))
  try simp only [Act.put, List.setIfInBounds_toArray, List.set_cons_zero, List.set_cons_succ]
  rw [← Hw0.out]
  go_wp2_with fail
  refine (vnew_any w0 A l0.length c).mono ?_
  rintro _ w1 ⟨rfl, hw1⟩
  have hrd1 := RdrAt.new_ Hby.out
  rw [← hw1, hz0] at hrd1
  have hb1 : Below w0.heap.size w0 w1 := by rw [hw1]; exact balloc _ _
  have Hrd1 := Lib.hid hrd1
  have Hb1 := Lib.hid (bstep Hb0.out hb1)
  have Hres1 := Lib.hid (Hres0.out.blwM hb1)
  have hz1 : w1.heap.size = w.heap.size + 1 + 1 := by rw [hw1]; simp [hz0]
  clear hw1 hb1 hrd1 Hres0 Hby
  rw [hz0]
  obtain ⟨gr, hgr⟩ : ∃ gr, gr = w.heap.size + 1 := ⟨_, rfl⟩
  rw [← hgr]
  rw [← hgr] at Hrd1
  have Hgr := Lib.hid hgr
  clear hgr
  have h18 : (((18446744073709551615 : Nat) : Int)) = 18446744073709551615 := rfl
  have hn1 := vnum_any w1 gr l0 0 18446744073709551615 (by decide) Hrd1.out
  rw [E1.out, h18] at hn1
  have Hn1 := Lib.hid hn1
  clear hn1 h18
  go_wp2_with fail
  refine Hn1.out.mono ?_
  rintro _ w2 ⟨rfl, hr2, hg2⟩
  have hs2 := hg2.size
  have Hg2 := Lib.hid hg2
  have hn2 := vnum_any w2 gr _ _ 4294967295 (by decide) hr2
  rw [E2.out, show (((4294967295 : Nat) : Int)) = 4294967295 from rfl] at hn2
  have Hn2 := Lib.hid hn2
  clear hn2 hr2 hg2
  generalize (rm1 l0).1 = n1 at *
  go_wp2_with fail
  refine Hn2.out.mono ?_
  rintro _ w3 ⟨rfl, hr3, hg3⟩
  have hs3 := hg3.size
  have hs32 := hs3
  have Hg3 := Lib.hid hg3
  have Hr3 := Lib.hid hr3
  clear hr3 hg3
  generalize (rm2 l0).1 = n2 at *
  obtain ⟨n1x, hn1x⟩ : ∃ n1x, n1x = (.int .u64 (ver.toNat : Int) : Value) := ⟨_, rfl⟩
  rw [hu1] at hn1x
  have Hn1x := Lib.hid hn1x
  have Hu1 := Lib.hid hu1
  have hone : ∀ u ∈ [Value.int .u64 (n1 : Int), .int .u32 (next.toNat : Int), .slice none 0 0], u.oneCell' = true := fun u hu => by
    simp at hu
    rcases hu with rfl | rfl | rfl <;> rfl
  have Hone := Lib.hid hone
  clear hn1x hu1 hone
  go_upto_region 3 with (first
    | (refine wpList_alloc_z rfl 56 rfl info_manz zeroMc zeroM_cells ?_)
    | (refine wpList_store_new rfl 56 (.tmp 5) (.tmp 15) rfl zeroMc [.int .u64 (n1 : Int), .int .u32 (next.toNat : Int), .slice none 0 0] rfl rfl info_man3 rfl Hone.out ?_))
  try simp only [Act.put, List.setIfInBounds_toArray, List.set_cons_zero, List.set_cons_succ]
  obtain ⟨gm, hgm⟩ : ∃ gm, gm = w3.heap.size := ⟨_, rfl⟩
  obtain ⟨w4, hw4⟩ : ∃ w4, w4 = w3.alloc (.cells (encM ⟨ver, next, []⟩ (.slice none 0 0)).toArray 56) := ⟨_, rfl⟩
  have hw4' : w4 = w3.alloc (.cells [Value.int .u64 (n1 : Int), .int .u32 (next.toNat : Int), .slice none 0 0].toArray 56) := by rw [hw4]; unfold encM; rw [Hu1.out]
  rw [← hw4', ← hgm]
  have hb4 : Below w3.heap.size w3 w4 := by rw [hw4]; exact balloc _ _
  have hbx4 : BoxAt 56 w4 gm (encM ⟨ver, next, []⟩ (.slice none 0 0)) := by rw [hw4, hgm]; exact BoxAt.new_ _ _ _
  have hgrl : gr < gm := by rw [hgm]; have := Hgr.out; omega
  have hz4 : w4.heap.size = gm + 1 := by rw [hw4, hgm]; simp
  have hgr3 : w1.grownBy w3 (some gr) := gtrans Hg2.out Hg3.out
  have hb13 : Below w.heap.size w w3 := Hb1.out.grown hgr3 (by omega) (fun k hk => by injection hk with hk; have := Hgr.out; omega)
  have hrd4 := Hr3.out.below (hgm ▸ hgrl) hb4
  have hres4 : BoxAt 56 w4 w.heap.size zeroMc := (Hres1.out.grown hgr3 (fun e => by injection e with e; have := Hgr.out; omega)).blwM hb4
  have hblw4 : Below w.heap.size w w4 := hb13.trans (hb4.mono (by omega))
  have hmp4 : MP gm w4.heap.size ⟨ver, next, []⟩ w4 := ⟨_, fun _ => False, hbx4, OwnF.nil_ _ _, fun k hk => hk.elim, fun k hk => by simp [Value.ownBlock] at hk⟩
  have hn3 := vnum_any w4 gr _ _ 2048 (by decide) hrd4
  rw [E3.out, show (((2048 : Nat) : Int)) = 2048 from rfl] at hn3
  have Hn3 := Lib.hid hn3
  have Hres4 := Lib.hid hres4
  have Hblw4 := Lib.hid hblw4
  have Hmp4 := Lib.hid hmp4
  have Hgm := Lib.hid hgm
  clear hw4 hw4' hb4 hbx4 hgr3 hb13 hrd4 hres4 hblw4 hmp4 hn3 hgm Hone Hn1x Hu1 hu2
  go_wp2_with fail
  refine Hn3.out.mono ?_
  rintro _ w5 ⟨rfl, hr5, hg5⟩
  have hs5 := hg5.size
  have Hg5 := Lib.hid hg5
  have Hr5 := Lib.hid hr5
  clear hr5 hg5
  generalize hq3 : (rm3 l0).1 = n3 at *
  have Hgrw := Hgr
  have hgw : w.heap.size < gr := by have := Hgr.out; omega
  go_wp2_with fail
  go_loopw [6] (fun nv W => ∃ (n : Nat) (acc : List MFile) (l : List UInt8) (e : Int), nv = .int .u64 (n : Int) ∧ acc.length + n ≤ 2048 ∧ l.length ≤ l0.length ∧ RdrAt W gr l e ∧ MP gm W.heap.size ⟨ver, next, acc⟩ W ∧
    BoxAt 56 W w.heap.size zeroMc ∧ Below w.heap.size w W ∧ gm < W.heap.size ∧ rfilesP n acc l e = rm4 l0) (fun n _ => (intOf n).toNat)
  case atStart => exact ⟨n3, [], _, _, rfl, by simp; omega, by omega, Hr5.out, ((Hmp4.out.keep (P := fun k => k = gr) (Chg.ofGrown Hg5.out fun k e => by injection e with e; exact e.symm) (fun k hk => by omega) (by omega)).more (by omega)),
    Hres4.out.grown Hg5.out (fun e => by injection e with e; omega), Hblw4.out.grown Hg5.out (by omega) (fun k hk => by injection hk with hk; omega), by omega, E4.out⟩
  case round =>
    obtain ⟨n, acc, l, e, rfl, hnl, hll, hrd, hmp, hres, hblw, hgw2, hR⟩ := hrel
    have Hrd := Lib.hid hrd
    have Hmp := Lib.hid hmp
    have Hres := Lib.hid hres
    have Hblw := Lib.hid hblw
    clear hrd hmp hres hblw
    clear Hg2 Hg3 Hr3 Hn3 Hres4 Hblw4 Hmp4 Hr5 Hg5 hs2 hs3 hs5
    rcases Nat.eq_zero_or_pos n with hn0 | hn0
    · subst hn0
      have hR' : (acc, l, e) = rm4 l0 := hR
      have HR := Lib.hid hR'
      clear hR hR'
      obtain ⟨vf, S, hbx, hown, hS1, hS2⟩ := Hmp.out
      obtain ⟨mm, hmm⟩ : ∃ mm : MMan, mm = ⟨ver, next, acc⟩ := ⟨_, rfl⟩
      rw [← hmm] at hbx hown
      have Hmm := Lib.hid hmm
      have Hbx := Lib.hid hbx
      have Hown := Lib.hid hown
      have HS := Lib.hid hS1
      obtain ⟨Af, cf, hvf, hcf1, hcf2⟩ := hown.rowAll.form
      subst hvf
      clear hmm hbx hown hS1 hS2
      go_wp2_with fail
      refine wp_region_tail (ds := [65, 66, 67]) 3 [some 65, some 66, some 67]
        [Ph.is (.agg (encM mm (.slice Af mm.files.length cf)).toArray),
          Ph.is (.pointer (some ⟨gr, 0, none⟩)),
          Ph.is (.int .i64 (endE l e))] rfl rfl (by kernel_rfl) (by kernel_rfl) (by kernel_rfl) ?_ ?_
      · refine ⟨?_, ?_, ?_, trivial⟩
        · -- 0: slot 65 := Op.load 56 t5
          refine ob_yes fun f w' hb hp => ?_
          simp [PreOf, factOf, valOf, Ph.is, Ph.by_, Ph.any, Region.binds] at hp
          refine ⟨by simp [Gd, valOf, hp], ?_⟩
          refine mild_val (.agg (encM mm (.slice Af mm.files.length cf)).toArray) ?_ rfl
          have hr := run_loadVar_cells w' ⟨gm, 0, none⟩ 56 (encM mm (.slice Af mm.files.length cf)) (Hbx.out.blwM hb).cells Try.underlying56 rfl info_man3
          simp [execOp, evalF, hp, Instr.loadAt, Instr.sureAddr, hr]
        · -- 1: slot 66 := Op.move t4
          refine ob_yes fun f w' hb hp => ?_
          simp [PreOf, factOf, valOf, Ph.is, Ph.by_, Ph.any, Region.binds] at hp
          refine ⟨by simp [Gd, valOf, hp], ?_⟩
          refine mild_val (.pointer (some ⟨gr, 0, none⟩)) ?_ rfl
          simp [execOp, evalF, hp]
        · -- 2: slot 67 := Op.call   value (Operand.func 87), args := #[t66], argTypes := #[141]  
          refine ob_yes fun f w' hb hp => ?_
          simp [PreOf, factOf, valOf, Ph.is, Ph.by_, Ph.any, Region.binds] at hp
          refine ⟨by simp [Gd, valOf, hp], ?_⟩
          refine mild_call 87 _ _ Try.f87 Try.func87 (by kernel_rfl) (by kernel_rfl) rfl ?_
          simp [evalF, hp, Ph.is, Ph.by_, Ph.any]
          refine (vend_any w' gr l e (Hrd.out.below Hrd.out.lt hb)).mono fun ev w2 h => ?_
          obtain ⟨rfl, rfl⟩ := h
          first | exact ⟨_, rfl, Below.refl _ _, rfl⟩ | exact ⟨rfl, Below.refl _ _⟩ | exact Below.refl _ _ | simpa using Below.refl _ _
      · intro f w2 hb2 hp
        simp only [PostOf, Ph.is, Ph.by_, Ph.any] at hp
        obtain ⟨h0, h1, h2, _⟩ := hp
        simp only [fills, List.foldl_cons, List.foldl_nil, Act.put, List.setIfInBounds_toArray, List.set_cons_zero, List.set_cons_succ, h0, h1, h2]
        clear h0 h1 h2
        simp only [List.drop_succ_cons, List.drop_zero]
        have hres := Hres.out.blwM hb2
        have Hres2 := Lib.hid hres
        have Hown2 := Lib.hid (Hown.out.below_ hb2)
        have Hblw2 := Lib.hid (Hblw.out.trans (hb2.mono (by have := Hblw.out.size; omega)))
        clear hres hb2
        go_wp2_with (refine wpList_store_box rfl 56 56 (.tmp 2) (.tmp 65) rfl w.heap.size zeroMc (encM mm (.slice Af mm.files.length cf)) rfl rfl Hres2.out rfl (encM_one _ _ rfl) info_man3 ?_; intro hend)
        have hg2 : w.heap.size < w2.heap.size := Hres2.out.lt
        have hchg : Chg (fun k => k = w.heap.size) w2 (w2.setRow w.heap.size (encM mm (.slice Af mm.files.length cf)).toArray) := Chg.ofGrown (gsetRow' _ _ _) fun k e => by injection e with e; exact e.symm
        have hof := (Hown2.out.chg hchg (fun k hk e => by have := (Hown2.out.blk k hk).1; omega) (fun k hk e => by have := (HS.out k hk).1; omega))
        have hbl := Hblw2.out.trans (hchg.below (B := w.heap.size) (by omega) (fun k hk => by omega))
        refine bodyPost_ret (results_ct rfl _ _ w.heap.size (encM mm (.slice Af mm.files.length cf)) rfl (fun j v hj => (hend.cells j v hj : _)) Try.underlying56 rfl info_man3) rfl ?_
        have hrow := hof.row
        have hS4 : ∀ k, S k → k < (w2.setRow w.heap.size (encM mm (.slice Af mm.files.length cf)).toArray).heap.size := by obtain ⟨_, _, _, _, h4⟩ := hof; exact fun k hk => (h4 k hk).1
        have hin := hrow.mono (O' := fun k => w.heap.size ≤ k ∧ k < (w2.setRow w.heap.size (encM mm (.slice Af mm.files.length cf)).toArray).heap.size) (S' := fun k => w.heap.size ≤ k ∧ k < (w2.setRow w.heap.size (encM mm (.slice Af mm.files.length cf)).toArray).heap.size) (fun k hk => ⟨by omega, hk.2⟩) (fun k hk => ⟨by have := (HS.out k hk).1; omega, hS4 k hk⟩)
        rw [E5.out, ← HR.out]
        obtain rfl := Hmm.out
        exact ⟨_, rfl, ⟨_, rfl, hin⟩, hbl⟩
    · obtain ⟨m, rfl⟩ : ∃ m, n = m + 1 := ⟨n - 1, by omega⟩
      go_wp2_with fail
      refine (verr_any wr gr l e Hrd.out).mono ?_
      rintro _ _ ⟨rfl, rfl⟩
      by_cases he : e = 0
      · subst he
        have hR2 : rfilesP m (acc ++ [(rfileP l 0).1]) (rfileP l 0).2.1 (rfileP l 0).2.2 = rm4 l0 := hR
        have HR := Lib.hid hR2
        clear hR hR2
        have f1 := numS_lt 32 l 0
        have f1' := numS_len 32 l 0
        have g1 : numS 32 l 0 = rf1 l 0 := rfl
        rw [g1] at f1 f1'
        have f2' := bytesS_len' ((rf1 l 0).1 : Int) (rf1 l 0).2.1 (rf1 l 0).2.2
        have g2 : bytesS ((rf1 l 0).1 : Int) (rf1 l 0).2.1 (rf1 l 0).2.2 = rf2 l 0 := rfl
        rw [g2] at f2'
        have f3 := numS_lt 4294967295 (rf2 l 0).2.1 (rf2 l 0).2.2
        have f3' := numS_len 4294967295 (rf2 l 0).2.1 (rf2 l 0).2.2
        have g3 : numS 4294967295 (rf2 l 0).2.1 (rf2 l 0).2.2 = rf3 l 0 := rfl
        rw [g3] at f3 f3'
        have f4 := numS_lt 7340032 (rf3 l 0).2.1 (rf3 l 0).2.2
        have f4' := numS_len 7340032 (rf3 l 0).2.1 (rf3 l 0).2.2
        have g4 : numS 7340032 (rf3 l 0).2.1 (rf3 l 0).2.2 = rf4 l 0 := rfl
        rw [g4] at f4 f4'
        have g5 : rblk (manyOf ((rf4 l 0).1 : Int)).toNat [] (rf4 l 0).2.1 (rf4 l 0).2.2 = rf5 l 0 := rfl
        have g6 : rfileP l 0 = (⟨(rf2 l 0).1, UInt32.ofNat (rf3 l 0).1, ((rf4 l 0).1 : Int), (rf5 l 0).1⟩, (rf5 l 0).2.1, (rf5 l 0).2.2) := rfl
        have G1 := Lib.hid g1
        have G2 := Lib.hid g2
        have G3 := Lib.hid g3
        have G4 := Lib.hid g4
        have G5 := Lib.hid g5
        have G6 := Lib.hid g6
        have hu3 := u32_small (rf3 l 0).1 f3.2
        have hw1 : IntKind.i64.wrap ((rf1 l 0).1 : Int) = ((rf1 l 0).1 : Int) := by rw [wrap_i64]; omega
        have hw4 : IntKind.i64.wrap ((rf4 l 0).1 : Int) = ((rf4 l 0).1 : Int) := by rw [wrap_i64]; omega
        have hm4 := manyOf_le (rf4 l 0).1 f4.2
        have hm5 := manyOf_nat (rf4 l 0).1
        obtain ⟨idf, hidf⟩ : ∃ idf, idf = UInt32.ofNat (rf3 l 0).1 := ⟨_, rfl⟩
        rw [← hidf] at hu3
        have Hidf := Lib.hid hidf
        clear g1 g2 g3 g4 g5 g6 hidf
        have hv1 := vnum_any wr gr l 0 32 (by decide) Hrd.out
        rw [G1.out, show (((32 : Nat) : Int)) = 32 from rfl] at hv1
        have Hv1 := Lib.hid hv1
        have Hm5 := Lib.hid hm5
        clear hv1 hm5
        go_wp2_with fail
        refine Hv1.out.mono ?_
        rintro _ w1' ⟨rfl, hr1, hg1⟩
        have hk1 := hg1.size
        have hv2 := vbytes_any w1' gr _ _ ((rf1 l 0).1 : Int) (by omega) (by omega) hr1
        rw [G2.out] at hv2
        have Hv2 := Lib.hid hv2
        have Hk1 := Lib.hid hg1
        clear hv2 hr1 hg1 Hv1
        go_wp2_with fail
        refine Hv2.out.mono ?_
        rintro _ w2' ⟨vnm, rfl, hon, hr2, hg2⟩
        have hk2 := hg2.size
        have hcv := conv8 hon.by_
        have Hk2 := Lib.hid (gtrans Hk1.out hg2)
        have Hr2 := Lib.hid hr2
        clear hr2 hg2 Hv2 Hk1 hon
        have hone : ∀ u ∈ encF ⟨(rf2 l 0).1, 0, 0, []⟩ (.slice none 0 0), u.oneCell' = true := encF_one _ _ rfl
        have Hone := Lib.hid hone
        clear hone
        go_upto_region 7 with (first
          | (refine wpList_alloc_z rfl 62 rfl info_file zeroFc zeroF_cells ?_)
          | (refine wpList_store_new rfl 62 (.tmp 7) (.tmp 33) rfl zeroFc (encF ⟨(rf2 l 0).1, 0, 0, []⟩ (.slice none 0 0)) rfl rfl info_file4 rfl Hone.out ?_))
        try simp only [Act.put, List.setIfInBounds_toArray, List.set_cons_zero, List.set_cons_succ]
        obtain ⟨gf, hgf⟩ : ∃ gf, gf = w2'.heap.size := ⟨_, rfl⟩
        obtain ⟨w3', hw3⟩ : ∃ w3', w3' = w2'.alloc (.cells (encF ⟨(rf2 l 0).1, 0, 0, []⟩ (.slice none 0 0)).toArray 62) := ⟨_, rfl⟩
        rw [← hw3, ← hgf]
        have hb3 : Below w2'.heap.size w2' w3' := by rw [hw3]; exact balloc _ _
        have hbx3 : BoxAt 62 w3' gf (encF ⟨(rf2 l 0).1, 0, 0, []⟩ (.slice none 0 0)) := by rw [hw3, hgf]; exact BoxAt.new_ _ _ _
        have hz3 : w3'.heap.size = gf + 1 := by rw [hw3, hgf]; simp
        have hgfm : gm < gf := by omega
        have hfp3 : FP gf ⟨(rf2 l 0).1, 0, 0, []⟩ w3' := ⟨_, hbx3, OwnF.nil_ _ _⟩
        have hch3 : Chg (fun k => k = gr) wr w3' := (Chg.ofGrown Hk2.out fun k e => by injection e with e; exact e.symm).trans (Chg.ofBelow hb3)
        have hrd3 := Hr2.out.below (B := w2'.heap.size) (by omega) hb3
        have hv3 := vnum_any w3' gr _ _ 4294967295 (by decide) hrd3
        rw [G3.out, show (((4294967295 : Nat) : Int)) = 4294967295 from rfl] at hv3
        have Hv3 := Lib.hid hv3
        have Hfp3 := Lib.hid hfp3
        have Hch3 := Lib.hid hch3
        have Hgf := Lib.hid hgf
        clear hw3 hb3 hbx3 hfp3 hch3 hrd3 hv3 hgf Hk2 Hr2 Hone
        go_wp2_with fail
        refine Hv3.out.mono ?_
        rintro _ w4' ⟨rfl, hr4, hg4⟩
        have hk4 := hg4.size
        have hv4 := vnum_any w4' gr _ _ 7340032 (by decide) hr4
        rw [G4.out, show (((7340032 : Nat) : Int)) = 7340032 from rfl] at hv4
        have Hv4 := Lib.hid hv4
        have Hk4 := Lib.hid hg4
        clear hv4 hr4 hg4 Hv3
        go_wp2_with fail
        refine Hv4.out.mono ?_
        rintro _ w5' ⟨rfl, hr5, hg5⟩
        have hk5 := hg5.size
        have hch5 : Chg (fun k => k = gr) w3' w5' := Chg.ofGrown (gtrans Hk4.out hg5) fun k e => by injection e with e; exact e.symm
        have hfp5 := Hfp3.out.keep hch5 (fun k hk => by omega)
        have Hch5 := Lib.hid (Hch3.out.trans hch5)
        have Hr5' := Lib.hid hr5
        obtain ⟨vb, hbx5, hob5⟩ := hfp5
        have q1 := hbx5.cell 1 _ rfl
        have q2 := hbx5.cell 2 _ rfl
        have fr1 := hbx5.frozen 1
        have hbx6 := hbx5.put 1 (.int .u32 (idf.toNat : Int))
        have fr2 := hbx6.frozen 2
        have q3 := hbx6.cell 2 _ rfl
        have hbx7 := hbx6.put 2 (.int .i64 ((rf4 l 0).1 : Int))
        have Hbx7 := Lib.hid hbx7
        have Hob5 := Lib.hid hob5
        clear hr5 hg5 Hv4 Hk4 Hfp3 Hch3 hch5 hbx5 hbx6 hbx7 hob5
        go_upto_region 8 with fail
        obtain ⟨w6', hw6⟩ : ∃ w6', w6' = (w5'.setCell { block := gf, off := 1 } (.int .u32 (idf.toNat : Int))).setCell { block := gf, off := 2 } (.int .i64 ((rf4 l 0).1 : Int)) := ⟨_, rfl⟩
        rw [← hw6]
        rw [← hw6] at Hbx7
        have hgfr : wr.heap.size ≤ gf := by have := Hgf.out; omega
        have hch56 : Chg (fun k => k = gf) w5' w6' := by rw [hw6]; exact (Chg.set (P := fun k => k = gf) _ _ _ rfl).trans (Chg.set (P := fun k => k = gf) _ _ _ rfl)
        have hch6 : Chg (fun k => k = gr) wr w6' := Hch5.out.past hch56 (fun i hi => .inl (by omega))
        have hz6 : gf < w6'.heap.size := by rw [hw6]; simp [World.setCell]; omega
        have hfp6 : FP gf ⟨(rf2 l 0).1, idf, ((rf4 l 0).1 : Int), []⟩ w6' := ⟨vb, Hbx7.out, Hob5.out.chg hch56 (fun k hk e => by have := (Hob5.out.blk k hk).1; omega) (fun _ h => h.elim)⟩
        have hgr5 : RdrAt w6' gr (rf4 l 0).2.1 (rf4 l 0).2.2 := Hr5'.out.below (B := gf) (by omega) (hch56.below (by omega) (fun k hk => by omega))
        have hmp6 := (Hmp.out.keep hch6 (fun k hk => by omega) (by omega)).more hgfr
        have hres6 := Hres.out.chg hch6 (fun e => by omega)
        have hblw6 := Hblw.out.trans (hch6.below (B := w.heap.size) (by have := Hblw.out.size; omega) (fun k hk => by omega))
        have q4 := hfp6
        have hc6 : w6'.cell? { block := gf, off := 2 } = some (.int .i64 ((rf4 l 0).1 : Int)) := Hbx7.out.cell 2 _ rfl
        have Hfp6 := Lib.hid hfp6
        have Hrd6 := Lib.hid hgr5
        have Hmp6 := Lib.hid hmp6
        have Hres6 := Lib.hid hres6
        have Hblw6 := Lib.hid hblw6
        clear hw6 hch56 hch6 hfp6 hgr5 hmp6 hres6 hblw6 q4 Hbx7 Hob5 Hr5' Hch5 Hmp Hres Hblw Hrd q1 q2 fr1 fr2 q3 hcv
        generalize hnm : (rf2 l 0).1 = nm at *
        generalize hsz4 : (rf4 l 0).1 = sz at *
        go_wp2_with fail
        refine (many_any w6' (sz : Int) (by omega) (by omega)).mono ?_
        rintro _ _ ⟨rfl, rfl⟩
        rw [Hm5.out]
        generalize hNB : (manyOf (sz : Int)).toNat = NB at *
        have HG5 := Lib.hid G5.out
        go_wp2_with fail
        go_loopw [45] (fun iv X => ∃ (j : Nat) (bl : List Int) (l' : List UInt8) (e' : Int), iv = .int .i64 (j : Int) ∧ j ≤ NB ∧ bl.length ≤ j ∧ l'.length ≤ l0.length ∧ RdrAt X gr l' e' ∧ FP gf ⟨nm, idf, (sz : Int), bl⟩ X ∧ MP gm gf ⟨ver, next, acc⟩ X ∧
          BoxAt 56 X w.heap.size zeroMc ∧ Below w.heap.size w X ∧ gf < X.heap.size ∧ rblk (NB - j) bl l' e' = rf5 l 0) (fun i _ => NB - (intOf i).toNat)
        case atStart => exact ⟨0, [], _, _, rfl, by omega, by simp, by omega, Hrd6.out, Hfp6.out, Hmp6.out, Hres6.out, Hblw6.out, hz6, HG5.out⟩
        case round =>
          obtain ⟨j, bl, l', e', rfl, hj, hbl, hll', hrd, hfp, hmp, hres, hblw, hzX, hrb⟩ := hrel
          have Hrd := Lib.hid hrd
          have Hfp := Lib.hid hfp
          have Hmp := Lib.hid hmp
          have Hres := Lib.hid hres
          have Hblw := Lib.hid hblw
          clear hrd hfp hmp hres hblw Hfp6 Hrd6 Hmp6 Hres6 Hblw6 hz6 hc6
          by_cases hjn : j < NB
          · obtain ⟨r, hr⟩ : ∃ r, NB - j = r + 1 := ⟨NB - j - 1, by omega⟩
            rw [hr] at hrb
            have hr' : NB - (j + 1) = r := by omega
            have Hr' := Lib.hid hr'
            clear hr hr'
            go_wp2_with fail
            refine (verr_any wr gr l' e' Hrd.out).mono ?_
            rintro _ _ ⟨rfl, rfl⟩
            by_cases he' : e' = 0
            · subst he'
              have hrb2 : rblk r (bl ++ [((numS 65536 l' 0).1 : Int)]) (numS 65536 l' 0).2.1 (numS 65536 l' 0).2.2 = rf5 l 0 := hrb
              rw [← Hr'.out] at hrb2
              have hx := numS_lt 65536 l' 0
              have hx' := numS_len 65536 l' 0
              obtain ⟨vb, hbf, hob⟩ := Hfp.out
              obtain ⟨f0, hf0⟩ : ∃ f0 : MFile, f0 = ⟨nm, idf, (sz : Int), bl⟩ := ⟨_, rfl⟩
              rw [← hf0] at hbf
              have hvn := vnum_any wr.drew gr l' 0 65536 (by decide) (Hrd.out.below Hrd.out.lt (Below.refl _ _).drew)
              rw [show (((65536 : Nat) : Int)) = 65536 from rfl] at hvn
              generalize hqN : numS 65536 l' 0 = NS at *
              obtain ⟨x, lx, ex⟩ := NS
              simp only at hx hx' hrb2 hvn
              have hwx : IntKind.i64.wrap (x : Int) = (x : Int) := by rw [wrap_i64]; omega
              obtain ⟨X, hX⟩ : ∃ X, X = wr := ⟨_, rfl⟩
              obtain ⟨Post, hPost⟩ : ∃ Q : World → Prop, Q = fun W9 => RdrAt W9 gr lx ex ∧ wr.drew.grownBy W9 (some gr) := ⟨_, rfl⟩
              have hvn2 : Calls Try.prog 83 #[.pointer (some ⟨gr, 0, none⟩), .int .u64 65536] X.drew fun ev w' => ev = .returned (.int .u64 (x : Int)) ∧ Post w' ∧ X.drew.grownBy w' (some gr) := by
                rw [hX, hPost]
                exact hvn.mono fun ev w' h => ⟨h.1, ⟨h.2.1, h.2.2⟩, h.2.2⟩
              have hps : ∀ W9, Post W9 → OwnF 3 cInt W9 (gf + 1) vb bl ∧ gf < W9.heap.size := fun W9 h => by
                rw [hPost] at h
                exact ⟨(hob.below_ (Below.refl _ _).drew).keep h.2 (by
                  cases hv : vb.ownBlock with
                  | none => exact .inl rfl
                  | some q => exact .inr fun e => by injection e with e; have := (hob.blk q hv).1; omega) (fun _ h => h.elim), Nat.lt_of_lt_of_le hzX h.2.size⟩
              have Hbf := Lib.hid (hX ▸ hbf : BoxAt 62 X gf (encF f0 vb))
              have Hob := Lib.hid hob
              have Hvn := Lib.hid hvn2
              have HPost := Lib.hid hps
              have HP := Lib.hid hPost
              have Hrb2 := Lib.hid hrb2
              have Hf0 := Lib.hid hf0
              have HX := Lib.hid hX
              clear hrb hbf hob hvn hvn2 hps hPost hrb2 hf0 hqN hX
              go_wp2_with fail
              rw [← HX.out]
              refine wp_region_mixL (ds := [50, 51, 52, 53, 54, 55, 56, 57]) 8 (fun bb vs W' => BoxAt 62 W' gf (encF f0 vb) ∧ (bb 4 = true → bb 3 = true) ∧ (bb 5 = true → bb 4 = true) ∧ (bb 6 = true → bb 5 = true) ∧ (bb 3 = false → W' = X.drew) ∧ (bb 3 = true → bb 5 = false → Post W') ∧ (bb 5 = true → bb 6 = false → ∃ W9, Post W9 ∧ W' = W9.alloc (.cells #[.int .i64 (x : Int)] 3) ∧ vs 5 = .slice (some ⟨W9.heap.size, 0, none⟩) 1 1) ∧ (bb 6 = true → ∃ W9, Post W9 ∧ OwnF 3 cInt W' (gf + 1) (vs 6) (bl ++ [(x : Int)]) ∧ Ext W9 W' vb (vs 6))) [some 50, some 51, some 52, some 53, some 54, some 55, some 56, some 57]
                [fun v => v = .pointer (some ⟨gf, 3, none⟩), fun v => v = vb, fun v => v = .pointer (some ⟨gr, 0, none⟩), fun v => v = .int .u64 (x : Int), fun v => v = .int .i64 (x : Int), fun _ => True, fun _ => True, fun v => v = .pointer (some ⟨gf, 3, none⟩)]
                rfl rfl rfl (by kernel_rfl) (by kernel_rfl) ?_ (fun _ => ⟨Hbf.out.drewq, by simp, by simp, by simp, fun _ => rfl, by simp, by simp, by simp⟩) ?_
              · refine ⟨?_, ?_, ?_, ?_, ?_, ?_, ?_, ?_, trivial⟩
                · -- 0: slot 50 := Op.fieldAddr 62 t7 3
                  refine obM_yes fun f bb w' hj hs hd hp => ?_
                  simp [PreO, factO, valOf, Region.binds] at hp hd
                  refine ⟨by simp [Gd, valOf, hp], ?_⟩
                  refine mildM_val (.pointer (some ⟨gf, 3, none⟩)) (w' := w') ?_ rfl (by simpa using hj)
                  simp [execOp, evalF, hp, go_sem]
                · -- 1: slot 51 := Op.load 60 t50
                  refine obM_yes fun f bb w' hj hs hd hp => ?_
                  simp [PreO, factO, valOf, Region.binds] at hp hd
                  refine ⟨by simp [Gd, valOf, hp], ?_⟩
                  have hc := hj.1.cell 3 _ rfl
                  refine mildM_val (vb) (w' := w') ?_ rfl (by simpa using hj)
                  simp [execOp, evalF, hp, go_sem, hc]
                · -- 2: slot 52 := Op.move t4
                  refine obM_yes fun f bb w' hj hs hd hp => ?_
                  simp [PreO, factO, valOf, Region.binds] at hp hd
                  refine ⟨by simp [Gd, valOf, hp], ?_⟩
                  refine mildM_val (.pointer (some ⟨gr, 0, none⟩)) (w' := w') ?_ rfl (by simpa using hj)
                  simp [execOp, evalF, hp, go_sem]
                · -- 3: slot 53 := Op.call   value (Operand.func 83), args := #[t52, const (65536:u64)], argTypes := #[141, 33]  
                  refine obM_yes fun f bb w' hj hs hd hp => ?_
                  simp [PreO, factO, valOf, Region.binds] at hp hd
                  refine ⟨by simp [Gd, valOf, hp], ?_⟩
                  obtain ⟨j1, j2, j3, j4, j5, j6, j7, j8⟩ := hj
                  have h4 : bb 4 = false := by cases hx : bb 4 with | false => rfl | true => rw [j2 hx] at hs; cases hs
                  have h5 : bb 5 = false := by cases hx : bb 5 with | false => rfl | true => rw [j3 hx] at h4; cases h4
                  have h6 : bb 6 = false := by cases hx : bb 6 with | false => rfl | true => rw [j4 hx] at h5; cases h5
                  have hw' := j5 hs
                  subst hw'
                  refine mildM_call 83 _ _ Try.f83 Try.func83 (by kernel_rfl) (by kernel_rfl) rfl ?_
                  refine calls_args (args' := #[.pointer (some ⟨gr, 0, none⟩), .int .u64 65536]) (by simp [evalF, hp, Act.eval]) ?_
                  refine Hvn.out.mono ?_
                  rintro _ w9 ⟨rfl, hp9, hg9⟩
                  exact ⟨_, rfl, rfl, j1.grown hg9 (fun e => by injection e with e; omega), by simp, by simp [h5], by simp [h6], by simp, fun _ _ => hp9, by simp [h5], by simp [h6]⟩
                · -- 4: slot 54 := Op.convert 33 3 t53
                  refine obM_yes fun f bb w' hj hs hd hp => ?_
                  simp [PreO, factO, valOf, Region.binds] at hp hd
                  refine ⟨by simp [Gd, valOf, hp], ?_⟩
                  obtain ⟨j1, j2, j3, j4, j5, j6, j7, j8⟩ := hj
                  have h3 : bb 3 = true := by simpa using hd
                  refine mildM_val (.int .i64 (x : Int)) (w' := w') ?_ rfl ⟨j1, by simp [h3], by simp, by simpa using j4, by simp [h3], by simpa using j6, by simpa using j7, by simpa using j8⟩
                  simp [execOp, evalF, hp, go_sem, hwx]
                · -- 5: slot 55 := Op.buildSlice 60 1 #[(0, t54)]
                  refine obM_yes fun f bb w' hj hs hd hp => ?_
                  simp [PreO, factO, valOf, Region.binds] at hp hd
                  refine ⟨by simp [Gd, valOf, hp], ?_⟩
                  obtain ⟨j1, j2, j3, j4, j5, j6, j7, j8⟩ := hj
                  have h4 : bb 4 = true := by simpa using hd
                  have h3 := j2 h4
                  have h6 : bb 6 = false := by cases hx : bb 6 with | false => rfl | true => rw [j4 hx] at hs; cases hs
                  have hP := j6 h3 hs
                  refine mildM_val (.slice (some ⟨w'.heap.size, 0, none⟩) 1 1) (w' := w'.alloc (.cells #[.int .i64 (x : Int)] 3)) ?_ trivial ⟨j1.alloc _, by simp [h3], by simp [h4], by simp, by simp [h3], by simp, fun _ _ => ⟨w', hP, rfl, rfl⟩, by simp [h6]⟩
                  simp [execOp, evalF, hp, go_sem]
                · -- 6: slot 56 := Op.call   builtin append, args := #[t51, t55], argTypes := #[60, 60]  
                  refine obM_yes fun f bb w' hj hs hd hp => ?_
                  simp [PreO, factO, valOf, Region.binds] at hp hd
                  refine ⟨by simp [Gd, valOf, hp], ?_⟩
                  obtain ⟨j1, j2, j3, j4, j5, j6, j7, j8⟩ := hj
                  have h5 : bb 5 = true := by first | exact hd.2.1 | exact hd.2 | exact hd
                  obtain ⟨W9, hP, hw9, hv5⟩ := j7 h5 hs
                  subst hw9
                  obtain ⟨q1, q2⟩ := HPost.out W9 hP
                  refine mildM_ex (exec_app1R (C := cInt) (.tmp 51) (.tmp 55) 60 rfl Try.underlying60 info_i64 (by kernel_rfl) (by decide) (by decide) [.int .i64 (x : Int)] q1 (y := (x : Int)) ⟨rfl, by omega, by omega⟩ (by simp [evalF, hp]) (by simpa [evalF, valOf] using hv5) (by omega) (by omega)) ?_
                  intro v' w3 g1 g2
                  refine ⟨trivial, (j1.ofAlloc q2).grown g2.gr (fun e => by have := (q1.blk _ e).1; omega), by simpa using j2, by simpa using j3, by simp [h5], by simpa using (fun h => absurd h (by simp [j2 (j3 h5)])), by simp [h5], by simp, fun _ => ⟨W9, hP, g1, g2⟩⟩
                · -- 7: slot 57 := Op.fieldAddr 62 t7 3
                  refine obM_yes fun f bb w' hj hs hd hp => ?_
                  simp [PreO, factO, valOf, Region.binds] at hp hd
                  refine ⟨by simp [Gd, valOf, hp], ?_⟩
                  refine mildM_val (.pointer (some ⟨gf, 3, none⟩)) (w' := w') ?_ rfl (by simpa using hj)
                  simp [execOp, evalF, hp, go_sem]
              · intro f bb wd hall hj hp
                simp only [PostO] at hp
                obtain ⟨e0, e1, e2, e3, e4, _, _, e7, _⟩ := hp
                simp only [fills, List.foldl_cons, List.foldl_nil, Act.put, List.setIfInBounds_toArray, List.set_cons_zero, List.set_cons_succ, e0, e1, e2, e3, e4, e7]
                clear e0 e1 e2 e3 e4 e7
                simp only [List.drop_succ_cons, List.drop_zero]
                obtain ⟨j1, _, _, _, _, _, _, j8⟩ := hj
                have hb6 := hall 6 (by decide)
                obtain ⟨W9, hP, h9, hx9⟩ := j8 hb6
                simp only [valOf, List.getElem?_cons_succ, List.getElem?_cons_zero] at h9 hx9
                generalize f 56 = v56 at *
                generalize f 55 = v55 at *
                rw [HP.out] at hP
                obtain ⟨hr9, hg9⟩ := hP
                have hg9s : wr.heap.size ≤ W9.heap.size := hg9.size
                have h9s := hx9.gr.size
                have hch9 : Chg (fun k => k = gr ∨ gf < k) wr wd := ((Chg.ofBelow (Below.refl _ wr).drew).trans (Chg.ofGrown hg9 fun k e => by injection e with e; exact .inl e.symm)).trans (Chg.ofGrown hx9.gr fun k e => by have := (Hob.out.blk k e).1; exact .inr (by omega))
                have hrd9 : RdrAt wd gr lx ex := hr9.grown hx9.gr (fun k e => by have := (Hob.out.blk k e).1; omega)
                have jf := j1.frozen 3
                have jc := j1.cell 3 _ rfl
                obtain ⟨A56, c56, hv56, _, _, _⟩ := h9.form'
                rw [List.length_append, List.length_singleton] at hv56
                subst hv56
                have Hj1 := Lib.hid j1
                have H9 := Lib.hid h9
                have Hch9 := Lib.hid hch9
                have Hrd9 := Lib.hid hrd9
                clear hall hb6 j8 hr9 hg9 hx9 hch9 hrd9 j1 h9
                go_wp2_with fail
                have hchs := Chg.set (P := fun k => k = gf) wd ⟨gf, 3, none⟩ (.slice A56 (bl.length + 1) c56) rfl
                have hcha := (Hch9.out.more (Q := fun k => k = gr ∨ gf ≤ k) (fun k _ h => by omega)).trans (hchs.more (fun k _ h => by omega))
                have hfp9 : FP gf ⟨nm, idf, (sz : Int), bl ++ [(x : Int)]⟩ (wd.setCell ⟨gf, 3, none⟩ (.slice A56 (bl.length + 1) c56)) := ⟨_, by have := Hj1.out.put 3 (.slice A56 (bl.length + 1) c56); rw [Hf0.out] at this; exact this, H9.out.chg hchs (fun k hk e => by have := (H9.out.blk k hk).1; omega) (fun _ h => h.elim)⟩
                have hwsz := Hblw.out.size
                go_roundw
                case rel =>
                  refine ⟨j + 1, bl ++ [(x : Int)], lx, ex, by go_num, by omega, by simp; omega, by omega, Hrd9.out.below (B := gf) (by omega) (hchs.below (by omega) (fun k hk => by omega)), hfp9, Hmp.out.keep hcha (fun k hk => by omega) (by omega), Hres.out.chg hcha (fun h => by omega), Hblw.out.trans (hcha.below (B := w.heap.size) (by omega) (fun k hk => by omega)), ?_, Hrb2.out⟩
                  simp [World.setCell]; omega
                case measure => simp [intOf]; omega
            · have hrb' : (bl, l', e') = rf5 l 0 := by rw [rblk, if_pos he'] at hrb; exact hrb
              have Hrb := Lib.hid hrb'
              have hd : (e' == 0) = false := beq_eq_false_iff_ne.2 he'
              clear hrb hrb' he' hjn
              obtain ⟨vf, S, hbm, hown, hS1, hS2⟩ := Hmp.out
              obtain ⟨vb, hbf, hob⟩ := Hfp.out
              obtain ⟨f1, hf1⟩ : ∃ f1 : MFile, f1 = ⟨nm, idf, (sz : Int), bl⟩ := ⟨_, rfl⟩
              have hfp : rfileP l 0 = (f1, l', e') := by rw [G6.out, hf1, Hidf.out, ← Hrb.out]
              have hok : fileOk f1 := by rw [hf1]; exact ⟨by show nm.length ≤ maxLen; unfold maxLen; omega, by show (-9223372036854775808 : Int) ≤ (sz : Int); omega, by show (sz : Int) ≤ 9223372036854775807; omega⟩
              have hfb : f1.blocks = bl := by rw [hf1]
              rw [← hf1] at hbf
              have hown' : OwnR 62 cFile wr (gm + 1) (fun k => S k ∨ vb.ownBlock = some k) vf acc := hown.widen (fun k h => .inl h) (fun k hk => by
                rcases hk with hk | hk
                · obtain ⟨_, _, _, _, h4⟩ := hown; exact h4 k hk
                · exact ⟨(hob.blk k hk).2, fun e => by have := hS2 k e; have := (hob.blk k hk).1; omega⟩)
              have hy : cFile.at_ wr (fun k => S k ∨ vb.ownBlock = some k) (encF f1 vb) f1 := ⟨vb, rfl, by rw [hfb]; exact hob.rowOwn.mono (fun k hk => .inr hk) (fun _ h => h.elim), hok⟩
              obtain ⟨Ab, cb, hvb, _, _, _⟩ := hob.form'
              have hel : (encF f1 vb).length = 4 := rfl
              have hcl := hbf.cells
              have hc2 := hbm.cell 2 _ rfl
              have Hcl := Lib.hid hcl
              have Hown := Lib.hid hown'
              have Hy := Lib.hid hy
              have Hbm := Lib.hid hbm
              have Hfpp := Lib.hid hfp
              have HS1 := Lib.hid hS1
              have Hob := Lib.hid hob
              have Hvb := Lib.hid hvb
              have hgrl2 : gr < gm := hgrl
              have hwsz := Hblw.out.size
              clear hf1 hfp hok hfb hown' hy hcl hbm hS1 hS2 hown hbf hob hvb
              go_wp2_with (first
                | (refine wpList_load_agg rfl 62 (.tmp 7) rfl ⟨gf, 0, none⟩ rfl (encF f1 vb) Hcl.out Try.underlying62 rfl info_file4 ?_)
                | (at_builtin
                   refine wpList_app1R (C := cFile) rfl (.tmp 60) (.tmp 62) 54 rfl Try.underlying54 info_fileC rfl (by decide) (by decide) (encF f1 vb) Hown.out (y := f1) Hy.out rfl rfl (by omega) (by omega) ?_
                   intro v8 w8 ho8 hx8
                   have hbm8 := Hbm.out.grown hx8.gr (fun e => by have := (Hown.out.blk _ e).1; omega)
                   have fr8 := hbm8.frozen 2
                   have cc8 := hbm8.cell 2 _ rfl
                   have Hbm8 := Lib.hid hbm8
                   have Ho8 := Lib.hid ho8
                   have Hx8 := Lib.hid hx8
                   have hw8 := hx8.gr.size
                   obtain ⟨A8, c8', hv8, _, _, _⟩ := ho8.form'
                   rw [List.length_append, List.length_singleton] at hv8
                   clear hbm8 ho8 hx8
                   subst hv8))
              have hch8 : Chg (fun k => gm < k) wr w8 := Chg.ofGrown Hx8.out.gr fun k e => by have := (Hown.out.blk k e).1; omega
              have hchs := Chg.set (P := fun k => k = gm) w8 ⟨gm, 2, none⟩ (.slice A8 (acc.length + 1) c8') rfl
              have hch9 : Chg (fun k => gm ≤ k) wr (w8.setCell ⟨gm, 2, none⟩ (.slice A8 (acc.length + 1) c8')) := (hch8.more (fun k _ h => by omega)).trans (hchs.more (fun k _ h => by omega))
              have hmp9 : MP gm (w8.setCell ⟨gm, 2, none⟩ (.slice A8 (acc.length + 1) c8')).heap.size ⟨ver, next, acc ++ [f1]⟩ (w8.setCell ⟨gm, 2, none⟩ (.slice A8 (acc.length + 1) c8')) := by
                have hz : (w8.setCell ⟨gm, 2, none⟩ (.slice A8 (acc.length + 1) c8')).heap.size = w8.heap.size := by simp [World.setCell]
                refine ⟨_, _, Hbm8.out.put 2 _, Ho8.out.chg hchs (fun k hk e => by have := (Ho8.out.blk k hk).1; omega) (fun k hk e => ?_), fun k hk => ?_, fun k hk => by rw [hz]; exact (Ho8.out.blk k hk).2⟩
                · rcases hk with hk | hk
                  · have := (HS1.out k hk).1; omega
                  · have := (Hob.out.blk k hk).1; omega
                · rw [hz]
                  rcases hk with hk | hk
                  · have := (HS1.out k hk); omega
                  · have := (Hob.out.blk k hk); omega
              go_roundw
              case rel =>
                refine ⟨m, acc ++ [f1], l', e', by go_num, by simp; omega, by omega, Hrd.out.below (B := gm) (by omega) (hch9.below (B := gm) (by omega) (fun k hk => hk)), hmp9, Hres.out.chg hch9 (fun h => by omega), Hblw.out.trans (hch9.below (B := w.heap.size) (by omega) (fun k hk => by omega)), ?_, ?_⟩
                · simp [World.setCell]; omega
                · have hr := HR.out
                  rw [Hfpp.out] at hr
                  exact hr
              case measure => simp [intOf]; try omega
          · have hrb' : (bl, l', e') = rf5 l 0 := by rw [show NB - j = 0 from by omega] at hrb; exact hrb
            have Hrb := Lib.hid hrb'
            clear hrb hrb'
            obtain ⟨vf, S, hbm, hown, hS1, hS2⟩ := Hmp.out
            obtain ⟨vb, hbf, hob⟩ := Hfp.out
            obtain ⟨f1, hf1⟩ : ∃ f1 : MFile, f1 = ⟨nm, idf, (sz : Int), bl⟩ := ⟨_, rfl⟩
            have hfp : rfileP l 0 = (f1, l', e') := by rw [G6.out, hf1, Hidf.out, ← Hrb.out]
            have hok : fileOk f1 := by rw [hf1]; exact ⟨by show nm.length ≤ maxLen; unfold maxLen; omega, by show (-9223372036854775808 : Int) ≤ (sz : Int); omega, by show (sz : Int) ≤ 9223372036854775807; omega⟩
            have hfb : f1.blocks = bl := by rw [hf1]
            rw [← hf1] at hbf
            have hown' : OwnR 62 cFile wr (gm + 1) (fun k => S k ∨ vb.ownBlock = some k) vf acc := hown.widen (fun k h => .inl h) (fun k hk => by
              rcases hk with hk | hk
              · obtain ⟨_, _, _, _, h4⟩ := hown; exact h4 k hk
              · exact ⟨(hob.blk k hk).2, fun e => by have := hS2 k e; have := (hob.blk k hk).1; omega⟩)
            have hy : cFile.at_ wr (fun k => S k ∨ vb.ownBlock = some k) (encF f1 vb) f1 := ⟨vb, rfl, by rw [hfb]; exact hob.rowOwn.mono (fun k hk => .inr hk) (fun _ h => h.elim), hok⟩
            obtain ⟨Ab, cb, hvb, _, _, _⟩ := hob.form'
            have hel : (encF f1 vb).length = 4 := rfl
            have hcl := hbf.cells
            have hc2 := hbm.cell 2 _ rfl
            have Hcl := Lib.hid hcl
            have Hown := Lib.hid hown'
            have Hy := Lib.hid hy
            have Hbm := Lib.hid hbm
            have Hfpp := Lib.hid hfp
            have HS1 := Lib.hid hS1
            have Hob := Lib.hid hob
            have Hvb := Lib.hid hvb
            have hgrl2 : gr < gm := hgrl
            have hwsz := Hblw.out.size
            clear hf1 hfp hok hfb hown' hy hcl hbm hS1 hS2 hown hbf hob hvb
            go_wp2_with (first
              | (refine wpList_load_agg rfl 62 (.tmp 7) rfl ⟨gf, 0, none⟩ rfl (encF f1 vb) Hcl.out Try.underlying62 rfl info_file4 ?_)
              | (at_builtin
                 refine wpList_app1R (C := cFile) rfl (.tmp 60) (.tmp 62) 54 rfl Try.underlying54 info_fileC rfl (by decide) (by decide) (encF f1 vb) Hown.out (y := f1) Hy.out rfl rfl (by omega) (by omega) ?_
                 intro v8 w8 ho8 hx8
                 have hbm8 := Hbm.out.grown hx8.gr (fun e => by have := (Hown.out.blk _ e).1; omega)
                 have fr8 := hbm8.frozen 2
                 have cc8 := hbm8.cell 2 _ rfl
                 have Hbm8 := Lib.hid hbm8
                 have Ho8 := Lib.hid ho8
                 have Hx8 := Lib.hid hx8
                 have hw8 := hx8.gr.size
                 obtain ⟨A8, c8', hv8, _, _, _⟩ := ho8.form'
                 rw [List.length_append, List.length_singleton] at hv8
                 clear hbm8 ho8 hx8
                 subst hv8))
            have hch8 : Chg (fun k => gm < k) wr w8 := Chg.ofGrown Hx8.out.gr fun k e => by have := (Hown.out.blk k e).1; omega
            have hchs := Chg.set (P := fun k => k = gm) w8 ⟨gm, 2, none⟩ (.slice A8 (acc.length + 1) c8') rfl
            have hch9 : Chg (fun k => gm ≤ k) wr (w8.setCell ⟨gm, 2, none⟩ (.slice A8 (acc.length + 1) c8')) := (hch8.more (fun k _ h => by omega)).trans (hchs.more (fun k _ h => by omega))
            have hmp9 : MP gm (w8.setCell ⟨gm, 2, none⟩ (.slice A8 (acc.length + 1) c8')).heap.size ⟨ver, next, acc ++ [f1]⟩ (w8.setCell ⟨gm, 2, none⟩ (.slice A8 (acc.length + 1) c8')) := by
              have hz : (w8.setCell ⟨gm, 2, none⟩ (.slice A8 (acc.length + 1) c8')).heap.size = w8.heap.size := by simp [World.setCell]
              refine ⟨_, _, Hbm8.out.put 2 _, Ho8.out.chg hchs (fun k hk e => by have := (Ho8.out.blk k hk).1; omega) (fun k hk e => ?_), fun k hk => ?_, fun k hk => by rw [hz]; exact (Ho8.out.blk k hk).2⟩
              · rcases hk with hk | hk
                · have := (HS1.out k hk).1; omega
                · have := (Hob.out.blk k hk).1; omega
              · rw [hz]
                rcases hk with hk | hk
                · have := (HS1.out k hk); omega
                · have := (Hob.out.blk k hk); omega
            go_roundw
            case rel =>
              refine ⟨m, acc ++ [f1], l', e', by go_num, by simp; omega, by omega, Hrd.out.below (B := gm) (by omega) (hch9.below (B := gm) (by omega) (fun k hk => hk)), hmp9, Hres.out.chg hch9 (fun h => by omega), Hblw.out.trans (hch9.below (B := w.heap.size) (by omega) (fun k hk => by omega)), ?_, ?_⟩
              · simp [World.setCell]; omega
              · have hr := HR.out
                rw [Hfpp.out] at hr
                exact hr
            case measure => simp [intOf]; try omega
      · have hR' : (acc, l, e) = rm4 l0 := by rw [rfilesP, if_pos he] at hR; exact hR
        have HR := Lib.hid hR'
        have hd : (e == 0) = false := beq_eq_false_iff_ne.2 he
        clear hR hR' he
        obtain ⟨vf, S, hbx, hown, hS1, hS2⟩ := Hmp.out
        obtain ⟨mm, hmm⟩ : ∃ mm : MMan, mm = ⟨ver, next, acc⟩ := ⟨_, rfl⟩
        rw [← hmm] at hbx hown
        have Hmm := Lib.hid hmm
        have Hbx := Lib.hid hbx
        have Hown := Lib.hid hown
        have HS := Lib.hid hS1
        obtain ⟨Af, cf, hvf, hcf1, hcf2⟩ := hown.rowAll.form
        subst hvf
        clear hmm hbx hown hS1 hS2
        go_wp2_with fail
        refine wp_region_tail (ds := [65, 66, 67]) 3 [some 65, some 66, some 67]
          [Ph.is (.agg (encM mm (.slice Af mm.files.length cf)).toArray),
            Ph.is (.pointer (some ⟨gr, 0, none⟩)),
            Ph.is (.int .i64 (endE l e))] rfl rfl (by kernel_rfl) (by kernel_rfl) (by kernel_rfl) ?_ ?_
        · refine ⟨?_, ?_, ?_, trivial⟩
          · -- 0: slot 65 := Op.load 56 t5
            refine ob_yes fun f w' hb hp => ?_
            simp [PreOf, factOf, valOf, Ph.is, Ph.by_, Ph.any, Region.binds] at hp
            refine ⟨by simp [Gd, valOf, hp], ?_⟩
            refine mild_val (.agg (encM mm (.slice Af mm.files.length cf)).toArray) ?_ rfl
            have hr := run_loadVar_cells w' ⟨gm, 0, none⟩ 56 (encM mm (.slice Af mm.files.length cf)) (Hbx.out.blwM hb).cells Try.underlying56 rfl info_man3
            simp [execOp, evalF, hp, Instr.loadAt, Instr.sureAddr, hr]
          · -- 1: slot 66 := Op.move t4
            refine ob_yes fun f w' hb hp => ?_
            simp [PreOf, factOf, valOf, Ph.is, Ph.by_, Ph.any, Region.binds] at hp
            refine ⟨by simp [Gd, valOf, hp], ?_⟩
            refine mild_val (.pointer (some ⟨gr, 0, none⟩)) ?_ rfl
            simp [execOp, evalF, hp]
          · -- 2: slot 67 := Op.call   value (Operand.func 87), args := #[t66], argTypes := #[141]  
            refine ob_yes fun f w' hb hp => ?_
            simp [PreOf, factOf, valOf, Ph.is, Ph.by_, Ph.any, Region.binds] at hp
            refine ⟨by simp [Gd, valOf, hp], ?_⟩
            refine mild_call 87 _ _ Try.f87 Try.func87 (by kernel_rfl) (by kernel_rfl) rfl ?_
            simp [evalF, hp, Ph.is, Ph.by_, Ph.any]
            refine (vend_any w' gr l e (Hrd.out.below Hrd.out.lt hb)).mono fun ev w2 h => ?_
            obtain ⟨rfl, rfl⟩ := h
            first | exact ⟨_, rfl, Below.refl _ _, rfl⟩ | exact ⟨rfl, Below.refl _ _⟩ | exact Below.refl _ _ | simpa using Below.refl _ _
        · intro f w2 hb2 hp
          simp only [PostOf, Ph.is, Ph.by_, Ph.any] at hp
          obtain ⟨h0, h1, h2, _⟩ := hp
          simp only [fills, List.foldl_cons, List.foldl_nil, Act.put, List.setIfInBounds_toArray, List.set_cons_zero, List.set_cons_succ, h0, h1, h2]
          clear h0 h1 h2
          simp only [List.drop_succ_cons, List.drop_zero]
          have hres := Hres.out.blwM hb2
          have Hres2 := Lib.hid hres
          have Hown2 := Lib.hid (Hown.out.below_ hb2)
          have Hblw2 := Lib.hid (Hblw.out.trans (hb2.mono (by have := Hblw.out.size; omega)))
          clear hres hb2
          go_wp2_with (refine wpList_store_box rfl 56 56 (.tmp 2) (.tmp 65) rfl w.heap.size zeroMc (encM mm (.slice Af mm.files.length cf)) rfl rfl Hres2.out rfl (encM_one _ _ rfl) info_man3 ?_; intro hend)
          have hg2 : w.heap.size < w2.heap.size := Hres2.out.lt
          have hchg : Chg (fun k => k = w.heap.size) w2 (w2.setRow w.heap.size (encM mm (.slice Af mm.files.length cf)).toArray) := Chg.ofGrown (gsetRow' _ _ _) fun k e => by injection e with e; exact e.symm
          have hof := (Hown2.out.chg hchg (fun k hk e => by have := (Hown2.out.blk k hk).1; omega) (fun k hk e => by have := (HS.out k hk).1; omega))
          have hbl := Hblw2.out.trans (hchg.below (B := w.heap.size) (by omega) (fun k hk => by omega))
          refine bodyPost_ret (results_ct rfl _ _ w.heap.size (encM mm (.slice Af mm.files.length cf)) rfl (fun j v hj => (hend.cells j v hj : _)) Try.underlying56 rfl info_man3) rfl ?_
          have hrow := hof.row
          have hS4 : ∀ k, S k → k < (w2.setRow w.heap.size (encM mm (.slice Af mm.files.length cf)).toArray).heap.size := by obtain ⟨_, _, _, _, h4⟩ := hof; exact fun k hk => (h4 k hk).1
          have hin := hrow.mono (O' := fun k => w.heap.size ≤ k ∧ k < (w2.setRow w.heap.size (encM mm (.slice Af mm.files.length cf)).toArray).heap.size) (S' := fun k => w.heap.size ≤ k ∧ k < (w2.setRow w.heap.size (encM mm (.slice Af mm.files.length cf)).toArray).heap.size) (fun k hk => ⟨by omega, hk.2⟩) (fun k hk => ⟨by have := (HS.out k hk).1; omega, hS4 k hk⟩)
          rw [E5.out, ← HR.out]
          obtain rfl := Hmm.out
          exact ⟨_, rfl, ⟨_, rfl, hin⟩, hbl⟩
end Go.Proofs.Ytpoicbhbkabllaa

namespace Go.Proofs.Ytpoicbhbkabllaa
set_option linter.unusedSimpArgs false
set_option linter.unusedVariables false
open Go.RowKit

def cmpS (a b : List UInt8) : Int := if bless a b then -1 else if a = b then 0 else 1
theorem isnan_any (w : World) (a : List UInt8) : Calls Try.prog 80 #[.string (bst a)] w fun e w' => e = .returned (.bool false) ∧ w = w' := by
  have hq : (a != a) = false := by simp
  go_enter Try.func80, Try.ntmps80
  go_wp2_with fail
  go_ret
  exact ⟨rfl, rfl⟩
set_option maxHeartbeats 800000 in
theorem compare_any (w : World) (a b : List UInt8) : Calls Try.prog 57 #[.string (bst a), .string (bst b)] w fun e w' => e = .returned (.int .i64 (cmpS a b)) ∧ w = w' := by
  have hna := fun W => isnan_any W a
  have hnb := fun W => isnan_any W b
  have Ha := Lib.hid hna
  obtain ⟨r, hr⟩ : ∃ r, r = cmpS a b := ⟨_, rfl⟩
  rw [← hr]
  have Hb := Lib.hid hnb
  clear hna hnb
  go_enter Try.func57, Try.ntmps57
  go_wp2_with fail
  refine (Ha.out w).mono ?_
  rintro _ _ ⟨rfl, rfl⟩
  go_wp2_with fail
  refine (Hb.out w).mono ?_
  rintro _ _ ⟨rfl, rfl⟩
  have hlt : Op.bytesLess (bst a).toList (bst b).toList = bless a b := by rw [bst_toList, bst_toList]
  have heq : ((bst a).toList == (bst b).toList) = decide (a = b) := by rw [bst_toList, bst_toList]; by_cases h : a = b <;> simp [h]
  by_cases h1 : bless a b = true
  · have hc : r = -1 := by rw [hr]; unfold cmpS; rw [if_pos h1]
    subst hc
    clear hr
    go_wp2_with fail
    go_ret
    exact ⟨rfl, rfl⟩
  · by_cases h2 : a = b
    · have hc : r = 0 := by rw [hr]; unfold cmpS; rw [if_neg h1, if_pos h2]
      subst hc
      clear hr
      subst h2
      have hl : Op.bytesLess (bst a).toList (bst a).toList = false := by rw [bst_toList]; exact bless_irrefl a
      clear h1 hlt heq
      go_wp2_with fail
      go_ret
      exact ⟨rfl, rfl⟩
    · have hc : r = 1 := by rw [hr]; unfold cmpS; rw [if_neg h1, if_neg h2]
      subst hc
      clear hr
      simp at h1
      go_wp2_with fail
      go_ret
      exact ⟨rfl, rfl⟩
theorem find1_any (w : World) (f : MFile) (v : Value) (s : List UInt8) : Calls Try.prog 56 #[.agg (encF f v).toArray, .string (bst s)] w fun e w' => e = .returned (.int .i64 (cmpS f.name s)) ∧ Below w.heap.size w w' := by
  have hb := balloc w (.cells (encF f v).toArray 62)
  have hx : BoxAt 62 (w.alloc (.cells (encF f v).toArray 62)) w.heap.size (encF f v) := BoxAt.new_ _ _ _
  have hc0 := hx.cell 0 _ rfl
  have Hb := Lib.hid hb
  have Hc := Lib.hid (fun W => compare_any W f.name s)
  clear hb hx
  go_enter Try.func56, Try.ntmps56
  go_wp2_with fail
  refine (Hc.out _).mono ?_
  rintro _ _ ⟨rfl, rfl⟩
  go_wp2_with fail
  go_ret
  exact ⟨rfl, Hb.out⟩
end Go.Proofs.Ytpoicbhbkabllaa

namespace Go.Proofs.Ytpoicbhbkabllaa
set_option linter.unusedSimpArgs false
set_option linter.unusedVariables false
open Go.RowKit

/-- names rise -/
def RiseN (l : List MFile) : Prop := ∀ (a b : Nat) (hb : b < l.length) (h : a < b), bless (l[a]'(by omega)).name l[b].name = true
theorem cmpS_lt (a b : List UInt8) : (cmpS a b < 0 ↔ bless a b = true) := by
  unfold cmpS
  split
  · simp_all
  · split <;> simp_all
theorem cmpS_eq (a b : List UInt8) : (cmpS a b = 0 ↔ a = b) := by
  unfold cmpS
  split
  · rename_i h
    constructor
    · intro h'; omega
    · rintro rfl; rw [bless_irrefl] at h; cases h
  · split <;> simp_all
structure FindAt (l : List MFile) (s : List UInt8) (k : Nat) : Prop where
  le : k ≤ l.length
  lo : ∀ (a : Nat) (ha : a < l.length), a < k → bless l[a].name s = true
  hi : ∀ (a : Nat) (ha : a < l.length), k ≤ a → bless l[a].name s = false
def foundAt (l : List MFile) (s : List UInt8) (k : Nat) : Bool := match l[k]? with | some f => decide (f.name = s) | none => false
theorem wrap64_at (n : Int) (h1 : 0 ≤ n) (h2 : n < 9223372036854775808) : wrap64 n = n := by
  unfold wrap64
  rw [Int.emod_eq_of_lt (by omega) (by omega)]
  omega
theorem wrap_u64_wrap64 (n : Int) (h1 : 0 ≤ n) (h2 : n < 18446744073709551616) : IntKind.u64.wrap (wrap64 n) = n := by
  rw [wrap_u64]
  unfold wrap64
  by_cases h : n < 9223372036854775808
  · rw [Int.emod_eq_of_lt (a := n + 9223372036854775808) (by omega) (by omega)]
    omega
  · have e : (n + 9223372036854775808) % 18446744073709551616 = n + 9223372036854775808 - 18446744073709551616 := by
      rw [← Int.sub_emod_right]
      exact Int.emod_eq_of_lt (by omega) (by omega)
    rw [e]
    omega
theorem half_wrap (i j p : Nat) (hp : p = (i + j) / 2) (h : i + j < 18446744073709551616) : wrap64 (IntKind.u64.wrap (wrap64 ((i : Int) + (j : Int))) / 2) = (p : Int) := by
  rw [wrap_u64_wrap64 ((i : Int) + j) (by omega) (by omega), wrap64_at _ (by omega) (by omega), hp]
  omega
/-- a load of a struct under a guard that says yes -/
theorem wpList_load_aggG {ops : Array Oper} {rest : List Oper} {o : Oper} {a : Act} {w : World} {Q : Exit → Act → World → Prop} (hw : Region.wanted o (yielded ops a.tmps) = true) (T : TypeId) (x : Operand) (ho : o.op = .load T x)
    (ad : Addr) (hx : a.eval x = .pointer (some ad)) (cs : List Value) (hc : ∀ (j : Nat) (v : Value), cs[j]? = some v → w.cell? (ad.add j) = some v) {d : TypeDesc} (hu : Try.prog.underlying T = some d)
    (hd : (match d with | .struct _ | .array _ _ => true | _ => false) = true) (hi : (Try.prog.info? T).map (·.size) = some cs.length)
    (h : wpList Try.prog ops Q rest (a.put o.dst (.agg cs.toArray)) w) : wpList Try.prog ops Q (o :: rest) a w :=
  BigFrame.wpList_want hw fun K hK => by
    unfold Oper.wp execOp
    simp only [ho, hx, Instr.loadAt, Instr.sureAddr, Sem.run_bind, Sem.run_pure, Result.andThen_ok, run_loadVar_cells w ad T cs hc hu hd hi]
    exact hK _ _ h
set_option maxRecDepth 100000 in
set_option maxHeartbeats 1600000 in
theorem bsearch_any (w : World) (B : Nat) (v : Value) (l : List MFile) (s : List UInt8) (h : ByF w B v l) (hB : B ≤ w.heap.size) (hr : RiseN l) :
    Calls Try.prog 55 #[v, .string (bst s), .func (.func 56) #[] #[]] w fun e w' => ∃ k, e = .returned (.tuple #[.int .i64 (k : Nat), .bool (foundAt l s k)]) ∧ FindAt l s k ∧ Below w.heap.size w w' := by
  obtain ⟨A, c, rfl, hc1, hc2⟩ := h.form
  unfold maxLen at hc2
  have H := Lib.hid h
  have Hr := Lib.hid hr
  have Hf := Lib.hid (fun W f v => find1_any W f v s)
  clear h hr
  go_enter Try.func55, Try.ntmps55
  go_wp2_with fail
  go_loopw [9, 10] (fun iv jv wr => ∃ i j : Nat, i ≤ j ∧ j ≤ l.length ∧ iv = .int .i64 i ∧ jv = .int .i64 j ∧ (∀ (a : Nat) (ha : a < l.length), a < i → bless l[a].name s = true) ∧ (∀ (a : Nat) (ha : a < l.length), j ≤ a → bless l[a].name s = false) ∧ Below w.heap.size w wr) (fun i j _ => (intOf j).toNat - (intOf i).toNat)
  case atStart => exact ⟨0, l.length, by omega, by omega, rfl, rfl, fun a _ h => by omega, fun a ha h => by omega, Below.refl _ _⟩
  case round =>
    obtain ⟨i, j, hij, hjl, rfl, rfl, hlo, hhi, hbr⟩ := hrel
    have Hbr := Lib.hid hbr
    have Hlo := Lib.hid hlo
    have Hhi := Lib.hid hhi
    clear hbr hlo hhi
    by_cases hlt : i < j
    · obtain ⟨p, hp⟩ : ∃ p, p = (i + j) / 2 := ⟨_, rfl⟩
      have hpl : p < l.length := by omega
      obtain ⟨_, ad, vb, rfl, hab, hbI, hfo, hcl⟩ := (H.out.below (Hbr.out.mono hB)).cells p hpl
      have hwp : wrap64 (IntKind.u64.wrap (wrap64 ((i : Int) + (j : Int))) / 2) = (p : Int) := half_wrap i j p hp (by omega)
      have Hcl := Lib.hid hcl
      have Hp := Lib.hid hp
      clear hcl hbI hfo hp
      go_wp2_with (refine wpList_load_agg rfl 62 (.tmp 27) rfl (ad.add (p * 4)) rfl (encF l[p] vb) Hcl.out Try.underlying62 rfl info_file4 ?_)
      refine (Hf.out wr l[p] vb).mono ?_
      rintro _ w2 ⟨rfl, hb2⟩
      have Hb3 := Lib.hid (bstep Hbr.out hb2)
      clear hb2
      by_cases hlt2 : cmpS l[p].name s < 0
      · have hlo : ∀ (a : Nat) (ha : a < l.length), a < p + 1 → bless l[a].name s = true := fun a ha hap => by
          have h1 := (cmpS_lt _ _).1 hlt2
          rcases Nat.lt_or_ge a p with h | h
          · exact bless_trans _ _ _ (Hr.out a p hpl h) h1
          · obtain rfl : a = p := by omega
            exact h1
        have Hlo2 := Lib.hid hlo
        clear hlo
        generalize cmpS l[p].name s = r at *
        go_wp2_with fail
        go_roundw
        case rel => exact ⟨p + 1, j, by have := Hp.out; omega, hjl, by go_num, rfl, Hlo2.out, Hhi.out, Hb3.out⟩
        case measure => have := Hp.out; simp [intOf]; omega
      · have hhi : ∀ (a : Nat) (ha : a < l.length), p ≤ a → bless l[a].name s = false := fun a ha hap => by
          have h1 : bless l[p].name s = false := by
            cases hx : bless l[p].name s with
            | false => rfl
            | true => exact absurd ((cmpS_lt _ _).2 hx) hlt2
          rcases Nat.lt_or_ge p a with h | h
          · cases hx : bless l[a].name s with
            | false => rfl
            | true => rw [bless_trans _ _ _ (Hr.out p a ha h) hx] at h1; cases h1
          · obtain rfl : a = p := by omega
            exact h1
        have Hhi2 := Lib.hid hhi
        clear hhi
        generalize cmpS l[p].name s = r at *
        go_wp2_with fail
        go_roundw
        case rel => exact ⟨i, p, by have := Hp.out; omega, by omega, rfl, rfl, Hlo.out, Hhi2.out, Hb3.out⟩
        case measure => have := Hp.out; simp [intOf]; omega
    · obtain rfl : i = j := by omega
      have hat : FindAt l s i := ⟨hjl, Hlo.out, Hhi.out⟩
      have Hat := Lib.hid hat
      clear hat
      by_cases hil : i < l.length
      · obtain ⟨_, ad, vb, rfl, hab, hbI, hfo, hcl⟩ := (H.out.below (Hbr.out.mono hB)).cells i hil
        have hfo : foundAt l s i = decide (cmpS l[i].name s = 0) := by
          unfold foundAt
          rw [List.getElem?_eq_getElem hil]
          exact decide_eq_decide.2 (cmpS_eq _ _).symm
        have Hcl := Lib.hid hcl
        have Hfo := Lib.hid hfo
        clear hcl hbI hfo
        go_wp2_with (refine wpList_load_aggG (by first | rfl | simp [Region.wanted, yielded]) 62 (.tmp 43) rfl (ad.add (i * 4)) rfl (encF l[i] vb) Hcl.out Try.underlying62 rfl info_file4 ?_)
        refine (Hf.out wr l[i] vb).mono ?_
        rintro _ w2 ⟨rfl, hb2⟩
        have Hb3 := Lib.hid (bstep Hbr.out hb2)
        clear hb2
        generalize cmpS l[i].name s = r at *
        go_wp2_with fail
        go_ret2
        exact ⟨i, by rw [Hfo.out]; simp; rfl, Hat.out, Hb3.out⟩
      · have hfo : foundAt l s i = false := by
          unfold foundAt
          rw [List.getElem?_eq_none (by omega)]
        go_wp2_with fail
        go_ret2
        exact ⟨i, by rw [hfo]; rfl, Hat.out, Hbr.out⟩
end Go.Proofs.Ytpoicbhbkabllaa

namespace Go.Proofs.Ytpoicbhbkabllaa
set_option linter.unusedSimpArgs false
set_option linter.unusedVariables false
open Go.RowKit

theorem find_any (w : World) (v : Value) (m : MMan) (s : List UInt8) (h : MAt w w.heap.size v m) (hm : filesR m m.files.length = true) :
    Calls Try.prog 31 #[v, .string (bst s)] w fun e w' => ∃ k, e = .returned (.tuple #[.int .i64 (k : Nat), .bool (foundAt m.files s k)]) ∧ FindAt m.files s k ∧ Below w.heap.size w w' := by
  obtain ⟨vf, rfl, hf⟩ := h
  obtain ⟨A, c, rfl, hc1, hc2⟩ := hf.form
  unfold maxLen at hc2
  obtain ⟨w0, hw0⟩ : ∃ w0, w0 = w.alloc (.cells (encM m (.slice A m.files.length c)).toArray 56) := ⟨_, rfl⟩
  have hb0 : Below w.heap.size w w0 := by rw [hw0]; exact balloc w _
  have hx0 : BoxAt 56 w0 w.heap.size (encM m (.slice A m.files.length c)) := by rw [hw0]; exact BoxAt.new_ _ _ _
  have hc2x := hx0.cell 2 _ rfl
  have hr : RiseN m.files := fun a b hb hab => filesR_rise m _ (Nat.le_refl _) hm a b hb hab
  have Hw0 := Lib.hid hw0
  have Hb0 := Lib.hid hb0
  have Hf := Lib.hid ((hf.below hb0).more hb0.size)
  have Hr := Lib.hid hr
  clear hw0 hx0 hb0 hf hm hr
  go_enter Try.func31, Try.ntmps31
  go_upto_region 1 with (fail)
  rw [← Hw0.out]
  go_wp2_with fail
  refine (bsearch_any w0 w0.heap.size _ m.files s Hf.out (Nat.le_refl _) Hr.out).mono ?_
  rintro _ w1 ⟨k, rfl, hat, hb1⟩
  have Hb1 := Lib.hid (bstep Hb0.out hb1)
  have Hat := Lib.hid hat
  clear hb1 hat
  obtain ⟨r, hq⟩ : ∃ r, r = foundAt m.files s k := ⟨_, rfl⟩
  rw [← hq]
  have Hq := Lib.hid hq
  clear hq
  go_wp2_with fail
  go_ret2
  exact ⟨k, by rw [← Hq.out]; rfl, Hat.out, Hb1.out⟩
def cntLt (l : List MFile) (s : List UInt8) : Nat := (l.filter fun f => bless f.name s).length
def anyEq (l : List MFile) (s : List UInt8) : Bool := l.any fun f => decide (f.name = s)
theorem cntLt_succ (l : List MFile) (s : List UInt8) (k : Nat) (hk : k < l.length) : cntLt (l.take (k + 1)) s = cntLt (l.take k) s + (if bless l[k].name s then 1 else 0) := by
  unfold cntLt
  rw [List.take_add_one, List.getElem?_eq_getElem hk, Option.toList_some, List.filter_append, List.length_append]
  congr 1
  by_cases h : bless l[k].name s = true <;> simp [h]
theorem cntLt_le (l : List MFile) (s : List UInt8) : cntLt l s ≤ l.length := List.length_filter_le _ _
theorem anyEq_succ (l : List MFile) (s : List UInt8) (k : Nat) (hk : k < l.length) : anyEq (l.take (k + 1)) s = (anyEq (l.take k) s || decide (l[k].name = s)) := by
  unfold anyEq
  rw [List.take_add_one, List.getElem?_eq_getElem hk, Option.toList_some, List.any_append]
  simp
theorem FindAt.cnt {l : List MFile} {s : List UInt8} {k : Nat} (h : FindAt l s k) : cntLt l s = k := by
  unfold cntLt
  have e : l = l.take k ++ l.drop k := (List.take_append_drop k l).symm
  rw [e, List.filter_append, List.length_append]
  have h1 : (l.take k).filter (fun f => bless f.name s) = l.take k := by
    rw [List.filter_eq_self]
    intro f hf
    obtain ⟨a, ha, rfl⟩ := List.mem_take_iff_getElem.1 hf
    exact h.lo a (by omega) (by omega)
  have h2 : (l.drop k).filter (fun f => bless f.name s) = [] := by
    rw [List.filter_eq_nil_iff]
    intro f hf
    obtain ⟨a, ha, rfl⟩ := List.mem_iff_getElem.1 hf
    rw [List.getElem_drop]
    rw [List.length_drop] at ha
    rw [h.hi (k + a) (by omega) (by omega)]
    simp
  rw [h1, h2]
  have := h.le
  simp
  omega
theorem FindAt.any {l : List MFile} {s : List UInt8} {k : Nat} (h : FindAt l s k) (hr : RiseN l) : anyEq l s = foundAt l s k := by
  unfold anyEq foundAt
  by_cases hk : k < l.length
  · rw [List.getElem?_eq_getElem hk]
    show _ = decide (l[k].name = s)
    by_cases he : l[k].name = s
    · rw [decide_eq_true he, List.any_eq_true]
      exact ⟨_, List.getElem_mem hk, by simp [he]⟩
    · rw [decide_eq_false he, List.any_eq_false]
      intro f hf
      obtain ⟨a, ha, rfl⟩ := List.mem_iff_getElem.1 hf
      simp only [decide_eq_true_eq]
      intro ea
      rcases Nat.lt_trichotomy a k with hl | rfl | hl
      · have := h.lo a ha hl
        rw [ea, bless_irrefl] at this
        cases this
      · exact he ea
      · have h1 := hr k a ha hl
        rw [ea] at h1
        rw [h.hi k hk (Nat.le_refl _)] at h1
        cases h1
  · rw [List.getElem?_eq_none (by omega)]
    show _ = false
    rw [List.any_eq_false]
    intro f hf
    obtain ⟨a, ha, rfl⟩ := List.mem_iff_getElem.1 hf
    simp only [decide_eq_true_eq]
    intro ea
    have := h.lo a ha (by omega)
    rw [ea, bless_irrefl] at this
    cases this
end Go.Proofs.Ytpoicbhbkabllaa

namespace Go.Proofs.Ytpoicbhbkabllaa
set_option linter.unusedSimpArgs false
set_option linter.unusedVariables false
open Go.RowKit

theorem MIn.empty (w : World) (lo : Nat) : MIn w lo (.agg (encM emptyM (.slice none 0 0)).toArray) emptyM := ⟨_, rfl, RowOn.nil_⟩
def smallF (f : MFile) : Prop := f.name.length ≤ 32 ∧ f.blocks.length ≤ 65536
theorem rblk_len : ∀ (n : Nat) (acc : List Int) (l : List UInt8) (e : Int), (rblk n acc l e).1.length ≤ acc.length + n
  | 0, acc, l, e => by simp [rblk]
  | n + 1, acc, l, e => by
    rw [rblk]
    split
    · simp
    · have := rblk_len n (acc ++ [((numS 65536 l e).1 : Int)]) (numS 65536 l e).2.1 (numS 65536 l e).2.2
      simp at this
      omega
theorem rfileP_small (l : List UInt8) (e : Int) : smallF (rfileP l e).1 := by
  have h1 := (numS_lt 32 l e).2
  have h2 := (bytesS_len' ((rf1 l e).1 : Int) (rf1 l e).2.1 (rf1 l e).2.2).2
  have h4 := (numS_lt 7340032 (rf3 l e).2.1 (rf3 l e).2.2).2
  have h5 := rblk_len (manyOf ((rf4 l e).1 : Int)).toNat [] (rf4 l e).2.1 (rf4 l e).2.2
  have h6 := manyOf_le (rf4 l e).1 h4
  have e1 : (rf1 l e).1 = (numS 32 l e).1 := rfl
  have e2 : (rf2 l e).1 = (bytesS ((rf1 l e).1 : Int) (rf1 l e).2.1 (rf1 l e).2.2).1 := rfl
  have e5 : (rf5 l e).1 = (rblk (manyOf ((rf4 l e).1 : Int)).toNat [] (rf4 l e).2.1 (rf4 l e).2.2).1 := rfl
  refine ⟨?_, ?_⟩
  · show (rf2 l e).1.length ≤ 32
    rw [e2]
    omega
  · show (rf5 l e).1.length ≤ 65536
    rw [e5]
    simp at h5
    omega
theorem rfilesP_small : ∀ (n : Nat) (acc : List MFile) (l : List UInt8) (e : Int), (∀ f ∈ acc, smallF f) → (rfilesP n acc l e).1.length ≤ acc.length + n ∧ ∀ f ∈ (rfilesP n acc l e).1, smallF f
  | 0, acc, l, e, h => ⟨by simp [rfilesP], h⟩
  | n + 1, acc, l, e, h => by
    rw [rfilesP]
    split
    · exact ⟨by simp, h⟩
    · have := rfilesP_small n (acc ++ [(rfileP l e).1]) (rfileP l e).2.1 (rfileP l e).2.2 (fun f hf => by
        rcases List.mem_append.1 hf with hf | hf
        · exact h f hf
        · rw [List.mem_singleton.1 hf]; exact rfileP_small l e)
      refine ⟨?_, this.2⟩
      have := this.1
      simp at this
      omega
theorem bodyF_len_small (f : MFile) (h : smallF f) : (bodyF f).length ≤ 721100 := by
  obtain ⟨h1, h2⟩ := h
  rw [bodyF_len]
  have := nums_len f.blocks
  have := (vput_len64 f.name.length (by omega)).2
  have := (vput_len64 f.id.toNat (by have := u32_lt f.id; omega)).2
  have := (vput_len64 (u64Of f.size) (u64Of_lt _)).2
  omega
theorem rman_small (l : List UInt8) : (bodyM (rmanP l)).length ≤ 274877906944 := by
  have h3 := (numS_lt 2048 (rm2 l).2.1 (rm2 l).2.2).2
  have h := rfilesP_small (rm3 l).1 [] (rm3 l).2.1 (rm3 l).2.2 (by simp)
  have e3 : (rm3 l).1 = (numS 2048 (rm2 l).2.1 (rm2 l).2.2).1 := rfl
  have e4 : (rmanP l).files = (rfilesP (rm3 l).1 [] (rm3 l).2.1 (rm3 l).2.2).1 := rfl
  rw [bodyM_len]
  have h1 := h.1
  have h2 := h.2
  rw [← e4] at h1 h2
  have := flat_len_le (rmanP l).files 721100 fun f hf => bodyF_len_small f (h2 f hf)
  simp at h1
  have := (vput_len64 (rmanP l).ver.toNat (u64_lt _)).2
  have := (vput_len64 (rmanP l).next.toNat (by have := u32_lt (rmanP l).next; omega)).2
  have := (vput_len64 (rmanP l).files.length (by omega)).2
  omega
def readE (l : List UInt8) : Int := endE (rm4 l).2.1 (rm4 l).2.2
/-- is a manifest in front? -/
def getOk (b : List UInt8) : Bool := (decide (sE b = 0) && decide (sK b = 77)) && (decide (readE (sL b) = 0) && mayM (rmanP (sL b)))
def getM (b : List UInt8) : MMan := if getOk b = true then rmanP (sL b) else emptyM
theorem info_sec2 : (Try.prog.info? 108).map (·.size) = some 2 := by kernel_rfl
theorem info_secz : (Try.prog.info? 108).map (fun i => (i.zero, i.size, i.bytes)) = some (some (.agg #[.int .u8 0, .slice none 0 0]), 2, 32) := by kernel_rfl
def zeroSc : List Value := [.int .u8 0, .slice none 0 0]
theorem zeroM_enc : zeroMc = encM emptyM (.slice none 0 0) := rfl
set_option maxRecDepth 100000 in
set_option maxHeartbeats 3200000 in
theorem mget_any (w : World) (v : Value) (b : List UInt8) (hby : By w w.heap.size v b) (hl : b.length ≤ 1073741824) :
    Calls Try.prog 32 #[v] w fun ev w' => ∃ v', ev = .returned (.tuple #[v', .int .i64 (if getOk b = true then 0 else 5)]) ∧ MIn w' w.heap.size v' (getM b) ∧ Below w.heap.size w w' := by
  obtain ⟨A, c, rfl, hc1, hc2, hrd0⟩ := id hby
  unfold maxLen at hc2
  obtain ⟨w0, hw0⟩ : ∃ w0, w0 = w.alloc (.cells zeroMc.toArray 56) := ⟨_, rfl⟩
  have hb0 : Below w.heap.size w w0 := by rw [hw0]; exact balloc w _
  have hres0 : BoxAt 56 w0 w.heap.size zeroMc := by rw [hw0]; exact BoxAt.new_ _ _ _
  have Hw0 := Lib.hid hw0
  have Hby := Lib.hid ((hby.below hb0).more hb0.size)
  have Hb0 := Lib.hid hb0
  have Hres0 := Lib.hid hres0
  have hok : getOk b = ((decide (sE b = 0) && decide (sK b = 77)) && (decide (readE (sL b) = 0) && mayM (rmanP (sL b)))) := rfl
  have Hok := Lib.hid hok
  have hsl : (sL b).length ≤ 1073741824 := by
    unfold sL
    split
    · simp; omega
    · simp
  have hgm : getM b = if getOk b = true then rmanP (sL b) else emptyM := rfl
  have Hgm := Lib.hid hgm
  obtain ⟨er, her⟩ : ∃ er : Int, er = if getOk b = true then 0 else 5 := ⟨_, rfl⟩
  rw [← her]
  have Her := Lib.hid her
  clear her
  clear hw0 hb0 hres0 hby hrd0 hok hgm
  go_enter Try.func32, Try.ntmps32
  go_upto_region 1 with (first
    | (refine wpList_alloc_z rfl 56 rfl info_manz zeroMc zeroM_cells ?_))
  try simp only [Act.put, List.setIfInBounds_toArray, List.set_cons_zero, List.set_cons_succ]
  rw [← Hw0.out]
  go_wp2_with fail
  refine (fget_any w0 _ b Hby.out (by omega)).mono ?_
  rintro _ w1 ⟨v1, rfl, ho1, hb1⟩
  obtain ⟨A1, c1, hv1, hd1, hd2, _⟩ := ho1.form_
  have hk8 := u8_lt (sK b)
  have Hb1 := Lib.hid (bstep Hb0.out hb1)
  have Hres1 := Lib.hid (Hres0.out.blwM hb1)
  have Ho1 := Lib.hid ho1.by_
  clear hb1 ho1
  generalize hqE : sE b = E at *
  generalize hqK : sK b = K at *
  generalize hqL : sL b = L at *
  generalize hqN : sN b = Nn at *
  have hone : ∀ u ∈ [Value.int .u8 (K.toNat : Int), v1], u.oneCell' = true := fun u hu => by
    simp at hu
    rcases hu with rfl | rfl
    · rfl
    · rw [hv1]; rfl
  have Hone := Lib.hid hone
  have Hv1 := Lib.hid hv1
  clear hone hv1 hqE hqK hqL hqN
  have hbx := BoxAt.new_ 108 w1 [.int .u8 (K.toNat : Int), v1]
  have hc0 := hbx.cell 0 _ rfl
  have hc1x := hbx.cell 1 _ rfl
  have hb12 := balloc w1 (.cells [Value.int .u8 (K.toNat : Int), v1].toArray 108)
  go_upto_region 2 with (first
    | (refine wpList_alloc_z rfl 108 rfl info_secz zeroSc rfl ?_)
    | (refine wpList_store_new rfl 108 (.tmp 4) (.tmp 11) rfl zeroSc [.int .u8 (K.toNat : Int), v1] rfl rfl info_sec2 rfl Hone.out ?_))
  obtain ⟨w2, hw2⟩ : ∃ w2, w2 = w1.alloc (.cells [Value.int .u8 (K.toNat : Int), v1].toArray 108) := ⟨_, rfl⟩
  rw [← hw2] at hbx hc0 hc1x hb12 ⊢
  have Hw2 := Lib.hid hw2
  have Hb2 := Lib.hid (bstep Hb1.out hb12)
  have Hres2 := Lib.hid (Hres1.out.blwM hb12)
  have Ho2 := Lib.hid ((Ho1.out.below hb12).more hb12.size)
  clear hbx hw2 hb12
  by_cases hE : E = 0
  · have hE1 : (E == 0) = true := beq_iff_eq.2 hE
    by_cases hK : K = 77
    · have hd : decide (E = 0) = true := decide_eq_true hE
      have hd2 : decide (K = 77) = true := decide_eq_true hK
      have Hok2 := Hok
      rw [hd, hd2] at Hok2
      subst hK
      subst hE
      have h77 : (77 : UInt8).toNat = 77 := rfl
      clear hd hd2 hE1
      go_wp2_with fail
      refine (mread_any w2 v1 L Ho2.out hsl).mono ?_
      rintro _ w3 ⟨v3, rfl, hm3, hb3⟩
      have hf3a := hm3.mat
      obtain ⟨vf, rfl, hfi⟩ := hm3
      have hf3 : ByF w3 w3.heap.size vf (rmanP L).files := by obtain ⟨vf', e, h⟩ := hf3a; simp [encM] at e; rw [e]; exact h
      have hin3 : MIn w3 w2.heap.size (.agg (encM (rmanP L) vf).toArray) (rmanP L) := ⟨vf, rfl, hfi⟩
      clear hf3a hfi
      have hrE : endE (rm4 L).2.1 (rm4 L).2.2 = readE L := rfl
      rw [hrE]
      obtain ⟨mm, hmm⟩ : ∃ mm, mm = rmanP L := ⟨_, rfl⟩
      have hsm := rman_small L
      rw [← hmm] at hf3 hsm hin3 ⊢
      rw [← hmm] at Hok2 Hgm
      obtain ⟨Af, cf, hvf, hcf1, hcf2⟩ := hf3.form
      subst hvf
      have Hb3 := Lib.hid (bstep Hb2.out hb3)
      have Hres3 := Lib.hid (Hres2.out.blwM hb3)
      have Hf3 := Lib.hid hf3
      have Hin3 := Lib.hid hin3
      have hs02 : w.heap.size < w2.heap.size := Hres2.out.lt
      have Hsm := Lib.hid hsm
      have hone3 := encM_one mm (.slice Af mm.files.length cf) rfl
      have Hone3 := Lib.hid hone3
      clear hb3 hf3 hin3 hsm hrE hmm hone3 hc0 hc1x Hone h77
      generalize readE L = e at *
      have hbx := BoxAt.new_ 56 w3 (encM mm (.slice Af mm.files.length cf))
      have hb34 := balloc w3 (.cells (encM mm (.slice Af mm.files.length cf)).toArray 56)
      go_upto_region 5 with (first
        | (refine wpList_alloc_z rfl 56 rfl info_manz zeroMc zeroM_cells ?_)
        | (refine wpList_store_new rfl 56 (.tmp 7) (.tmp 26) rfl zeroMc (encM mm (.slice Af mm.files.length cf)) rfl rfl info_man3 rfl Hone3.out ?_))
      obtain ⟨w4, hw4⟩ : ∃ w4, w4 = w3.alloc (.cells (encM mm (.slice Af mm.files.length cf)).toArray 56) := ⟨_, rfl⟩
      rw [← hw4] at hbx hb34 ⊢
      have Hb4 := Lib.hid (bstep Hb3.out hb34)
      have Hres4 := Lib.hid (Hres3.out.blwM hb34)
      have Hf4 := Lib.hid ((Hf3.out.below hb34).more hb34.size)
      have Hbx4 := Lib.hid hbx
      have Hin4 := Lib.hid (Hin3.out.step hb34)
      clear hbx hb34 hw4
      by_cases he : e = 0
      · have hd : decide (e = 0) = true := decide_eq_true he
        rw [hd] at Hok2
        subst he
        go_wp2_with (refine wpList_load_aggG (by first | rfl | simp [Region.wanted, yielded]) 56 (.tmp 7) rfl ⟨w3.heap.size, 0, none⟩ rfl (encM mm (.slice Af mm.files.length cf)) Hbx4.out.cells Try.underlying56 rfl info_man3 ?_)
        refine (may_any w4 _ mm ⟨_, rfl, Hf4.out⟩ Hsm.out).mono ?_
        rintro _ w5 ⟨rfl, hb5⟩
        have Hb5 := Lib.hid (bstep Hb4.out hb5)
        have Hb45 := Lib.hid hb5
        have Hres5 := Lib.hid (Hres4.out.blwM hb5)
        have Hbx5 := Lib.hid (Hbx4.out.blwM hb5)
        have Hf5 := Lib.hid ((Hf4.out.below hb5).more hb5.size)
        clear hb5
        cases hm : mayM mm with
        | false =>
          rw [hm] at Hok2
          have Hf : Hid (getOk b = false) := Hok2
          clear hd hm
          go_wp2_with (refine wpList_store_box rfl 56 56 (.tmp 2) (.tmp 35) rfl w.heap.size zeroMc zeroMc rfl rfl Hres5.out rfl (encM_one emptyM _ rfl) info_man3 ?_; intro hend)
          refine bodyPost_ret (results_ct rfl _ _ w.heap.size zeroMc rfl (fun j v hj => (hend.cells j v hj : _)) Try.underlying56 rfl info_man3) rfl ?_
          have e5 : er = 5 := Her.out.trans (if_neg (by rw [Hf.out]; simp))
          have eM : getM b = emptyM := by rw [Hgm.out]; exact if_neg (by rw [Hf.out]; simp)
          rw [e5, eM]
          exact ⟨_, rfl, MIn.empty _ _, Hb5.out.trans ((Chg.ofGrown (P := fun k => k = w.heap.size) (gsetRow' _ _ _) fun k e => by injection e with e; exact e.symm).below (B := w.heap.size) Hb5.out.size (fun k hk => by omega))⟩
        | true =>
          rw [hm] at Hok2
          have Ht : Hid (getOk b = true) := Hok2
          clear hd hm
          go_wp2_with (first
            | (refine wpList_load_agg rfl 56 (.tmp 7) rfl ⟨w3.heap.size, 0, none⟩ rfl (encM mm (.slice Af mm.files.length cf)) Hbx5.out.cells Try.underlying56 rfl info_man3 ?_)
            | (refine wpList_store_box rfl 56 56 (.tmp 2) (.tmp 36) rfl w.heap.size zeroMc (encM mm (.slice Af mm.files.length cf)) rfl rfl Hres5.out rfl Hone3.out info_man3 ?_; intro hend))
          refine bodyPost_ret (results_ct rfl _ _ w.heap.size (encM mm (.slice Af mm.files.length cf)) rfl (fun j v hj => (hend.cells j v hj : _)) Try.underlying56 rfl info_man3) rfl ?_
          have hch : Chg (fun k => k = w.heap.size) w5 (w5.setRow w.heap.size (encM mm (.slice Af mm.files.length cf)).toArray) := Chg.ofGrown (gsetRow' _ _ _) fun k e => by injection e with e; exact e.symm
          rw [Hgm.out, if_pos Ht.out, Her.out, if_pos Ht.out]
          have hin := (Hin4.out.step Hb45.out).chg hch (fun k hk => by omega)
          exact ⟨_, rfl, hin.low (by omega), Hb5.out.trans (hch.below (B := w.heap.size) Hb5.out.size (fun k hk => by omega))⟩
      · have hd : decide (e = 0) = false := decide_eq_false he
        have hd2 : (e == 0) = false := beq_eq_false_iff_ne.2 he
        rw [hd] at Hok2
        have Hf : Hid (getOk b = false) := Hok2
        have hd3 : (e != 0) = true := by simp [bne, hd2]
        clear hd hd2 he
        go_wp2_with (refine wpList_store_box rfl 56 56 (.tmp 2) (.tmp 35) rfl w.heap.size zeroMc zeroMc rfl rfl Hres4.out rfl (encM_one emptyM _ rfl) info_man3 ?_; intro hend)
        refine bodyPost_ret (results_ct rfl _ _ w.heap.size zeroMc rfl (fun j v hj => (hend.cells j v hj : _)) Try.underlying56 rfl info_man3) rfl ?_
        have e5 : er = 5 := Her.out.trans (if_neg (by rw [Hf.out]; simp))
        have eM : getM b = emptyM := by rw [Hgm.out]; exact if_neg (by rw [Hf.out]; simp)
        rw [e5, eM]
        exact ⟨_, rfl, MIn.empty _ _, Hb4.out.trans ((Chg.ofGrown (P := fun k => k = w.heap.size) (gsetRow' _ _ _) fun k e => by injection e with e; exact e.symm).below (B := w.heap.size) Hb4.out.size (fun k hk => by omega))⟩
    · have hd : decide (K = 77) = false := decide_eq_false hK
      have hK2 : ((K.toNat : Int) == 77) = false := beq_eq_false_iff_ne.2 (fun e => hK (by rw [← UInt8.toNat_inj]; show K.toNat = 77; omega))
      have hf : getOk b = false := by rw [Hok.out, hd]; simp
      have Hf := Lib.hid hf
      subst hE
      clear hd hf hK hE1
      go_wp2_with (refine wpList_store_box rfl 56 56 (.tmp 2) (.tmp 21) rfl w.heap.size zeroMc zeroMc rfl rfl Hres2.out rfl (encM_one emptyM _ rfl) info_man3 ?_; intro hend)
      refine bodyPost_ret (results_ct rfl _ _ w.heap.size zeroMc rfl (fun j v hj => (hend.cells j v hj : _)) Try.underlying56 rfl info_man3) rfl ?_
      have e5 : er = 5 := Her.out.trans (if_neg (by rw [Hf.out]; simp))
      have eM : getM b = emptyM := by rw [Hgm.out]; exact if_neg (by rw [Hf.out]; simp)
      rw [e5, eM]
      exact ⟨_, rfl, MIn.empty _ _, Hb2.out.trans ((Chg.ofGrown (P := fun k => k = w.heap.size) (gsetRow' _ _ _) fun k e => by injection e with e; exact e.symm).below (B := w.heap.size) Hb2.out.size (fun k hk => by omega))⟩
  · have hd : decide (E = 0) = false := decide_eq_false hE
    have hE2 : (E == 0) = false := beq_eq_false_iff_ne.2 hE
    have hf : getOk b = false := by rw [Hok.out, hd]; simp
    have Hf := Lib.hid hf
    clear hd hf hE
    go_wp2_with (refine wpList_store_box rfl 56 56 (.tmp 2) (.tmp 21) rfl w.heap.size zeroMc zeroMc rfl rfl Hres2.out rfl (encM_one emptyM _ rfl) info_man3 ?_; intro hend)
    refine bodyPost_ret (results_ct rfl _ _ w.heap.size zeroMc rfl (fun j v hj => (hend.cells j v hj : _)) Try.underlying56 rfl info_man3) rfl ?_
    have e5 : er = 5 := Her.out.trans (if_neg (by rw [Hf.out]; simp))
    have eM : getM b = emptyM := by rw [Hgm.out]; exact if_neg (by rw [Hf.out]; simp)
    rw [e5, eM]
    exact ⟨_, rfl, MIn.empty _ _, Hb2.out.trans ((Chg.ofGrown (P := fun k => k = w.heap.size) (gsetRow' _ _ _) fun k e => by injection e with e; exact e.symm).below (B := w.heap.size) Hb2.out.size (fun k hk => by omega))⟩
end Go.Proofs.Ytpoicbhbkabllaa

namespace Go.Proofs.Ytpoicbhbkabllaa
set_option linter.unusedSimpArgs false
set_option linter.unusedVariables false
open Go.RowKit

theorem chg_setRow (w : World) (g : Nat) (cs : Array Value) : Chg (fun k => k = g) w (w.setRow g cs) := Chg.ofGrown (gsetRow' w g cs) fun k e => (Option.some.inj e).symm
theorem wpList_store_boxW {ops : Array Oper} {rest : List Oper} {o : Oper} {a : Act} {w : World} {Q : Exit → Act → World → Prop} (hgd : o.guard = none) (T T' : TypeId) (x y : Operand) (ho : o.op = .store T x y)
    (g : Nat) (cs ds : List Value) (hx : a.eval x = .pointer (some ⟨g, 0, none⟩)) (hy : a.eval y = .agg ds.toArray) (hs : BoxAt T' w g cs) (hl : ds.length = cs.length) (h1 : ∀ u ∈ ds, u.oneCell' = true)
    (hi : (Try.prog.info? T).map (·.size) = some ds.length)
    (h : ∀ w', BoxAt T' w' g ds → Chg (fun k => k = g) w w' → w'.heap.size = w.heap.size → wpList Try.prog ops Q rest (a.put o.dst undef) w') : wpList Try.prog ops Q (o :: rest) a w :=
  wpList_store_box hgd T T' x y ho g cs ds hx hy hs hl h1 hi fun hb => h (w.setRow g ds.toArray) hb (chg_setRow w g ds.toArray) (by simp)
theorem wpList_store_newW {ops : Array Oper} {rest : List Oper} {o : Oper} {a : Act} {w : World} {Q : Exit → Act → World → Prop} (hgd : o.guard = none) (T : TypeId) (x y : Operand) (ho : o.op = .store T x y)
    (cs ds : List Value) (hx : a.eval x = .pointer (some ⟨w.heap.size, 0, none⟩)) (hy : a.eval y = .agg ds.toArray) (hi : (Try.prog.info? T).map (·.size) = some ds.length) (hl : cs.length = ds.length) (h1 : ∀ u ∈ ds, u.oneCell' = true)
    (h : ∀ w', BoxAt T w' w.heap.size ds → Below w.heap.size w w' → w'.heap.size = w.heap.size + 1 → wpList Try.prog ops Q rest (a.put o.dst undef) w') : wpList Try.prog ops Q (o :: rest) a (w.alloc (.cells cs.toArray T)) :=
  wpList_store_new hgd T x y ho cs ds hx hy hi hl h1 (h _ (BoxAt.new_ _ _ _) (balloc _ _) (by simp))
end Go.Proofs.Ytpoicbhbkabllaa

namespace Go.Proofs.Ytpoicbhbkabllaa
set_option linter.unusedSimpArgs false
set_option linter.unusedVariables false
open Go.RowKit

theorem MFile.ext' {a b : MFile} (h1 : a.name = b.name) (h2 : a.id = b.id) (h3 : a.size = b.size) (h4 : a.blocks = b.blocks) : a = b := by
  cases a; cases b; simp_all
theorem MMan.ext' {a b : MMan} (h1 : a.ver = b.ver) (h2 : a.next = b.next) (h3 : a.files = b.files) : a = b := by
  cases a; cases b; simp_all
theorem u64_beq (a b : UInt64) : (((a.toNat : Nat) : Int) == ((b.toNat : Nat) : Int)) = decide (a = b) := by
  by_cases h : a = b
  · subst h; simp
  · have : a.toNat ≠ b.toNat := fun e => h (UInt64.toNat_inj.1 e)
    rw [decide_eq_false h]
    exact beq_eq_false_iff_ne.2 (by omega)
theorem u32_beq (a b : UInt32) : (((a.toNat : Nat) : Int) == ((b.toNat : Nat) : Int)) = decide (a = b) := by
  by_cases h : a = b
  · subst h; simp
  · have : a.toNat ≠ b.toNat := fun e => h (UInt32.toNat_inj.1 e)
    rw [decide_eq_false h]
    exact beq_eq_false_iff_ne.2 (by omega)
set_option maxRecDepth 100000 in
set_option maxHeartbeats 6400000 in
theorem msame_any (w : World) (va vb : Value) (a b : MMan) (ha : MAt w w.heap.size va a) (hb : MAt w w.heap.size vb b) (r : Bool) (hr : r = true ↔ a = b) :
    Calls Try.prog 34 #[va, vb] w fun e w' => e = .returned (.bool r) ∧ Below w.heap.size w w' := by
  have hrf : a ≠ b → r = false := fun hne => by
    cases hh : r with
    | false => rfl
    | true => exact absurd (hr.1 hh) hne
  have Hrf := Lib.hid hrf
  have Hrt := Lib.hid hr.2
  clear hrf hr
  obtain ⟨vf, rfl, hf⟩ := ha
  obtain ⟨vg, rfl, hg⟩ := hb
  obtain ⟨A, c, rfl, hc1, hc2⟩ := hf.form
  obtain ⟨A', c', rfl, hd1, hd2⟩ := hg.form
  unfold maxLen at hc2 hd2
  obtain ⟨w0, hw0⟩ : ∃ w0, w0 = w.alloc (.cells (encM a (.slice A a.files.length c)).toArray 56) := ⟨_, rfl⟩
  have hb0 : Below w.heap.size w w0 := by rw [hw0]; exact balloc w _
  have hx0 : BoxAt 56 w0 w.heap.size (encM a (.slice A a.files.length c)) := by rw [hw0]; exact BoxAt.new_ _ _ _
  have hz0 : w0.heap.size = w.heap.size + 1 := by rw [hw0]; simp
  obtain ⟨w1, hw1⟩ : ∃ w1, w1 = w0.alloc (.cells (encM b (.slice A' b.files.length c')).toArray 56) := ⟨_, rfl⟩
  have hb1 : Below w0.heap.size w0 w1 := by rw [hw1]; exact balloc _ _
  have hx1 : BoxAt 56 w1 w0.heap.size (encM b (.slice A' b.files.length c')) := by rw [hw1]; exact BoxAt.new_ _ _ _
  have hz1 : w1.heap.size = w.heap.size + 1 + 1 := by rw [hw1]; simp [hz0]
  rw [hz0] at hx1
  have hbb := bstep hb0 hb1
  have Xa := Lib.hid (hx0.blwM hb1)
  have Xb := Lib.hid hx1
  have Hf := Lib.hid (hf.below hbb)
  have Hg := Lib.hid (hg.below hbb)
  have Hb := Lib.hid hbb
  have a0 := (hx0.blwM hb1).cell 0 _ rfl
  have a1 := (hx0.blwM hb1).cell 1 _ rfl
  have a2 := (hx0.blwM hb1).cell 2 _ rfl
  have b0 := hx1.cell 0 _ rfl
  have b1 := hx1.cell 1 _ rfl
  have b2 := hx1.cell 2 _ rfl
  have Hw0 := Lib.hid hw0
  have Hw1 := Lib.hid hw1
  have e64 := u64_beq a.ver b.ver
  have e32 := u32_beq a.next b.next
  clear hw0 hw1 hx0 hx1 hb0 hb1 hbb hf hg
  go_enter Try.func34, Try.ntmps34
  go_upto_region 1 with (fail)
  rw [← Hw0.out, ← Hw1.out]
  try simp only [hz0]
  by_cases h1 : a.ver = b.ver
  · have h1d : decide (a.ver = b.ver) = true := decide_eq_true h1
    rw [h1d] at e64
    have e64' : (((a.ver.toNat : Nat) : Int) != ((b.ver.toNat : Nat) : Int)) = false := by simp [bne, e64]
    have H1 := Lib.hid h1
    clear h1 h1d
    by_cases h2 : a.next = b.next
    · have h2d : decide (a.next = b.next) = true := decide_eq_true h2
      rw [h2d] at e32
      have e32' : (((a.next.toNat : Nat) : Int) != ((b.next.toNat : Nat) : Int)) = false := by simp [bne, e32]
      have H2 := Lib.hid h2
      clear h2 h2d
      by_cases h3 : a.files.length = b.files.length
      · have H3 := Lib.hid h3
        have h3d : (((a.files.length : Nat) : Int) == ((b.files.length : Nat) : Int)) = true := by simp [h3]
        have h3d' : (((a.files.length : Nat) : Int) != ((b.files.length : Nat) : Int)) = false := by simp [bne, h3d]
        clear h3
        go_wp2_with fail
        go_loopw [33] (fun iv wr => ∃ k : Nat, k ≤ a.files.length ∧ iv = .int .i64 k ∧ (∀ j, (hj : j < k) → (hj1 : j < a.files.length) → (hj2 : j < b.files.length) → a.files[j] = b.files[j]) ∧ Below w1.heap.size w1 wr) (fun i _ => a.files.length - (intOf i).toNat)
        case atStart => exact ⟨0, by omega, rfl, fun j hj => by omega, Below.refl _ _⟩
        case round =>
          obtain ⟨k, hk, rfl, hall, hbr⟩ := hrel
          have Hall := Lib.hid hall
          have Hbr := Lib.hid hbr
          have a2r := (Xa.out.blwM hbr).cell 2 _ rfl
          have b2r := (Xb.out.blwM hbr).cell 2 _ rfl
          have hsr := hbr.size
          have Xar := Lib.hid (Xa.out.blwM hbr)
          have Xbr := Lib.hid (Xb.out.blwM hbr)
          clear hall hbr a0 a1 a2 b0 b1 b2
          by_cases hlt : k < a.files.length
          · have hlt2 : k < b.files.length := by have := H3.out; omega
            obtain ⟨_, ad, xb, rfl, hab, hbI, hfo, hcl⟩ := (Hf.out.below (Hbr.out.mono (by omega))).cells k hlt
            obtain ⟨_, bd, yb, rfl, hab2, hbI2, hfo2, hcl2⟩ := (Hg.out.below (Hbr.out.mono (by omega))).cells k hlt2
            obtain ⟨Ax, cx, rfl, hx1, hx2⟩ := hbI.form
            obtain ⟨Ay, cy, rfl, hy1, hy2⟩ := hbI2.form
            have hstep : a.files[k] = b.files[k] → ∀ j, (hj : j < k + 1) → (hj1 : j < a.files.length) → (hj2 : j < b.files.length) → a.files[j] = b.files[j] := fun he j hj hj1 hj2 => by
              rcases Nat.lt_or_ge j k with h | h
              · exact Hall.out j h hj1 hj2
              · obtain rfl : j = k := by omega
                exact he
            have hno : a.files[k] ≠ b.files[k] → a ≠ b := fun hne e => hne (by subst e; rfl)
            have Hstep := Lib.hid hstep
            have Hno := Lib.hid hno
            have Hcl := Lib.hid hcl
            have Hcl2 := Lib.hid hcl2
            have HbI := Lib.hid hbI
            have HbI2 := Lib.hid hbI2
            clear hstep hno hcl hcl2 hbI hbI2
            unfold maxLen at hx2 hy2
            generalize a.files[k] = f at *
            generalize b.files[k] = g at *
            go_upto_region 8 with (first
              | (refine wpList_load_agg rfl 62 (.tmp 39) rfl (ad.add (k * 4)) rfl (encF f (.slice Ax f.blocks.length cx)) Hcl.out Try.underlying62 rfl info_file4 ?_)
              | (refine wpList_alloc_z rfl 62 rfl info_file zeroFc zeroF_cells ?_)
              | (refine wpList_store_newW rfl 62 (.tmp 6) (.tmp 40) rfl zeroFc (encF f (.slice Ax f.blocks.length cx)) rfl rfl info_file4 rfl (encF_one _ _ rfl) ?_
                 intro w5 hbx5 hb5 hz5
                 have b2r5 := (Xbr.out.blwM hb5).cell 2 _ rfl
                 have Hcl5 : Hid (∀ (j : Nat) (u : Value), (encF g (.slice Ay g.blocks.length cy))[j]? = some u → w5.cell? ((bd.add (k * 4)).add j) = some u) := Lib.hid fun j u hu => (hb5.cell (by rw [add_block, add_block]; omega)).trans (Hcl2.out j u hu)
                 have Hb5 := Lib.hid hb5
                 have Hz5 := Lib.hid hz5
                 have Hbx5 := Lib.hid hbx5
                 clear hb5 hz5 hbx5)
              | (refine wpList_load_agg rfl 62 (.tmp 44) rfl (bd.add (k * 4)) rfl (encF g (.slice Ay g.blocks.length cy)) Hcl5.out Try.underlying62 rfl info_file4 ?_)
              | (refine wpList_store_newW rfl 62 (.tmp 7) (.tmp 45) rfl zeroFc (encF g (.slice Ay g.blocks.length cy)) rfl rfl info_file4 rfl (encF_one _ _ rfl) ?_
                 intro w6 hbx6 hb6 hz6))
            try simp only [Act.put, List.setIfInBounds_toArray, List.set_cons_zero, List.set_cons_succ]
            have fbx := Hbx5.out.blwM hb6
            have f0 := fbx.cell 0 _ rfl
            have f1 := fbx.cell 1 _ rfl
            have f2 := fbx.cell 2 _ rfl
            have f3 := fbx.cell 3 _ rfl
            have g0 := hbx6.cell 0 _ rfl
            have g1 := hbx6.cell 1 _ rfl
            have g2 := hbx6.cell 2 _ rfl
            have g3 := hbx6.cell 3 _ rfl
            have Hb6 := Lib.hid ((Hbr.out.trans (Hb5.out.mono hsr)).trans (hb6.mono (by have := Hz5.out; omega)))
            have Hend := Lib.hid (Hb.out.trans (Hb6.out.mono (by omega)))
            have Hb16 := Lib.hid (show Below w1.heap.size w1 w6 from Hb6.out)
            have HbI6 := Lib.hid (HbI.out.below ((Hb5.out.mono (by omega)).trans (hb6.mono (by have := Hz5.out; omega))))
            have HbI26 := Lib.hid (HbI2.out.below ((Hb5.out.mono (by omega)).trans (hb6.mono (by have := Hz5.out; omega))))
            have Fbx := Lib.hid fbx
            have Gbx := Lib.hid hbx6
            clear hb6 hz6 hbx6 fbx Hb5 Hbx5 Hcl5 b2r5 a2r b2r
            have hsq : ((bst f.name).toList == (bst g.name).toList) = decide (f.name = g.name) := by rw [bst_toList, bst_toList]; by_cases h : f.name = g.name <;> simp [h]
            have e32f := u32_beq f.id g.id
            by_cases q1 : f.name = g.name
            · rw [decide_eq_true q1] at hsq
              have hsq' : ((bst f.name).toList != (bst g.name).toList) = false := by simp [bne, hsq]
              by_cases q2 : f.id = g.id
              · rw [decide_eq_true q2] at e32f
                have e32f' : (((f.id.toNat : Nat) : Int) != ((g.id.toNat : Nat) : Int)) = false := by simp [bne, e32f]
                by_cases q3 : f.size = g.size
                · have e3 : (f.size == g.size) = true := by simp [q3]
                  have e3' : (f.size != g.size) = false := by simp [q3]
                  by_cases q4 : f.blocks.length = g.blocks.length
                  · have e4 : (((f.blocks.length : Nat) : Int) == ((g.blocks.length : Nat) : Int)) = true := by simp [q4]
                    have e4' : (((f.blocks.length : Nat) : Int) != ((g.blocks.length : Nat) : Int)) = false := by simp [q4]
                    have Q1 := Lib.hid q1
                    have Q2 := Lib.hid q2
                    have Q3 := Lib.hid q3
                    have Q4 := Lib.hid q4
                    clear q1 q2 q3 q4
                    go_wp2_with fail
                    go_loopw [77] (fun iv X => ∃ q : Nat, q ≤ f.blocks.length ∧ iv = .int .i64 q ∧ (∀ j, (hj : j < q) → (hj1 : j < f.blocks.length) → (hj2 : j < g.blocks.length) → f.blocks[j] = g.blocks[j]) ∧ Below w6.heap.size w6 X) (fun i _ => f.blocks.length - (intOf i).toNat)
                    case atStart => exact ⟨0, by omega, rfl, fun j hj => by omega, Below.refl _ _⟩
                    case round =>
                      obtain ⟨q, hq, rfl, hallq, hbx⟩ := hrel
                      have Hallq := Lib.hid hallq
                      have Hbx := Lib.hid hbx
                      have f3x := (Fbx.out.blwM hbx).cell 3 _ rfl
                      have g3x := (Gbx.out.blwM hbx).cell 3 _ rfl
                      have hsx := hbx.size
                      have hs61 := Hb6.out.size
                      clear hallq hbx f0 f1 f2 f3 g0 g1 g2 g3
                      by_cases hql : q < f.blocks.length
                      · have hql2 : q < g.blocks.length := by have := Q4.out; omega
                        obtain ⟨_, p1, rfl, hp1, hk1, _, _⟩ := (HbI6.out.below (Hbx.out.mono (by omega))).cells q hql
                        obtain ⟨_, p2, rfl, hp2, hk2, _, _⟩ := (HbI26.out.below (Hbx.out.mono (by omega))).cells q hql2
                        have Hst : Hid (f.blocks[q] = g.blocks[q] → ∀ j, (hj : j < q + 1) → (hj1 : j < f.blocks.length) → (hj2 : j < g.blocks.length) → f.blocks[j] = g.blocks[j]) := fun he j hj hj1 hj2 => by
                          rcases Nat.lt_or_ge j q with h | h
                          · exact Hallq.out j h hj1 hj2
                          · obtain rfl : j = q := by omega
                            exact he
                        have Hnq : Hid (f.blocks[q] ≠ g.blocks[q] → f ≠ g) := fun hne e => hne (by subst e; rfl)
                        generalize f.blocks[q] = x at *
                        generalize g.blocks[q] = y at *
                        by_cases he : x = y
                        · have ee : (x == y) = true := by simp [he]
                          have ee' : (x != y) = false := by simp [he]
                          have Hs2 := Lib.hid (Hst.out he)
                          clear he
                          go_wp2_with fail
                          go_quiet (fail)
                          go_wp2_with fail
                          go_roundw
                          case rel => exact ⟨q + 1, by omega, by go_num, Hs2.out, Hbx.out.trans (bdrewN (Below.refl _ _) _)⟩
                          case measure => simp [intOf]; omega
                        · have ee : (x == y) = false := beq_eq_false_iff_ne.2 he
                          have ee' : (x != y) = true := by simp [bne, ee]
                          have Hne := Lib.hid (Hrf.out (Hno.out (Hnq.out he)))
                          clear he
                          go_wp2_with fail
                          go_quiet (fail)
                          go_wp2_with fail
                          go_ret
                          exact ⟨by rw [Hne.out]; rfl, (Hend.out.trans (Hbx.out.mono (by omega))).trans (bdrewN (Below.refl _ _) _)⟩
                      · obtain rfl : q = f.blocks.length := by omega
                        have hfg : f = g := MFile.ext' Q1.out Q2.out Q3.out (List.ext_getElem Q4.out fun j h1 h2 => Hallq.out j h1 h1 h2)
                        have Hnext := Lib.hid (Hstep.out hfg)
                        clear hfg
                        go_wp2_with fail
                        go_roundw
                        case rel => exact ⟨k + 1, by omega, by go_num, Hnext.out, Hb16.out.trans (Hbx.out.mono (by omega))⟩
                        case measure => simp [intOf]; omega
                  · have e4 : (((f.blocks.length : Nat) : Int) == ((g.blocks.length : Nat) : Int)) = false := by simp; omega
                    have e4' : (((f.blocks.length : Nat) : Int) != ((g.blocks.length : Nat) : Int)) = true := by simp; omega
                    have Hne := Lib.hid (Hrf.out (Hno.out (fun e => q4 (by rw [e]))))
                    clear q1 q2 q3 q4
                    go_wp2_with fail
                    go_ret
                    exact ⟨by rw [Hne.out]; rfl, Hend.out⟩
                · have e3 : (f.size == g.size) = false := beq_eq_false_iff_ne.2 q3
                  have e3' : (f.size != g.size) = true := by simp [bne, e3]
                  have Hne := Lib.hid (Hrf.out (Hno.out (fun e => q3 (by rw [e]))))
                  clear q1 q2 q3
                  go_wp2_with fail
                  go_ret
                  exact ⟨by rw [Hne.out]; rfl, Hend.out⟩
              · rw [decide_eq_false q2] at e32f
                have e32f' : (((f.id.toNat : Nat) : Int) != ((g.id.toNat : Nat) : Int)) = true := by simp [bne, e32f]
                have Hne := Lib.hid (Hrf.out (Hno.out (fun e => q2 (by rw [e]))))
                clear q1 q2
                go_wp2_with fail
                go_ret
                exact ⟨by rw [Hne.out]; rfl, Hend.out⟩
            · rw [decide_eq_false q1] at hsq
              have hsq' : ((bst f.name).toList != (bst g.name).toList) = true := by simp [bne, hsq]
              have Hne := Lib.hid (Hrf.out (Hno.out (fun e => q1 (by rw [e]))))
              clear q1
              go_wp2_with fail
              go_ret
              exact ⟨by rw [Hne.out]; rfl, Hend.out⟩
          · obtain rfl : k = a.files.length := by omega
            have heq : a = b := MMan.ext' H1.out H2.out (List.ext_getElem H3.out fun j h1 h2 => Hall.out j h1 h1 h2)
            have Heq := Lib.hid heq
            clear heq
            go_wp2_with fail
            go_ret
            have hrt := Hrt.out Heq.out
            exact ⟨by rw [hrt]; rfl, Hb.out.trans (Hbr.out.mono (by omega))⟩
      · have h3d : (((a.files.length : Nat) : Int) == ((b.files.length : Nat) : Int)) = false := by simp; omega
        have h3d' : (((a.files.length : Nat) : Int) != ((b.files.length : Nat) : Int)) = true := by simp [bne, h3d]
        have hne : a ≠ b := fun e => h3 (by rw [e])
        have Hne := Lib.hid (Hrf.out hne)
        clear h3 hne
        go_wp2_with fail
        go_ret
        exact ⟨by rw [Hne.out]; rfl, Hb.out⟩
    · have h2d : decide (a.next = b.next) = false := decide_eq_false h2
      rw [h2d] at e32
      have e32' : (((a.next.toNat : Nat) : Int) != ((b.next.toNat : Nat) : Int)) = true := by simp [bne, e32]
      have hne : a ≠ b := fun e => h2 (by rw [e])
      have Hne := Lib.hid (Hrf.out hne)
      clear h2 hne h2d
      go_wp2_with fail
      go_ret
      exact ⟨by rw [Hne.out]; rfl, Hb.out⟩
  · have h1d : decide (a.ver = b.ver) = false := decide_eq_false h1
    rw [h1d] at e64
    have e64' : (((a.ver.toNat : Nat) : Int) != ((b.ver.toNat : Nat) : Int)) = true := by simp [bne, e64]
    have hne : a ≠ b := fun e => h1 (by rw [e])
    have Hne := Lib.hid (Hrf.out hne)
    clear h1 hne h1d
    go_wp2_with fail
    go_ret
    exact ⟨by rw [Hne.out]; rfl, Hb.out⟩
end Go.Proofs.Ytpoicbhbkabllaa

namespace Go.Proofs.Ytpoicbhbkabllaa
set_option linter.unusedSimpArgs false
set_option linter.unusedVariables false
open Go.RowKit

theorem stp_even' (x : UInt32) (h : ¬ (x.toNat : Int) % 2 = 1) : ((x.toNat : Int) / 2) = ((stp x).toNat : Int) := by
  have h2 : x.toNat % 2 = 0 := by omega
  rw [stp_even x h2]
  simp [UInt32.toNat_shiftRight, Nat.shiftRight_eq_div_pow]
theorem stp_odd' (x : UInt32) (h : (x.toNat : Int) % 2 = 1) : bits BinOp.xor IntKind.u32 ((x.toNat : Int) / 2) 3988292384 = ((stp x).toNat : Int) := by
  have := stp_walk x
  rw [h] at this
  simpa using this
theorem updB_run (x : UInt32) (l : List UInt8) : l.foldl updB x = run x l := by
  unfold run
  induction l generalizing x with
  | nil => rfl
  | cons c l ih => rw [List.foldl_cons, List.foldl_cons, ih, upd_bits]

set_option maxRecDepth 100000 in
set_option maxHeartbeats 800000 in
theorem rsum_any (w : World) (B : Nat) (v : Value) (l : List UInt8) (hby : By w B v l) :
    Calls Try.prog 102 #[v] w fun e w' => e = .returned (.int .u32 ((crcOf l).toNat : Int)) ∧ Below w.heap.size w w' := by
  obtain ⟨A, c, rfl, hc1, hc2, hrd⟩ := hby
  unfold maxLen at hc2
  go_enter Try.func102, Try.ntmps102
  go_wp2
  go_loop [3, 8] (fun x i => ∃ k : Nat, k ≤ l.length ∧ i = .int .i64 k ∧ x = .int .u32 ((run 4294967295 (l.take k)).toNat : Int)) (fun _ i => l.length - (intOf i).toNat)
  case atStart => exact ⟨0, by omega, rfl, rfl⟩
  case round =>
    obtain ⟨k, hk, rfl, rfl⟩ := hrel
    by_cases hlt : k < l.length
    · obtain ⟨ad, rfl, _, hcs⟩ := hrd.ad (by omega)
      have hcell := hcs k _ (b8s_get l k hlt)
      have hst : run 4294967295 (l.take (k + 1)) = stps 8 (run 4294967295 (l.take k) ^^^ (l[k]).toUInt32) := by
        rw [List.take_succ_eq_append_getElem hlt, run_snoc, upd_bits]; rfl
      have Hst := Lib.hid hst
      clear hcs hst
      generalize l[k] = b at *
      generalize run 4294967295 (l.take k) = x at *
      have hx : bits BinOp.xor IntKind.u32 (x.toNat : Int) (b.toNat : Int) = ((x ^^^ b.toUInt32).toNat : Int) := by
        rw [← xor_u32, ← wrap_u32_u8, IntKind.wrap_u32']
        have := u8_lt b
        congr 1; omega
      have hb := u8_lt b
      generalize x ^^^ b.toUInt32 = y at *
      go_wp2
      go_loop [3, 5] (fun x i => ∃ j : Nat, j ≤ 8 ∧ i = .int .i64 j ∧ x = .int .u32 ((stps j y).toNat : Int)) (fun _ i => 8 - (intOf i).toNat)
      case atStart => exact ⟨0, by omega, rfl, rfl⟩
      case round =>
        obtain ⟨j, hj, rfl, rfl⟩ := hrel
        by_cases hlt2 : j < 8
        · have hss := stps_succ j y
          have Hss := Lib.hid hss
          clear hss
          generalize stps j y = z at *
          have hzl := u32_lt z
          by_cases hodd : (z.toNat : Int) % 2 = 1
          · have h1 := stp_odd' z hodd
            have h2 : ((z.toNat : Int) % 2 == 1) = true := by simpa using hodd
            clear hodd
            go_wp2
            go_round
            case rel => exact ⟨j + 1, by omega, by go_num, by rw [Hss.out, ← h1]⟩
            case measure => simp [intOf]; omega
          · have h1 := stp_even' z hodd
            have h2 : ((z.toNat : Int) % 2 == 1) = false := by simpa using hodd
            clear hodd
            go_wp2
            go_round
            case rel => exact ⟨j + 1, by omega, by go_num, by rw [Hss.out, ← h1]⟩
            case measure => simp [intOf]; omega
        · obtain rfl : j = 8 := by omega
          go_wp2
          go_round
          case rel => exact ⟨k + 1, by omega, by go_num, by rw [Hst.out]⟩
          case measure => simp [intOf]; omega
    · obtain rfl : k = l.length := by omega
      have hfin : bits BinOp.xor IntKind.u32 ((run 4294967295 l).toNat : Int) 4294967295 = ((crcOf l).toNat : Int) := by
        have := xor_u32 (run 4294967295 l) 4294967295
        rw [show ((4294967295 : UInt32).toNat : Int) = 4294967295 from rfl] at this
        rw [this]
        show ((run 4294967295 l ^^^ (-1)).toNat : Int) = _
        rw [UInt32.xor_neg_one]; rfl
      rw [List.take_length]
      go_wp2
      go_ret
      refine ⟨?_, Below.refl _ _⟩
      rfl

set_option maxHeartbeats 400000 in
theorem rfour_any (w : World) (x : UInt32) :
    Calls Try.prog 100 #[.int .u32 (x.toNat : Int)] w fun e w' => ∃ v, e = .returned v ∧ Ow w' w.heap.size v (four x) ∧ Below w.heap.size w w' := by
  have h0 := fourAt0 x
  have h1 := fourAt1 x
  have h2 := fourAt2 x
  have h3 : (x.toNat : Int) / 16777216 = ((fourAt x 3).toNat : Int) := by
    rw [← fourAt3 x]; have := u32_lt x; omega
  have hn := Ow.new_ w (four x) (by simp [four_length, maxLen])
  have hb := balloc w (.cells (b8s (four x)).toArray 5)
  have hx := u32_lt x
  have g0 := u8_lt (fourAt x 0)
  have g1 := u8_lt (fourAt x 1)
  have g2 := u8_lt (fourAt x 2)
  have g3 := u8_lt (fourAt x 3)
  have hv : (b8s (four x)).toArray = #[.int .u8 ((fourAt x 0).toNat : Int), .int .u8 ((fourAt x 1).toNat : Int), .int .u8 ((fourAt x 2).toNat : Int), .int .u8 ((fourAt x 3).toNat : Int)] := rfl
  rw [hv] at hn hb
  clear hv
  generalize fourAt x 0 = b0 at *
  generalize fourAt x 1 = b1 at *
  generalize fourAt x 2 = b2 at *
  generalize fourAt x 3 = b3 at *
  go_enter Try.func100, Try.ntmps100
  go_wp2
  go_ret
  exact ⟨_, rfl, hn, hb⟩

set_option maxHeartbeats 400000 in
theorem rmark_any (w : World) (v : Value) (l : List UInt8) (hby : By w w.heap.size v l) (hsz : l.length ≤ 1099511627776) :
    Calls Try.prog 99 #[v] w fun e w' => ∃ v', e = .returned v' ∧ Ow w' w.heap.size v' (markOf l) ∧ Below w.heap.size w w' := by
  have hby0 := hby
  obtain ⟨A, c, rfl, hc1, hc2, hrd⟩ := hby
  go_enter Try.func99, Try.ntmps99
  go_wp2_with (first
    | (at_builtin
       refine wpList_app8 rfl (.tmp 4) (.tmp 5) rfl (Ow.new_ w [] (Nat.zero_le _)) (hby0.alloc (Nat.le_refl _) _) rfl rfl (by simp; omega) (by simp) ?_
       intro v1 w1 hown1 hext1
       have hb1 := (balloc w _).trans (hext1.below (by simp) (by simp [Value.ownBlock])))
    | (go_at_call 102; refine (rsum_any _ _ _ l (hby0.below hb1)).mono ?_; rintro e w2 ⟨rfl, hb2⟩)
    | (go_at_call 100; refine (rfour_any _ _).mono ?_; rintro e w3 ⟨v3, rfl, hown3, hb3⟩)
    | (at_builtin
       refine wpList_app8 rfl (.tmp 7) (.tmp 10) rfl ((hown1.below_ hb2).below_ hb3) hown3.by_ rfl rfl (by simp [four_length]; omega) (bstep hb1 (bstep hb2 hb3)).size ?_
       intro v4 w4 hown4 hext4))
  go_ret
  exact ⟨_, rfl, hown4, (bstep hb1 (bstep hb2 hb3)).trans (hext4.below (bstep hb1 (bstep hb2 hb3)).size fun k hk => (hown1.blk k hk).1)⟩
end Go.Proofs.Ytpoicbhbkabllaa

namespace Go.Proofs.Ytpoicbhbkabllaa
set_option linter.unusedSimpArgs false
set_option linter.unusedVariables false
open Go.RowKit

set_option maxRecDepth 100000 in
set_option maxHeartbeats 800000 in
theorem rfits_any (w : World) (v : Value) (l : List UInt8) (hby : By w w.heap.size v l) (hsz : l.length ≤ 1099511627776) :
    Calls Try.prog 88 #[v] w fun e w' => ∃ v', e = .returned (.tuple #[v', .int .i64 (fitsE l)]) ∧ Ow w' w.heap.size v' (fitsL l) ∧ Below w.heap.size w w' := by
  have hby0 := hby
  obtain ⟨A, c, rfl, hc1, hc2, hrd⟩ := hby
  unfold maxLen at hc2
  by_cases h4 : l.length < 4
  · have hE : fitsE l = 2 := by simp [fitsE, h4]
    have hL : fitsL l = [] := by
      have : fitsB l = false := by simp [fitsB]; omega
      simp [fitsL, this]
    rw [hE, hL]
    clear hE hL
    go_enter Try.func88, Try.ntmps88
    go_wp2_with fail
    go_ret2
    exact ⟨_, rfl, Ow.new_ w [] (Nat.zero_le _), balloc _ _⟩
  · have hown : By w w.heap.size (.slice A (l.length - 4) c) (l.take (l.length - 4)) := by
      refine ⟨A, c, by simp, by simp; omega, hc2, ?_⟩
      have := hrd.front (k := l.length - 4) (by omega)
      simpa [b8s, List.map_take] using this
    have hlt : (l.take (l.length - 4)).length = l.length - 4 := by simp
    have HE : Hid (fitsE l = if markOf (l.take (l.length - 4)) = l then 0 else 5) := by
      unfold Hid fitsE fitsB
      rw [if_neg h4]
      by_cases hm : markOf (l.take (l.length - 4)) = l
      · rw [if_pos (by simp [hm]; omega), if_pos hm]
      · rw [if_neg (by simp [hm]), if_neg hm]
    have HL : Hid (fitsL l = if markOf (l.take (l.length - 4)) = l then l.take (l.length - 4) else []) := by
      unfold Hid fitsL fitsB
      by_cases hm : markOf (l.take (l.length - 4)) = l
      · rw [if_pos (by simp [hm]; omega), if_pos hm]
      · rw [if_neg (by simp [hm]), if_neg hm]
    have Hlt := Lib.hid hlt
    clear hlt
    generalize fitsE l = E at *
    generalize fitsL l = L at *
    generalize l.take (l.length - 4) = l0 at *
    go_enter Try.func88, Try.ntmps88
    go_wp2_with (first
      | (at_builtin
         refine wpList_app8 rfl (.tmp 9) (.tmp 14) rfl (Ow.new_ w [] (Nat.zero_le _)) (hown.alloc (Nat.le_refl _) _) rfl rfl (by rw [Hlt.out]; simp; omega) (by simp) ?_
         intro v1 w1 hown1 hext1
         have hb1 := (balloc w _).trans (hext1.below (by simp) (by simp [Value.ownBlock]))))
    refine wp_region_typed [some 16, some 17, some 18, some 19, some 20, some 21] [16, 17, 18, 19, 20, 21] [Ph.is v1, Ph.by_ (markOf l0), Ph.is (.string (bst (markOf l0))), Ph.is (.slice A l.length c), Ph.is (.string (bst l)), Ph.is (.bool (!(decide (markOf l0 = l))))] rfl rfl (by kernel_rfl) (by kernel_rfl) ?_ ?_
    · have hc2 : ∀ w', Below w1.heap.size w1 w' → (convert 30 9 (.slice A l.length c)).run Try.prog w' = .ok (.string (bst l)) w' := fun w' hb => conv8 ((hby0.step hb1).below hb)
      have hq := bst_eq (markOf l0) l
      refine ⟨?_, ?_, ?_, ?_, ?_, ?_, trivial⟩
      all_goals
        refine ob_yes fun f w' hb hp => ?_
        simp [PreOf, factOf, valOf, Ph.is, Ph.by_, Region.binds] at hp
        refine ⟨by simp [Gd], ?_⟩
      · refine mild_val v1 ?_ ?_ <;> simp [execOp, evalF, Ph.is]
      · refine mild_call 99 _ _ Try.f99 Try.func99 (by kernel_rfl) (by kernel_rfl) rfl ?_
        simp [evalF, hp, Ph.by_]
        refine (rmark_any w' v1 l0 ?_ (by rw [Hlt.out]; omega)).mono ?_
        · exact hown1.by_.step hb
        · rintro e w2 ⟨v2, rfl, hown2, hb2⟩
          exact ⟨v2, rfl, hb2, hown2.by_⟩
      · refine mild_val (.string (bst (markOf l0))) ?_ rfl
        have hcc := conv8 hp
        simp [execOp, evalF, hcc]
      · refine mild_val (.slice A l.length c) ?_ ?_ <;> simp [execOp, evalF, Ph.is]
      · refine mild_val (.string (bst l)) ?_ rfl
        simp [execOp, evalF, hp, hc2 w' hb]
      · refine mild_val (.bool (!decide (markOf l0 = l))) ?_ rfl
        simp [execOp, evalF, hp, go_sem]
        exact hq
    · intro f w2 hb2 hp
      simp only [PostOf, Ph.is, Ph.by_] at hp
      obtain ⟨h16, h17, h18, h19, h20, h21, _⟩ := hp
      simp only [fills, List.foldl_cons, List.foldl_nil, Act.put, List.setIfInBounds_toArray, List.set_cons_zero, List.set_cons_succ, h16, h18, h19, h20, h21]
      clear h16 h17 h18 h19 h20 h21
      generalize f 17 = v17
      have hb02 := bstep hb1 hb2
      by_cases hm : markOf l0 = l
      · rw [decide_eq_true hm]
        have Hm := Lib.hid hm
        clear hm
        go_wp2_with fail
        go_ret2
        refine ⟨v1, by rw [HE.out, if_pos Hm.out]; rfl, ?_, hb02⟩
        rw [HL.out, if_pos Hm.out]
        exact hown1.below_ hb2
      · rw [decide_eq_false hm]
        have Hm := Lib.hid hm
        clear hm
        go_wp2_with fail
        go_ret2
        refine ⟨_, by rw [HE.out, if_neg Hm.out]; rfl, ?_, hb02.trans ((balloc w2 _).mono hb02.size)⟩
        rw [HL.out, if_neg Hm.out]
        exact (Ow.new_ w2 [] (Nat.zero_le _)).mono hb02.size
end Go.Proofs.Ytpoicbhbkabllaa

namespace Go.Proofs.Ytpoicbhbkabllaa
set_option linter.unusedSimpArgs false
set_option linter.unusedVariables false
open Go.RowKit

/-- a row of the function's own -/
def Ph.ow (base : Nat) (l : List UInt8) : Ph := ⟨fun v w => Ow w base v l, fun _ _ _ h hb => h.below_ hb⟩

set_option maxRecDepth 100000 in
set_option maxHeartbeats 1600000 in
theorem rfput_any (w : World) (k : UInt8) (v : Value) (l : List UInt8) (hby : By w w.heap.size v l) (hsz : l.length ≤ 1048577) :
    Calls Try.prog 91 #[.agg #[.int .u8 (k.toNat : Int), v]] w fun e w' => ∃ v', e = .returned v' ∧ Ow w' w.heap.size v' (frameOf k l) ∧ Below w.heap.size w w' := by
  have hby0 := hby
  obtain ⟨A, c, rfl, hc1, hc2, hrd⟩ := hby
  unfold maxLen at hc2
  have hwl : IntKind.u32.wrap (l.length : Int) = ((UInt32.ofNat l.length).toNat : Int) := by rw [IntKind.wrap_u32', UInt32.toNat_ofNat']; omega
  have HF : Hid (frameOf k l = markOf ([k] ++ four (UInt32.ofNat l.length)) ++ markOf l) := by unfold Hid; rfl
  have hf4 : ∀ x, (four x).length = 4 := fun _ => rfl
  generalize UInt32.ofNat l.length = n32 at *
  go_enter Try.func91, Try.ntmps91
  go_wp2_with fail
  have hbx : SecAt (w.alloc (.cells #[.int .u8 (k.toNat : Int), .slice A l.length c] 108)) w.heap.size (.int .u8 (k.toNat : Int)) (.slice A l.length c) := SecAt.new_ _ _ _
  have hb0 := balloc w (.cells #[.int .u8 (k.toNat : Int), .slice A l.length c] 108)
  have hWs : (w.alloc (.cells #[.int .u8 (k.toNat : Int), .slice A l.length c] 108)).heap.size = w.heap.size + 1 := by simp
  generalize w.alloc (.cells #[.int .u8 (k.toNat : Int), .slice A l.length c] 108) = W at *
  refine wp_region_tail (ds := [4, 5, 6, 7, 8, 9, 10, 11]) 8 [some 4, some 5, some 6, some 7, some 8, some 9, some 10, some 11]
    [Ph.is (.pointer (some { block := w.heap.size, off := 0 })),
      Ph.is (.int .u8 (k.toNat : Int)),
      Ph.ow (w.heap.size + 1) [k],
      Ph.is (.pointer (some { block := w.heap.size, off := 1 })),
      Ph.is (.slice A l.length c),
      Ph.is (.int .i64 (l.length : Int)),
      Ph.is (.int .u32 (n32.toNat : Int)),
      Ph.by_ (four n32)] rfl rfl (by kernel_rfl) (by kernel_rfl) (by kernel_rfl) ?_ ?_
  · refine ⟨?_, ?_, ?_, ?_, ?_, ?_, ?_, ?_, trivial⟩
    · -- 0: slot 4 := Op.fieldAddr 46 t1 0
      refine ob_yes fun f w' hb hp => ?_
      simp [PreOf, factOf, valOf, Ph.is, Ph.by_, Ph.any, Region.binds, Ph.ow] at hp
      refine ⟨by simp [Gd, valOf, hp], ?_⟩
      refine mild_val (.pointer (some { block := w.heap.size, off := 0 })) ?_ rfl
      simp [execOp, evalF, hp, go_sem]
    · -- 1: slot 5 := Op.load 5 t4
      refine ob_yes fun f w' hb hp => ?_
      simp [PreOf, factOf, valOf, Ph.is, Ph.by_, Ph.any, Region.binds, Ph.ow] at hp
      refine ⟨by simp [Gd, valOf, hp], ?_⟩
      refine mild_val (.int .u8 (k.toNat : Int)) ?_ rfl
      have hc := (hbx.below hbx.lt hb).cell0
      simp [execOp, evalF, hp, hc, go_sem]
    · -- 2: slot 6 := Op.buildSlice 22 1 #[(0, t5)]
      refine ob_yes fun f w' hb hp => ?_
      simp [PreOf, factOf, valOf, Ph.is, Ph.by_, Ph.any, Region.binds, Ph.ow] at hp
      refine ⟨by simp [Gd, valOf, hp], ?_⟩
      refine mild_alloc (.slice (some ⟨w'.heap.size, 0, none⟩) 1 1) (.cells (b8s [k]).toArray 5) ?_ ((Ow.new_ w' [k] (by simp [maxLen])).mono (hWs ▸ hb.size))
      simp [execOp, evalF, hp, go_sem, b8s, b8]
    · -- 3: slot 7 := Op.fieldAddr 46 t1 1
      refine ob_yes fun f w' hb hp => ?_
      simp [PreOf, factOf, valOf, Ph.is, Ph.by_, Ph.any, Region.binds, Ph.ow] at hp
      refine ⟨by simp [Gd, valOf, hp], ?_⟩
      refine mild_val (.pointer (some { block := w.heap.size, off := 1 })) ?_ rfl
      simp [execOp, evalF, hp, go_sem]
    · -- 4: slot 8 := Op.load 22 t7
      refine ob_yes fun f w' hb hp => ?_
      simp [PreOf, factOf, valOf, Ph.is, Ph.by_, Ph.any, Region.binds, Ph.ow] at hp
      refine ⟨by simp [Gd, valOf, hp], ?_⟩
      refine mild_val (.slice A l.length c) ?_ rfl
      have hc := (hbx.below hbx.lt hb).cell1
      simp [execOp, evalF, hp, hc, go_sem]
    · -- 5: slot 9 := Op.call   builtin len, args := #[t8], argTypes := #[22]  
      refine ob_yes fun f w' hb hp => ?_
      simp [PreOf, factOf, valOf, Ph.is, Ph.by_, Ph.any, Region.binds, Ph.ow] at hp
      refine ⟨by simp [Gd, valOf, hp], ?_⟩
      refine mild_val (.int .i64 (l.length : Int)) ?_ rfl
      simp [execOp, evalF, hp, go_sem]
    · -- 6: slot 10 := Op.convert 3 24 t9
      refine ob_yes fun f w' hb hp => ?_
      simp [PreOf, factOf, valOf, Ph.is, Ph.by_, Ph.any, Region.binds, Ph.ow] at hp
      refine ⟨by simp [Gd, valOf, hp], ?_⟩
      refine mild_val (.int .u32 (n32.toNat : Int)) ?_ rfl
      simp [execOp, evalF, hp, go_sem, hwl]
    · -- 7: slot 11 := Op.call   value (Operand.func 32), args := #[t10], argTypes := #[24]  
      refine ob_yes fun f w' hb hp => ?_
      simp [PreOf, factOf, valOf, Ph.is, Ph.by_, Ph.any, Region.binds, Ph.ow] at hp
      refine ⟨by simp [Gd, valOf, hp], ?_⟩
      refine mild_call 100 _ _ Try.f100 Try.func100 (by kernel_rfl) (by kernel_rfl) rfl ?_
      simp [evalF, hp, Ph.is, Ph.by_, Ph.any, Ph.ow]
      exact (rfour_any w' n32).mono fun e w2 ⟨v, h1, h2, h3⟩ => ⟨v, h1, h3, h2.by_⟩
  · intro f w2 hb2 hp
    simp only [PostOf, Ph.is, Ph.by_, Ph.any, Ph.ow] at hp
    obtain ⟨h0, h1, h2, h3, h4, h5, h6, h7, _⟩ := hp
    simp only [fills, List.foldl_cons, List.foldl_nil, Act.put, List.setIfInBounds_toArray, List.set_cons_zero, List.set_cons_succ, h0, h1, h3, h4, h5, h6]
    clear h0 h1 h3 h4 h5 h6
    generalize f 6 = v6 at *
    generalize f 11 = v11 at *
    simp only [List.drop_succ_cons, List.drop_zero]
    have hb02 := bstep hb0 hb2
    refine wpList_app8 rfl (.tmp 6) (.tmp 11) rfl h2 h7 rfl rfl (by simp [hf4]) (hWs ▸ hb2.size) ?_
    intro v3 w3 hown3 hext3
    have hb03 : Below w.heap.size w w3 := hb02.trans (hext3.below hb02.size fun k hk => Nat.le_of_succ_le (h2.blk k hk).1)
    have hbx2 : SecAt w3 w.heap.size (.int .u8 (k.toNat : Int)) (.slice A l.length c) := by
      have h9 := hbx.below hbx.lt hb2
      refine (hext3.gr.block w.heap.size h9.lt (fun e => absurd (h2.blk _ e.symm).1 (by omega))).trans h9
    have hby2 := hby0.step hb03
    have hhd : ([k] ++ four n32).length = 5 := rfl
    generalize [k] ++ four n32 = hd at *
    have hv3 : By w3 w3.heap.size v3 hd := hown3.by_
    have hs2 := hb03.size
    clear h2 h7 hext3 hown3 hbx hb0 hb2 hb02 hWs
    have hml1 := markOf_length hd
    have hml2 := markOf_length l
    go_wp2_with fail
    refine wp_region_tail (ds := [13, 14, 15, 16, 17]) 5 [some 13, some 14, some 15, some 16, some 17]
      [Ph.by_ hd,
        Ph.ow w.heap.size (markOf hd),
        Ph.is (.pointer (some { block := w.heap.size, off := 1 })),
        Ph.is (.slice A l.length c),
        Ph.by_ (markOf l)] rfl rfl (by kernel_rfl) (by kernel_rfl) (by kernel_rfl) ?_ ?_
    · refine ⟨?_, ?_, ?_, ?_, ?_, trivial⟩
      · -- 0: slot 13 := Op.move t3
        refine ob_yes fun f w' hb hp => ?_
        simp [PreOf, factOf, valOf, Ph.is, Ph.by_, Ph.any, Region.binds, Ph.ow] at hp
        refine ⟨by simp [Gd, valOf, hp], ?_⟩
        exact mild_val _ rfl (hv3.step hb)
      · -- 1: slot 14 := Op.call   value (Operand.func 20), args := #[t13], argTypes := #[22]  
        refine ob_yes fun f w' hb hp => ?_
        simp [PreOf, factOf, valOf, Ph.is, Ph.by_, Ph.any, Region.binds, Ph.ow] at hp
        refine ⟨by simp [Gd, valOf, hp], ?_⟩
        refine mild_call 99 _ _ Try.f99 Try.func99 (by kernel_rfl) (by kernel_rfl) rfl ?_
        simp [evalF, hp, Ph.is, Ph.by_, Ph.any, Ph.ow]
        exact (rmark_any w' _ hd hp (by omega)).mono fun e w4 ⟨v, h1, h2, h3⟩ => ⟨v, h1, h3, h2.mono (Nat.le_trans hs2 hb.size)⟩
      · -- 2: slot 15 := Op.fieldAddr 46 t1 1
        refine ob_yes fun f w' hb hp => ?_
        simp [PreOf, factOf, valOf, Ph.is, Ph.by_, Ph.any, Region.binds, Ph.ow] at hp
        refine ⟨by simp [Gd, valOf, hp], ?_⟩
        refine mild_val (.pointer (some { block := w.heap.size, off := 1 })) ?_ rfl
        simp [execOp, evalF, hp, go_sem]
      · -- 3: slot 16 := Op.load 22 t15
        refine ob_yes fun f w' hb hp => ?_
        simp [PreOf, factOf, valOf, Ph.is, Ph.by_, Ph.any, Region.binds, Ph.ow] at hp
        refine ⟨by simp [Gd, valOf, hp], ?_⟩
        refine mild_val (.slice A l.length c) ?_ rfl
        have hc := (hbx2.below hbx2.lt hb).cell1
        simp [execOp, evalF, hp, hc, go_sem]
      · -- 4: slot 17 := Op.call   value (Operand.func 20), args := #[t16], argTypes := #[22]  
        refine ob_yes fun f w' hb hp => ?_
        simp [PreOf, factOf, valOf, Ph.is, Ph.by_, Ph.any, Region.binds, Ph.ow] at hp
        refine ⟨by simp [Gd, valOf, hp], ?_⟩
        refine mild_call 99 _ _ Try.f99 Try.func99 (by kernel_rfl) (by kernel_rfl) rfl ?_
        simp [evalF, hp, Ph.is, Ph.by_, Ph.any, Ph.ow]
        exact (rmark_any w' _ l ((hby2.step hb)) (by omega)).mono fun e w4 ⟨v, h1, h2, h3⟩ => ⟨v, h1, h3, h2.by_⟩
    · intro f w4 hb4 hp
      simp only [PostOf, Ph.is, Ph.by_, Ph.any, Ph.ow] at hp
      obtain ⟨h0, h1, h2, h3, h4, _⟩ := hp
      simp only [fills, List.foldl_cons, List.foldl_nil, Act.put, List.setIfInBounds_toArray, List.set_cons_zero, List.set_cons_succ, h2, h3]
      clear h2 h3
      generalize f 13 = v13 at *
      generalize f 14 = v14 at *
      generalize f 17 = v17 at *
      simp only [List.drop_succ_cons, List.drop_zero]
      have hb04 := bstep hb03 hb4
      refine wpList_app8 rfl (.tmp 14) (.tmp 17) rfl h1 h4 rfl rfl (by omega) hb04.size ?_
      intro v5 w5 hown5 hext5
      have hb05 : Below w.heap.size w w5 := hb04.trans (hext5.below hb04.size fun k hk => (h1.blk k hk).1)
      go_wp2_with fail
      go_ret
      exact ⟨_, rfl, HF.out ▸ hown5, hb05⟩

set_option maxRecDepth 100000 in
set_option maxHeartbeats 1600000 in
theorem rfget_any (w : World) (v : Value) (l : List UInt8) (hby : By w w.heap.size v l) (hsz : l.length ≤ 1099511627776) :
    Calls Try.prog 60 #[v] w fun e w' => ∃ v', e = .returned (.tuple #[.agg #[.int .u8 ((sK l).toNat : Int), v'], .int .i64 ((sN l : Nat) : Int), .int .i64 (sE l)]) ∧ Ow w' w.heap.size v' (sL l) ∧ Below w.heap.size w w' := by
  have hby0 := hby
  obtain ⟨A, c, rfl, hc1, hc2, hrd⟩ := hby
  unfold maxLen at hc2
  have hN1 : SecAt ((w.alloc (.cells #[.int .u8 0, .slice none 0 0] 108)).alloc (.cells #[.int .u8 0, .slice none 0 0] 108)) (w.heap.size + 1) (.int .u8 0) (.slice none 0 0) := by simpa using SecAt.new_ (w.alloc (.cells #[.int .u8 0, .slice none 0 0] 108)) (.int .u8 0) (.slice none 0 0)
  obtain ⟨W0, hW0, hR, hN0, hb0⟩ : ∃ W0, ((w.alloc (.cells #[.int .u8 0, .slice none 0 0] 108)).alloc (.cells #[.int .u8 0, .slice none 0 0] 108)).setRow (w.heap.size + 1) #[.int .u8 0, .slice none 0 0] = W0 ∧ SecAt W0 w.heap.size (.int .u8 0) (.slice none 0 0) ∧ SecAt W0 (w.heap.size + 1) (.int .u8 0) (.slice none 0 0) ∧ Below w.heap.size w W0 :=
    ⟨_, rfl, ((SecAt.new_ w _ _).alloc (by simp) _).other _ (by omega) _, hN1.put _ _, bsetRow (bstep (balloc _ _) (balloc _ _)) (by omega) _⟩
  have hE : sE l = if l.length < 9 then 2 else if fitsB (l.take 9) = false then 5 else if 1048576 < sLen l then 4 else if l.length < sLen l + 13 then 2 else if fitsB ((l.drop 9).take (sLen l + 4)) then 0 else 5 := rfl
  have hN : sN l = if sE l = 0 then sLen l + 13 else 0 := rfl
  have hL : sL l = if sE l = 0 then (l.drop 9).take (sLen l) else [] := rfl
  have hK : sK l = if sE l = 0 then l.getD 0 0 else 0 := rfl
  have HE := Lib.hid hE
  have HN := Lib.hid hN
  have HL := Lib.hid hL
  have HK := Lib.hid hK
  clear hE hN hL hK
  generalize sE l = E at *
  generalize sN l = N at *
  generalize sL l = L at *
  generalize sK l = K0 at *
  by_cases h9 : l.length < 9
  · skip
    have e1 : E = 2 := by rw [HE.out, if_pos h9]
    have e2 : N = 0 := by rw [HN.out, e1]; rfl
    have e3 : L = [] := by rw [HL.out, e1]; rfl
    have e4 : K0 = 0 := by rw [HK.out, e1]; rfl
    subst e1
    subst e2
    subst e3
    subst e4
    clear HE HN HL HK
    go_enter Try.func60, Try.ntmps60
    go_wp2_with (first
      | (refine wpList_store_sec rfl (.tmp 5) _ rfl (w.heap.size + 1) _ _ (.int .u8 0) (.slice none 0 0) rfl rfl hN1 rfl rfl ?_
         rw [hW0]
         intro _)
      | (refine wpList_load_sec rfl (.tmp 5) rfl (w.heap.size + 1) _ _ rfl hN0 ?_)
      | (refine wpList_store_sec rfl (.tmp 2) _ rfl w.heap.size _ _ (.int .u8 0) (.slice none 0 0) rfl rfl hR rfl rfl ?_
         intro hs9))
    refine bodyPost_ret (results_sec rfl _ _ _ _ _ rfl hs9) rfl ?_
    exact ⟨_, rfl, Ow.nil_ _ _, bsetRow hb0 (Nat.le_refl _) _⟩
  · have hcut : By w w.heap.size (.slice A 9 c) (l.take 9) := hby0.front_ (by omega)
    have ht9 : (l.take 9).length = 9 := by simp; omega
    rw [if_neg h9] at HE
    cases hf : fitsB (l.take 9) with
    | false =>
      have hE9 : fitsE (l.take 9) = 5 := by unfold fitsE; rw [hf, ht9]; rfl
      have hL9 : fitsL (l.take 9) = [] := by unfold fitsL; rw [hf]; rfl
      have e1 : E = 5 := by rw [HE.out, if_pos hf]
      have e2 : N = 0 := by rw [HN.out, e1]; rfl
      have e3 : L = [] := by rw [HL.out, e1]; rfl
      have e4 : K0 = 0 := by rw [HK.out, e1]; rfl
      subst e1
      subst e2
      subst e3
      subst e4
      clear HE HN HL HK
      clear hrd
      generalize l.take 9 = t9 at *
      go_enter Try.func60, Try.ntmps60
      go_wp2_with (first
        | (refine wpList_store_sec rfl (.tmp 5) _ rfl (w.heap.size + 1) _ _ (.int .u8 0) (.slice none 0 0) rfl rfl hN1 rfl rfl ?_
           rw [hW0]
           intro _))
      refine (rfits_any _ _ t9 (hcut.step hb0) (by omega)).mono ?_
      rw [hE9, hL9]
      rintro e w1 ⟨v1, rfl, hown1, hb1⟩
      have hb01 := bstep hb0 hb1
      have hR1 := hR.below hR.lt hb1
      have hN2 := hN0.below hN0.lt hb1
      go_wp2_with (first
        | (refine wpList_load_sec rfl (.tmp 5) rfl (w.heap.size + 1) _ _ rfl hN2 ?_)
        | (refine wpList_store_sec rfl (.tmp 2) _ rfl w.heap.size _ _ (.int .u8 0) (.slice none 0 0) rfl rfl hR1 rfl rfl ?_
           intro hs9))
      refine bodyPost_ret (results_sec rfl _ _ _ _ _ rfl hs9) rfl ?_
      exact ⟨_, rfl, Ow.nil_ _ _, bsetRow hb01 (Nat.le_refl _) _⟩
    | true =>
      obtain ⟨ad, rfl, _, _⟩ := hrd.ad (by omega)
      have hL9 : fitsL (l.take 9) = l.take 5 := by unfold fitsL; rw [hf, ht9]; simp [List.take_take]
      have hE9 : fitsE (l.take 9) = 0 := by unfold fitsE; rw [hf, ht9]; rfl
      have hle : sLen l = (l.getD 1 0).toNat + 256 * (l.getD 2 0).toNat + 65536 * (l.getD 3 0).toNat + 16777216 * (l.getD 4 0).toNat := rfl
      have hlt := sLen_lt l
      rw [if_neg (show ¬ fitsB (l.take 9) = false by rw [hf]; simp)] at HE
      have hlen5 : (l.take 5).length = 5 := by simp; omega
      have hg : ∀ i, i < 5 → (l.take 5)[i]? = some (l.getD i 0) := by
        intro i hi
        rw [List.getElem?_take, if_pos hi]
        exact getD_get l i (by omega)
      have hcut2 : ∀ k, k ≤ l.length - 9 → By w w.heap.size (.slice (if c = 9 then some ad else some { block := ad.block, off := ad.off + 9 }) k (c - 9)) ((l.drop 9).take k) := fun k hk =>
        (hby0.back_ (k := 9) (by omega)).front_ (by simp; omega)
      have Hg := Lib.hid hg
      have Hle := Lib.hid hle
      have Hcut2 := Lib.hid hcut2
      clear hg hle hcut2 hrd
      generalize l.take 9 = t9 at *
      generalize l.take 5 = t5 at *
      go_enter Try.func60, Try.ntmps60
      go_wp2_with (first
        | (refine wpList_store_sec rfl (.tmp 5) _ rfl (w.heap.size + 1) _ _ (.int .u8 0) (.slice none 0 0) rfl rfl hN1 rfl rfl ?_
           rw [hW0]
           intro _))
      refine (rfits_any _ _ t9 (hcut.step hb0) (by omega)).mono ?_
      rw [hE9, hL9]
      rintro e w1 ⟨v1, rfl, hown1, hb1⟩
      have hb01 := bstep hb0 hb1
      have hR1 := hR.below hR.lt hb1
      have hN2 := hN0.below hN0.lt hb1
      have hW0s := hN0.lt
      obtain ⟨A1, c1, rfl, hd1, hd2, hf1⟩ := hown1.form_
      obtain ⟨g1, rfl, hg1, hg2⟩ := hf1 (by omega)
      have hx0 := hown1.cell_ rfl 0 _ (Hg.out 0 (by omega))
      have hx1 := hown1.cell_ rfl 1 _ (Hg.out 1 (by omega))
      have hx2 := hown1.cell_ rfl 2 _ (Hg.out 2 (by omega))
      have hx3 := hown1.cell_ rfl 3 _ (Hg.out 3 (by omega))
      have hx4 := hown1.cell_ rfl 4 _ (Hg.out 4 (by omega))
      rw [hlen5] at hd1 hown1
      unfold maxLen at hd2
      have Hle2 : Hid (sLen l = (l.getD 1 0).toNat + 256 * (l.getD 2 0).toNat + 65536 * (l.getD 3 0).toNat + 16777216 * (l.getD 4 0).toNat) := Hle
      clear Hle
      generalize l.getD 0 0 = x0 at *
      generalize l.getD 1 0 = x1 at *
      generalize l.getD 2 0 = x2 at *
      generalize l.getD 3 0 = x3 at *
      generalize l.getD 4 0 = x4 at *
      have b1 := u8_lt x1
      have b2 := u8_lt x2
      have b3 := u8_lt x3
      have b4 := u8_lt x4
      rw [hlen5]
      have hR2 := hR1
      have hN3 := hN2
      clear hW0 hN1
      go_wp2_with fail
      go_quiet (fail)
      have hn : (x1.toNat : Int) + 256 * (x2.toNat : Int) + 65536 * (x3.toNat : Int) + 16777216 * (x4.toNat : Int) = (sLen l : Int) := by rw [Hle2.out]; omega
      rw [hn]
      clear hx1 hx2 hx3 hx4 hn
      generalize sLen l = n at *
      have hR3 : SecAt (w1.drewN nq) w.heap.size (.int .u8 0) (.slice none 0 0) := hR2
      have hN4 : SecAt (w1.drewN nq) (w.heap.size + 1) (.int .u8 0) (.slice none 0 0) := hN3
      have hb2 : Below w.heap.size w (w1.drewN nq) := bdrewN hb01 nq
      have hx2 : (w1.drewN nq).cell? { block := g1, off := 0 } = some (.int .u8 (x0.toNat : Int)) := hx0
      have hown2 : Ow (w1.drewN nq) W0.heap.size (.slice (some ⟨g1, 0, none⟩) 5 c1) t5 := hown1
      clear hR1 hR2 hN2 hN3 hb01 hx0 hb1 hown1
      generalize w1.drewN nq = W at *
      by_cases hbig : 1048576 < n
      · skip
        have e1 : E = 4 := by rw [HE.out, if_pos hbig]
        have e2 : N = 0 := by rw [HN.out, e1]; rfl
        have e3 : L = [] := by rw [HL.out, e1]; rfl
        have e4 : K0 = 0 := by rw [HK.out, e1]; rfl
        subst e1
        subst e2
        subst e3
        subst e4
        clear HE HN HL HK
        clear Hcut2 Hle2
        go_wp2_with (first
          | (refine wpList_load_sec rfl (.tmp 5) rfl (w.heap.size + 1) _ _ rfl hN4 ?_)
          | (refine wpList_store_sec rfl (.tmp 2) _ rfl w.heap.size _ _ (.int .u8 0) (.slice none 0 0) rfl rfl hR3 rfl rfl ?_
             intro hs9))
        refine bodyPost_ret (results_sec rfl _ _ _ _ _ rfl hs9) rfl ?_
        exact ⟨_, rfl, Ow.nil_ _ _, bsetRow hb2 (Nat.le_refl _) _⟩
      · by_cases hsh : l.length < n + 13
        · skip
          have e1 : E = 2 := by rw [HE.out, if_neg hbig, if_pos hsh]
          have e2 : N = 0 := by rw [HN.out, e1]; rfl
          have e3 : L = [] := by rw [HL.out, e1]; rfl
          have e4 : K0 = 0 := by rw [HK.out, e1]; rfl
          subst e1
          subst e2
          subst e3
          subst e4
          clear HE HN HL HK
          clear Hcut2 Hle2
          go_wp2_with (first
            | (refine wpList_load_sec rfl (.tmp 5) rfl (w.heap.size + 1) _ _ rfl hN4 ?_)
            | (refine wpList_store_sec rfl (.tmp 2) _ rfl w.heap.size _ _ (.int .u8 0) (.slice none 0 0) rfl rfl hR3 rfl rfl ?_
               intro hs9))
          refine bodyPost_ret (results_sec rfl _ _ _ _ _ rfl hs9) rfl ?_
          exact ⟨_, rfl, Ow.nil_ _ _, bsetRow hb2 (Nat.le_refl _) _⟩
        · have hc3 := Hcut2.out (n + 4) (by omega)
          have hlen3 : ((l.drop 9).take (n + 4)).length = n + 4 := by simp; omega
          have htk : ((l.drop 9).take (n + 4)).take (((l.drop 9).take (n + 4)).length - 4) = (l.drop 9).take n := by
            rw [hlen3, List.take_take]; congr 1; omega
          have hc9 : ¬ c = 9 := by omega
          rw [if_neg hc9] at hc3
          have HtL : Hid (fitsL ((l.drop 9).take (n + 4)) = if fitsB ((l.drop 9).take (n + 4)) then (l.drop 9).take n else []) := by
            unfold Hid fitsL; rw [htk]
          have HtE : Hid (fitsE ((l.drop 9).take (n + 4)) = if fitsB ((l.drop 9).take (n + 4)) then 0 else 5) := by
            unfold Hid fitsE; rw [if_neg (by omega)]
          clear htk Hcut2 Hle2
          rw [if_neg hbig, if_neg hsh] at HE
          generalize (l.drop 9).take (n + 4) = tn at *
          generalize (l.drop 9).take n = own at *
          go_wp2_with fail
          rw [show n + 13 - 9 = n + 4 from by omega]
          refine (rfits_any _ _ tn (hc3.step hb2) (by omega)).mono ?_
          rw [HtE.out, HtL.out]
          cases hfb : fitsB tn with
          | false =>
            rw [hfb] at HE
            have e1 : E = 5 := by rw [HE.out, if_neg (by simp)]
            have e2 : N = 0 := by rw [HN.out, e1]; rfl
            have e3 : L = [] := by rw [HL.out, e1]; rfl
            have e4 : K0 = 0 := by rw [HK.out, e1]; rfl
            subst e1
            subst e2
            subst e3
            subst e4
            clear HE HN HL HK
            clear HtE HtL
            rintro e w3 ⟨v3, rfl, hown3, hb3⟩
            have hb23 := bstep hb2 hb3
            have hR4 := hR3.below hR3.lt hb3
            have hN5 := hN4.below hN4.lt hb3
            go_wp2_with (first
              | (refine wpList_load_sec rfl (.tmp 5) rfl (w.heap.size + 1) _ _ rfl hN5 ?_)
              | (refine wpList_store_sec rfl (.tmp 2) _ rfl w.heap.size _ _ (.int .u8 0) (.slice none 0 0) rfl rfl hR4 rfl rfl ?_
                 intro hs9))
            refine bodyPost_ret (results_sec rfl _ _ _ _ _ rfl hs9) rfl ?_
            exact ⟨_, rfl, Ow.nil_ _ _, bsetRow hb23 (Nat.le_refl _) _⟩
          | true =>
            have e1 : E = 0 := by rw [HE.out, hfb]; rfl
            have e2 : N = n + 13 := by rw [HN.out, e1]; rfl
            have e3 : L = own := by rw [HL.out, e1]; rfl
            have e4 : K0 = x0 := by rw [HK.out, e1]; rfl
            subst e1
            subst e2
            subst e3
            subst e4
            clear HE HN HL HK HtE HtL
            rintro e w3 ⟨v3, rfl, hown3, hb3⟩
            have hb23 := bstep hb2 hb3
            have hR4 := hR3.below hR3.lt hb3
            have hx3 : w3.cell? { block := g1, off := 0 } = some (.int .u8 (K0.toNat : Int)) := (hb3.cell (hown2.blk g1 rfl).2).trans hx2
            rw [if_pos rfl] at hown3
            obtain ⟨A3, c3, rfl, hd31, hd32, hf3⟩ := hown3.form_
            have hgs := hR3.lt
            go_wp2_with (refine wpList_store_sec rfl (.tmp 2) _ rfl w.heap.size _ _ (.int .u8 (K0.toNat : Int)) (.slice A3 L.length c3) rfl rfl hR4 rfl rfl ?_
                         intro hs4)
            have hown4 := (hown3.setRow_ hgs #[.int .u8 (K0.toNat : Int), .slice A3 L.length c3]).mono (Nat.le_of_lt hgs)
            refine bodyPost_ret (results_sec rfl _ _ _ _ _ rfl hs4) rfl ?_
            exact ⟨_, rfl, hown4, bsetRow hb23 (Nat.le_refl _) _⟩

end Go.Proofs.Ytpoicbhbkabllaa

namespace Go.Proofs.Ytpoicbhbkabllaa
set_option linter.unusedSimpArgs false
set_option linter.unusedVariables false
open Go.RowKit

theorem info_R2 : (Try.prog.info? 114).map (·.size) = some 2 := by kernel_rfl
def zeroRc : List Value := [.slice none 0 0, .int .i64 0]
theorem info_Rz : (Try.prog.info? 114).map (fun i => (i.zero, i.size, i.bytes)) = some (some (.agg zeroRc.toArray), 2, 32) := by kernel_rfl
theorem By.one {w : World} {B : Nat} {v : Value} {l : List UInt8} (h : By w B v l) : v.oneCell' = true := by
  obtain ⟨A, c, rfl, _⟩ := h
  rfl
theorem oneR {w : World} {B : Nat} {v : Value} {l : List UInt8} (h : By w B v l) (e : Int) : ∀ u ∈ [v, Value.int .i64 e], u.oneCell' = true := fun u hu => by
  simp at hu
  rcases hu with rfl | rfl
  · exact h.one
  · rfl
theorem bytesS_errM (n : Int) (s : List UInt8) (e : Int) : (bytesS n s e).2.2 ≠ 0 → (bytesS n s e).2.1 = [] := by
  unfold bytesS
  repeat' split
  all_goals simp
/-- the reference's reader in its box, beside the result's and the empty one's -/
structure RG0 (w : World) (g4 g8 B0 : Nat) (v : Value) (l : List UInt8) (e : Int) (W : World) : Prop where
  res : BoxAt 56 W w.heap.size zeroMc
  non : BoxAt 56 W g4 zeroMc
  blw : Below w.heap.size w W
  box : BoxAt 114 W g8 [v, .int .i64 e]
  by_ : By W B0 v l
  err : e ≠ 0 → l = []
  o : w.heap.size < g4 ∧ g4 < B0 ∧ B0 ≤ g8 ∧ g8 < W.heap.size
structure RGz (w : World) (g4 : Nat) (W : World) : Prop where
  res : BoxAt 56 W w.heap.size zeroMc
  non : BoxAt 56 W g4 zeroMc
  blw : Below w.heap.size w W
theorem RG0.z {w : World} {g4 g8 B0 : Nat} {v : Value} {l : List UInt8} {e : Int} {W : World} (h : RG0 w g4 g8 B0 v l e W) : RGz w g4 W := ⟨h.res, h.non, h.blw⟩
theorem RG0.le {w : World} {g4 g8 B0 : Nat} {v : Value} {l : List UInt8} {e : Int} {W : World} (h : RG0 w g4 g8 B0 v l e W) : B0 ≤ W.heap.size := by have := h.o; omega
theorem RG0.step {w : World} {g4 g8 B0 : Nat} {v : Value} {l : List UInt8} {e : Int} {W W' : World} {P : Nat → Prop} (h : RG0 w g4 g8 B0 v l e W) (hc : Chg P W W') (hp : ∀ k, P k → g8 < k) : RG0 w g4 g8 B0 v l e W' := by
  have ho := h.o
  have hs := hc.size
  have hb : Below B0 W W' := hc.below (by omega) (fun k hk => by have := hp k hk; omega)
  exact ⟨h.res.chg hc (fun hx => by have := hp _ hx; omega), h.non.chg hc (fun hx => by have := hp _ hx; omega), h.blw.trans (hb.mono (by omega)), h.box.chg hc (fun hx => by have := hp _ hx; omega), h.by_.below hb, h.err, by omega⟩
theorem RG0.stepB {w : World} {g4 g8 B0 : Nat} {v : Value} {l : List UInt8} {e : Int} {W W' : World} (h : RG0 w g4 g8 B0 v l e W) (hb : Below W.heap.size W W') : RG0 w g4 g8 B0 v l e W' := h.step (P := fun _ => False) (Chg.ofBelow hb) (fun _ h => h.elim)
theorem RG0.put {w : World} {g4 g8 B0 : Nat} {v v' : Value} {l l' : List UInt8} {e e' : Int} {W W' : World} (h : RG0 w g4 g8 B0 v l e W) (hc : Chg (fun k => k = g8) W W') (hb : BoxAt 114 W' g8 [v', .int .i64 e'])
    (hby : By W B0 v' l') (he : e' ≠ 0 → l' = []) : RG0 w g4 g8 B0 v' l' e' W' := by
  have ho := h.o
  have hs := hc.size
  have hbb : Below B0 W W' := hc.below (by omega) (fun k hk => by omega)
  exact ⟨h.res.chg hc (by omega), h.non.chg hc (by omega), h.blw.trans (hbb.mono (by omega)), hb, hby.below hbb, he, by omega⟩
theorem MP.stepB {gm hi : Nat} {m : MMan} {W W' : World} (h : MP gm hi m W) (hb : Below W.heap.size W W') (hgm : gm < hi) : MP gm hi m W' := h.keep (P := fun _ => False) (Chg.ofBelow hb) (fun _ h => h.elim) hgm
theorem FP.stepB {gf : Nat} {f : MFile} {W W' : World} (h : FP gf f W) (hb : Below W.heap.size W W') : FP gf f W' := h.keep (P := fun _ => False) (Chg.ofBelow hb) (fun _ h => h.elim)
set_option maxRecDepth 100000 in
set_option maxHeartbeats 12800000 in
theorem rmget_any (w : World) (v : Value) (b : List UInt8) (hby : By w w.heap.size v b) (hl : b.length ≤ 1073741824) :
    Calls Try.prog 33 #[v] w fun ev w' => ∃ v', ev = .returned (.tuple #[v', .bool (getOk b)]) ∧ MIn w' w.heap.size v' (getM b) ∧ Below w.heap.size w w' := by
  obtain ⟨A, c, rfl, hc1, hc2, hrd0⟩ := id hby
  unfold maxLen at hc2
  obtain ⟨w0, hw0⟩ : ∃ w0, w0 = w.alloc (.cells zeroMc.toArray 56) := ⟨_, rfl⟩
  have hb0 : Below w.heap.size w w0 := by rw [hw0]; exact balloc w _
  have hres0 : BoxAt 56 w0 w.heap.size zeroMc := by rw [hw0]; exact BoxAt.new_ _ _ _
  have hz0 : w0.heap.size = w.heap.size + 1 := by rw [hw0]; simp
  have Hw0 := Lib.hid hw0
  have Hby := Lib.hid ((hby.below hb0).more hb0.size)
  have Hb0 := Lib.hid hb0
  have Hres0 := Lib.hid hres0
  have hok : getOk b = ((decide (sE b = 0) && decide (sK b = 77)) && (decide (readE (sL b) = 0) && mayM (rmanP (sL b)))) := rfl
  have Hok := Lib.hid hok
  have hsl : (sL b).length ≤ 1073741824 := by
    unfold sL
    split
    · simp; omega
    · simp
  have hgm : getM b = if getOk b = true then rmanP (sL b) else emptyM := rfl
  have Hgm := Lib.hid hgm
  have hz : ∀ u ∈ zeroMc, u.oneCell' = true := encM_one emptyM _ rfl
  have Hz := Lib.hid hz
  clear hw0 hb0 hres0 hby hrd0 hok hgm hz
  go_enter Try.func33, Try.ntmps33
  go_upto_region 1 with (first
    | (refine wpList_alloc_z rfl 56 rfl info_manz zeroMc zeroM_cells ?_))
  try simp only [Act.put, List.setIfInBounds_toArray, List.set_cons_zero, List.set_cons_succ]
  rw [← Hw0.out]
  go_upto_region 2 with (first
    | (refine wpList_alloc_z rfl 56 rfl info_manz zeroMc zeroM_cells ?_)
    | (refine wpList_store_newW rfl 56 (.tmp 4) (.tmp 23) rfl zeroMc zeroMc rfl rfl info_man3 rfl Hz.out ?_
       intro w1 hbx1 hb1 hz1))
  try simp only [Act.put, List.setIfInBounds_toArray, List.set_cons_zero, List.set_cons_succ]
  rw [hz0] at hbx1 hz1 ⊢
  obtain ⟨g4, hg4⟩ : ∃ g4, g4 = w.heap.size + 1 := ⟨_, rfl⟩
  rw [← hg4] at hbx1 hz1 ⊢
  have hg4' : w.heap.size < g4 := by omega
  have Hb1 := Lib.hid (bstep Hb0.out hb1)
  have Hres1 := Lib.hid (Hres0.out.blwM hb1)
  have Hnon1 := Lib.hid hbx1
  have Hby1 := Lib.hid ((Hby.out.below hb1).more hb1.size)
  clear hb1 hbx1 hg4 hz0
  go_wp2_with fail
  refine (rfget_any w1 _ b Hby1.out (by omega)).mono ?_
  rintro _ w2 ⟨v1, rfl, ho2, hb2⟩
  obtain ⟨A1, c1, rfl, hd1, hd2, _⟩ := ho2.form_
  have hk8 := u8_lt (sK b)
  have Hb2 := Lib.hid (bstep Hb1.out hb2)
  have Hres2 := Lib.hid (Hres1.out.blwM hb2)
  have Hnon2 := Lib.hid (Hnon1.out.blwM hb2)
  have Hby2 := Lib.hid ho2.by_
  have hs12 := hb2.size
  clear hb2 ho2
  generalize hqE : sE b = E at *
  generalize hqK : sK b = K at *
  generalize hqL : sL b = L at *
  generalize hqN : sN b = Nn at *
  have hone : ∀ u ∈ [Value.int .u8 (K.toNat : Int), .slice A1 L.length c1], u.oneCell' = true := fun u hu => by
    simp at hu
    rcases hu with rfl | rfl
    · rfl
    · rfl
  have Hone8 := Lib.hid hone
  clear hone hqE hqK hqL hqN
  go_upto_region 3 with (first
    | (refine wpList_alloc_z rfl 108 rfl info_secz zeroSc rfl ?_)
    | (refine wpList_store_newW rfl 108 (.tmp 5) (.tmp 27) rfl zeroSc [.int .u8 (K.toNat : Int), (.slice A1 L.length c1)] rfl rfl info_sec2 rfl Hone8.out ?_
       intro w3 hbx3 hb3 hz3))
  try simp only [Act.put, List.setIfInBounds_toArray, List.set_cons_zero, List.set_cons_succ]
  have hc0 := hbx3.cell 0 _ rfl
  have hc1x := hbx3.cell 1 _ rfl
  obtain ⟨B0, hB0⟩ : ∃ B0, B0 = w2.heap.size := ⟨_, rfl⟩
  have Hby3 := Lib.hid (hB0 ▸ Hby2.out.below hb3 : By w3 B0 (.slice A1 L.length c1) L)
  have Hb3 := Lib.hid (bstep Hb2.out hb3)
  have Hres3 := Lib.hid (Hres2.out.blwM hb3)
  have Hnon3 := Lib.hid (Hnon2.out.blwM hb3)
  have hgB : g4 < B0 ∧ B0 < w3.heap.size := by omega
  have HB0 := Lib.hid hB0
  clear hbx3 hb3 hB0 hz3 hz1 hs12
  by_cases hcnd : E = 0 ∧ K = 77
  · obtain ⟨hE, hK⟩ := hcnd
    have hd : decide (E = 0) = true := decide_eq_true hE
    have hd2 : decide (K = 77) = true := decide_eq_true hK
    have Hok2 := Hok
    rw [hd, hd2] at Hok2
    subst hK
    subst hE
    have h77 : (77 : UInt8).toNat = 77 := rfl
    have Hone4 : Hid (∀ u ∈ [Value.slice A1 L.length c1, Value.int .i64 0], u.oneCell' = true) := oneR Hby3.out 0
    clear hd hd2
    go_upto_region 6 with (first
      | (refine wpList_alloc_z rfl 114 rfl info_Rz zeroRc rfl ?_)
      | (refine wpList_store_newW rfl 114 (.tmp 8) (.tmp 40) rfl zeroRc [.slice A1 L.length c1, .int .i64 0] rfl rfl info_R2 rfl Hone4.out ?_
         intro w4 hbx4 hb4 hz4))
    try simp only [Act.put, List.setIfInBounds_toArray, List.set_cons_zero, List.set_cons_succ]
    obtain ⟨g8, hg8⟩ : ∃ g8, g8 = w3.heap.size := ⟨_, rfl⟩
    rw [← hg8] at hbx4 hz4 ⊢
    have hG4 : RG0 w g4 g8 B0 (.slice A1 L.length c1) L 0 w4 := ⟨Hres3.out.blwM hb4, Hnon3.out.blwM hb4, bstep Hb3.out hb4, hbx4, Hby3.out.below (hb4.mono (by omega)), fun h => absurd rfl h, by omega⟩
    have G4 := Lib.hid hG4
    have h1 := numS_lt 18446744073709551615 L 0
    have E1 : Hid (numS 18446744073709551615 L 0 = rm1 L) := rfl
    rw [E1.out] at h1
    have h2 := numS_lt 4294967295 (rm1 L).2.1 (rm1 L).2.2
    have E2 : Hid (numS 4294967295 (rm1 L).2.1 (rm1 L).2.2 = rm2 L) := rfl
    rw [E2.out] at h2
    have h3 := numS_lt 2048 (rm2 L).2.1 (rm2 L).2.2
    have E3 : Hid (numS 2048 (rm2 L).2.1 (rm2 L).2.2 = rm3 L) := rfl
    rw [E3.out] at h3
    have r1 : (rm1 L).2.2 ≠ 0 → (rm1 L).2.1 = [] := fun h => (numS_err 18446744073709551615 L 0 h).1
    have r2 : (rm2 L).2.2 ≠ 0 → (rm2 L).2.1 = [] := fun h => (numS_err 4294967295 (rm1 L).2.1 (rm1 L).2.2 h).1
    have r3 : (rm3 L).2.2 ≠ 0 → (rm3 L).2.1 = [] := fun h => (numS_err 2048 (rm2 L).2.1 (rm2 L).2.2 h).1
    have R1 := Lib.hid r1
    have R2 := Lib.hid r2
    have R3 := Lib.hid r3
    have E4 : Hid (rfilesP (rm3 L).1 [] (rm3 L).2.1 (rm3 L).2.2 = rm4 L) := rfl
    have E5 : Hid (rmanP L = ⟨UInt64.ofNat (rm1 L).1, UInt32.ofNat (rm2 L).1, (rm4 L).1⟩) := rfl
    have hu1 : ((UInt64.ofNat (rm1 L).1).toNat : Int) = ((rm1 L).1 : Int) := by rw [UInt64.toNat_ofNat']; omega
    have hu2 := u32_small (rm2 L).1 h2.2
    obtain ⟨ver, hver⟩ : ∃ ver, ver = UInt64.ofNat (rm1 L).1 := ⟨_, rfl⟩
    obtain ⟨next, hnext⟩ : ∃ next, next = UInt32.ofNat (rm2 L).1 := ⟨_, rfl⟩
    rw [← hver] at hu1 E5
    rw [← hnext] at hu2 E5
    have Hu1 := Lib.hid hu1
    have hord : w.heap.size < g4 ∧ g4 < B0 ∧ B0 ≤ g8 ∧ g8 < w4.heap.size := hG4.o
    clear hg8 hb4 hbx4 hz4 hG4 r1 r2 r3 hver hnext hu1 hc0 hc1x
    have hv := rnum_any w4 B0 (.slice A1 L.length c1) L 0 18446744073709551615 (by decide) G4.out.by_ G4.out.le G4.out.err
    rw [E1.out, show (((18446744073709551615 : Nat) : Int)) = 18446744073709551615 from rfl] at hv
    have Hv := Lib.hid hv
    clear hv
    go_wp2_with (refine wpList_load_agg rfl 114 (.tmp 8) rfl ⟨g8, 0, none⟩ rfl [.slice A1 L.length c1, .int .i64 0] G4.out.box.cells Try.underlying114 rfl info_R2 ?_)
    refine Hv.out.mono ?_
    rintro _ w5 ⟨v5, rfl, hby5, hb5⟩
    have G5 := Lib.hid (G4.out.stepB hb5)
    have Hby5 := Lib.hid hby5
    have Ho5 := Lib.hid (oneR hby5 (rm1 L).2.2)
    have hv := fun w6 hby6 hle => rnum_any w6 B0 v5 (rm1 L).2.1 (rm1 L).2.2 4294967295 (by decide) hby6 hle R1.out
    rw [E2.out, show (((4294967295 : Nat) : Int)) = 4294967295 from rfl] at hv
    clear hby5 hb5 Hv
    have Hv := Lib.hid hv
    clear hv
    generalize hq1 : (rm1 L).1 = n1 at *
    go_wp2_with (first
      | (refine wpList_store_boxW rfl 114 114 (.tmp 8) (.tmp 45) rfl g8 [.slice A1 L.length c1, .int .i64 0] [v5, .int .i64 (rm1 L).2.2] rfl rfl G5.out.box rfl Ho5.out info_R2 ?_; intro w6 hbx6 hch6 hz6)
      | (refine wpList_load_agg rfl 114 (.tmp 8) rfl ⟨g8, 0, none⟩ rfl [v5, .int .i64 (rm1 L).2.2] hbx6.cells Try.underlying114 rfl info_R2 ?_))
    have G6 := Lib.hid (G5.out.put hch6 hbx6 Hby5.out R1.out)
    clear hbx6 hch6 hz6 Hby5
    refine (Hv.out w6 G6.out.by_ G6.out.le).mono ?_
    rintro _ w7 ⟨v7, rfl, hby7, hb7⟩
    have G7 := Lib.hid (G6.out.stepB hb7)
    have Hby7 := Lib.hid hby7
    have Ho7 := Lib.hid (oneR hby7 (rm2 L).2.2)
    have hv := fun w8 hby8 hle => rnum_any w8 B0 v7 (rm2 L).2.1 (rm2 L).2.2 2048 (by decide) hby8 hle R2.out
    rw [E3.out, show (((2048 : Nat) : Int)) = 2048 from rfl] at hv
    clear hby7 hb7 Hv
    have Hv := Lib.hid hv
    clear hv
    generalize hq2 : (rm2 L).1 = n2 at *
    go_wp2_with (first
      | (refine wpList_store_boxW rfl 114 114 (.tmp 8) (.tmp 50) rfl g8 [v5, .int .i64 (rm1 L).2.2] [v7, .int .i64 (rm2 L).2.2] rfl rfl G7.out.box rfl Ho7.out info_R2 ?_; intro w8 hbx8 hch8 hz8)
      | (refine wpList_load_agg rfl 114 (.tmp 8) rfl ⟨g8, 0, none⟩ rfl [v7, .int .i64 (rm2 L).2.2] hbx8.cells Try.underlying114 rfl info_R2 ?_))
    have G8 := Lib.hid (G7.out.put hch8 hbx8 Hby7.out R2.out)
    clear hbx8 hch8 hz8 Hby7
    refine (Hv.out w8 G8.out.by_ G8.out.le).mono ?_
    rintro _ w9 ⟨v9, rfl, hby9, hb9⟩
    have G9 := Lib.hid (G8.out.stepB hb9)
    have Hby9 := Lib.hid hby9
    have Ho9 := Lib.hid (oneR hby9 (rm3 L).2.2)
    clear hby9 hb9 Hv
    generalize hq3 : (rm3 L).1 = n3 at *
    have hone : ∀ u ∈ [Value.int .u64 (n1 : Int), .int .u32 (next.toNat : Int), .slice none 0 0], u.oneCell' = true := fun u hu => by
      simp at hu
      rcases hu with rfl | rfl | rfl <;> rfl
    have Hone := Lib.hid hone
    clear hone
    go_upto_region 9 with (refine wpList_store_boxW rfl 114 114 (.tmp 8) (.tmp 55) rfl g8 [v7, .int .i64 (rm2 L).2.2] [v9, .int .i64 (rm3 L).2.2] rfl rfl G9.out.box rfl Ho9.out info_R2 ?_; intro w10 hbx10 hch10 hz10)
    have G10 := Lib.hid (G9.out.put hch10 hbx10 Hby9.out R3.out)
    clear hbx10 hch10 hz10 Hby9 hq1 hq2 hq3
    go_wp2_with (first
      | (refine wpList_alloc_z rfl 56 rfl info_manz zeroMc zeroM_cells ?_)
      | (refine wpList_store_newW rfl 56 (.tmp 12) (.tmp 59) rfl zeroMc [.int .u64 (n1 : Int), .int .u32 (next.toNat : Int), .slice none 0 0] rfl rfl info_man3 rfl Hone.out ?_
         intro w11 hbx11 hb11 hz11))
    obtain ⟨gm, hgmq⟩ : ∃ gm, gm = w10.heap.size := ⟨_, rfl⟩
    rw [← hgmq] at hbx11 hz11 ⊢
    have G11 := Lib.hid (G10.out.stepB hb11)
    have hgmo : g8 < gm := by have := G10.out.o; omega
    have hbx11' : BoxAt 56 w11 gm (encM ⟨ver, next, []⟩ (.slice none 0 0)) := by unfold encM; rw [Hu1.out]; exact hbx11
    have Hmp11 : Hid (MP gm w11.heap.size ⟨ver, next, []⟩ w11) := ⟨_, fun _ => False, hbx11', OwnF.nil_ _ _, fun k hk => hk.elim, fun k hk => by simp [Value.ownBlock] at hk⟩
    have hwn : IntKind.i64.wrap (n3 : Int) = (n3 : Int) := by rw [wrap_i64]; omega
    have Hgmq := Lib.hid hgmq
    have hgw11 : gm < w11.heap.size := by omega
    have hord4 : w.heap.size < g4 := hord.1
    clear hbx11 hb11 hz11 hbx11' hgmq hu2 Hone
    clear Hb0 Hres0 Hby Hb1 Hres1 Hnon1 Hby1 Hb2 Hres2 Hnon2 Hby2 Hby3 Hb3 Hres3 Hnon3 G4 G5 G6 G7 G8 G9 G10 Ho5 Ho7 Ho9 Hone4 Hone8
    try simp only [Act.put, List.setIfInBounds_toArray, List.set_cons_zero, List.set_cons_succ]
    go_loopg [] n3 (fun gx wr => ∃ (gh : Nat) (acc : List MFile) (v : Value) (l : List UInt8) (e : Int), gh = gx ∧ acc.length + gh = n3 ∧ RG0 w g4 g8 B0 v l e wr ∧ MP gm wr.heap.size ⟨ver, next, acc⟩ wr ∧ gm < wr.heap.size ∧ rfilesP gh acc l e = rm4 L)
    case atStart => exact ⟨n3, [], v9, (rm3 L).2.1, (rm3 L).2.2, rfl, by simp, G11.out, Hmp11.out, hgw11, E4.out⟩
    case round =>
      obtain ⟨gh, acc, v, l, e, hghx, hgl, hg, hmp, hgw, hR⟩ := hrel
      have Hghx := Lib.hid hghx
      clear hghx
      have GX := Lib.hid hg
      have Hmp := Lib.hid hmp
      obtain ⟨vf0, S0, hbm0, hown0, _, _⟩ := hmp
      obtain ⟨Af0, cf0, hvf0, _, _⟩ := hown0.rowAll.form
      subst hvf0
      have hc2y := hbm0.cell 2 _ rfl
      have hc1y := hg.box.cell 1 _ rfl
      clear hg hbm0 hown0
      by_cases he : e = 0
      · subst he
        rcases Nat.eq_zero_or_pos gh with hn0 | hn0
        · subst hn0
          have HR : Hid ((acc, l, 0) = rm4 L) := hR
          clear hR
          have Hrd := GX
          obtain ⟨vf, S, hbm, hown, hS1, hS2⟩ := Hmp.out
          obtain ⟨mm, hmm⟩ : ∃ mm : MMan, mm = ⟨ver, next, acc⟩ := ⟨_, rfl⟩
          have hrm : rmanP L = mm := by rw [E5.out, hmm, ← HR.out]
          have hre : endR l 0 = readE L := by rw [endR_eq l 0 GX.out.err]; show endE l 0 = endE (rm4 L).2.1 (rm4 L).2.2; rw [← HR.out]
          have hsm := rman_small L
          rw [hrm] at hsm
          have Hok3 : Hid (getOk b = (true && (decide (readE L = 0) && mayM mm))) := by have := Hok2; rw [hrm] at this; exact this
          have Hgm3 : Hid (getM b = if getOk b = true then mm else emptyM) := by have := Hgm; rw [hrm] at this; exact this
          rw [← hmm] at hbm hown
          obtain ⟨Af, cf, hvf, hcf1, hcf2⟩ := hown.rowAll.form
          subst hvf
          have hfl : mm.files.length = acc.length := by rw [hmm]
          have Hfl := Lib.hid hfl
          have hn3 : n3 = acc.length := by omega
          clear hgl
          subst hn3
          have Hbm := Lib.hid hbm
          have Hown := Lib.hid hown
          have HS := Lib.hid hS1
          have Hsm := Lib.hid hsm
          have Hre := Lib.hid hre
          have Hmm := Lib.hid hmm
          have Hrm := Lib.hid hrm
          have hc2m : wr.cell? { block := gm, off := 2 } = some (.slice Af acc.length cf) := by rw [← hfl]; exact hbm.cell 2 _ rfl
          have hc1r := GX.out.box.cell 1 _ rfl
          have hend := rend_any wr v l 0 B0 GX.out.by_
          rw [Hre.out] at hend
          have Hend := Lib.hid hend
          clear hmm hbm hown hS1 hS2 hrm hre hsm hfl hend hc2y
          go_wp2_with (refine wpList_load_agg rfl 114 (.tmp 8) rfl ⟨g8, 0, none⟩ rfl [v, .int .i64 0] GX.out.box.cells Try.underlying114 rfl info_R2 ?_)
          refine Hend.out.mono ?_
          rintro _ w20 ⟨rfl, hb20⟩
          have GX2 := Lib.hid (GX.out.stepB hb20)
          have Hbm2 := Lib.hid (Hbm.out.blwM hb20)
          have Hown2 := Lib.hid (Hown.out.below_ hb20)
          clear hb20 hc1r hc2m Hend Hown Hbm
          generalize hreq : readE L = er at *
          by_cases her : er = 0
          · have hd : decide (er = 0) = true := decide_eq_true her
            rw [hd] at Hok3
            subst her
            clear hd hreq
            go_wp2_with (refine wpList_load_aggG (by first | rfl | simp [Region.wanted, yielded]) 56 (.tmp 12) rfl ⟨gm, 0, none⟩ rfl (encM mm (.slice Af mm.files.length cf)) Hbm2.out.cells Try.underlying56 rfl info_man3 ?_)
            refine (rmay_any' w20 _ mm ⟨_, rfl, Hown2.out.rowAll⟩ (fun _ => Hsm.out)).mono ?_
            rintro _ w21 ⟨rfl, hb21⟩
            have GX3 := Lib.hid (GX2.out.stepB hb21)
            have Hbm := Lib.hid (Hbm2.out.blwM hb21)
            have Hown3 := Lib.hid (Hown2.out.below_ hb21)
            have GG := Lib.hid GX3.out.z
            have Hgm := Hgm3
            clear hb21 Hown2 Hbm2
            cases hm : mayM mm with
            | false =>
              rw [hm] at Hok3
              have Hf : Hid (getOk b = false) := Hok3
              clear hm
              have hone : ∀ u ∈ zeroMc, u.oneCell' = true := encM_one emptyM _ rfl
              have Hone := Lib.hid hone
              clear hone
              go_wp2_with (first
                | (refine wpList_load_agg rfl 56 (.tmp 4) rfl ⟨g4, 0, none⟩ rfl (zeroMc) GG.out.non.cells Try.underlying56 rfl info_man3 ?_)
                | (refine wpList_store_boxW rfl 56 56 (.tmp 2) (.tmp 142) rfl w.heap.size zeroMc (zeroMc) rfl rfl GG.out.res rfl Hone.out info_man3 ?_
                   intro we hend hche hze))
              refine bodyPost_ret (results_ct rfl _ _ w.heap.size (zeroMc) rfl (fun j v hj => (hend.cells j v hj : _)) Try.underlying56 rfl info_man3) rfl ?_
              have eM : getM b = emptyM := by rw [Hgm.out]; exact if_neg (by rw [Hf.out]; simp)
              rw [eM, Hf.out]
              exact ⟨_, rfl, MIn.empty _ _, GG.out.blw.trans (hche.below (B := w.heap.size) GG.out.blw.size (fun k hk => by omega))⟩
            | true =>
              rw [hm] at Hok3
              have Ht : Hid (getOk b = true) := Hok3
              have Hone : Hid (∀ u ∈ encM mm (.slice Af mm.files.length cf), u.oneCell' = true) := encM_one mm _ rfl
              clear hm
              go_wp2_with (first
                | (refine wpList_load_agg rfl 56 (.tmp 12) rfl ⟨gm, 0, none⟩ rfl (encM mm (.slice Af mm.files.length cf)) Hbm.out.cells Try.underlying56 rfl info_man3 ?_)
                | (refine wpList_store_boxW rfl 56 56 (.tmp 2) (.tmp 143) rfl w.heap.size zeroMc (encM mm (.slice Af mm.files.length cf)) rfl rfl GG.out.res rfl Hone.out info_man3 ?_
                   intro we hend hche hze))
              refine bodyPost_ret (results_ct rfl _ _ w.heap.size (encM mm (.slice Af mm.files.length cf)) rfl (fun j v hj => (hend.cells j v hj : _)) Try.underlying56 rfl info_man3) rfl ?_
              have hof := Hown3.out.chg hche (fun k hk e => by have := (Hown3.out.blk k hk).1; omega) (fun k hk e => by have := (HS.out k hk).1; omega)
              have hS4 : ∀ k, S k → k < we.heap.size := by obtain ⟨_, _, _, _, h4⟩ := hof; exact fun k hk => (h4 k hk).1
              have hin := hof.row.mono (O' := fun k => w.heap.size ≤ k ∧ k < we.heap.size) (S' := fun k => w.heap.size ≤ k ∧ k < we.heap.size) (fun k hk => ⟨by omega, hk.2⟩) (fun k hk => ⟨by have := (HS.out k hk).1; omega, hS4 k hk⟩)
              rw [Hgm.out, if_pos Ht.out, Ht.out]
              exact ⟨_, rfl, ⟨_, rfl, hin⟩, GG.out.blw.trans (hche.below (B := w.heap.size) GG.out.blw.size (fun k hk => by omega))⟩
          · have hd : decide (er = 0) = false := decide_eq_false her
            have hd2 : (er == 0) = false := beq_eq_false_iff_ne.2 her
            have hd3 : (er != 0) = true := by simp [bne, hd2]
            rw [hd] at Hok3
            have Hf : Hid (getOk b = false) := Hok3
            have GG := Lib.hid GX2.out.z
            have Hgm := Hgm3
            clear hd hd2 her hreq
            have hone : ∀ u ∈ zeroMc, u.oneCell' = true := encM_one emptyM _ rfl
            have Hone := Lib.hid hone
            clear hone
            go_wp2_with (first
              | (refine wpList_load_agg rfl 56 (.tmp 4) rfl ⟨g4, 0, none⟩ rfl (zeroMc) GG.out.non.cells Try.underlying56 rfl info_man3 ?_)
              | (refine wpList_store_boxW rfl 56 56 (.tmp 2) (.tmp 142) rfl w.heap.size zeroMc (zeroMc) rfl rfl GG.out.res rfl Hone.out info_man3 ?_
                 intro we hend hche hze))
            refine bodyPost_ret (results_ct rfl _ _ w.heap.size (zeroMc) rfl (fun j v hj => (hend.cells j v hj : _)) Try.underlying56 rfl info_man3) rfl ?_
            have eM : getM b = emptyM := by rw [Hgm.out]; exact if_neg (by rw [Hf.out]; simp)
            rw [eM, Hf.out]
            exact ⟨_, rfl, MIn.empty _ _, GG.out.blw.trans (hche.below (B := w.heap.size) GG.out.blw.size (fun k hk => by omega))⟩
        · obtain ⟨m, rfl⟩ : ∃ m, gh = m + 1 := ⟨gh - 1, by omega⟩
          have HR : Hid (rfilesP m (acc ++ [(rfileP l 0).1]) (rfileP l 0).2.1 (rfileP l 0).2.2 = rm4 L) := hR
          have hlt : decide ((acc.length : Int) < (n3 : Int)) = true := decide_eq_true (by omega)
          clear hR
          have f1 := numS_lt 32 l 0
          have F1 : Hid (numS 32 l 0 = rf1 l 0) := rfl
          rw [F1.out] at f1
          have p1 : (rf1 l 0).2.2 ≠ 0 → (rf1 l 0).2.1 = [] := fun h => (numS_err 32 l 0 h).1
          have f2 := (bytesS_len' ((rf1 l 0).1 : Int) (rf1 l 0).2.1 (rf1 l 0).2.2).2
          have F2 : Hid (bytesS ((rf1 l 0).1 : Int) (rf1 l 0).2.1 (rf1 l 0).2.2 = rf2 l 0) := rfl
          rw [F2.out] at f2
          have p2 : (rf2 l 0).2.2 ≠ 0 → (rf2 l 0).2.1 = [] := bytesS_errM ((rf1 l 0).1 : Int) (rf1 l 0).2.1 (rf1 l 0).2.2
          have f3 := numS_lt 4294967295 (rf2 l 0).2.1 (rf2 l 0).2.2
          have F3 : Hid (numS 4294967295 (rf2 l 0).2.1 (rf2 l 0).2.2 = rf3 l 0) := rfl
          rw [F3.out] at f3
          have p3 : (rf3 l 0).2.2 ≠ 0 → (rf3 l 0).2.1 = [] := fun h => (numS_err 4294967295 (rf2 l 0).2.1 (rf2 l 0).2.2 h).1
          have f4 := numS_lt 7340032 (rf3 l 0).2.1 (rf3 l 0).2.2
          have F4 : Hid (numS 7340032 (rf3 l 0).2.1 (rf3 l 0).2.2 = rf4 l 0) := rfl
          rw [F4.out] at f4
          have p4 : (rf4 l 0).2.2 ≠ 0 → (rf4 l 0).2.1 = [] := fun h => (numS_err 7340032 (rf3 l 0).2.1 (rf3 l 0).2.2 h).1
          have F5 : Hid (rblk (manyOf ((rf4 l 0).1 : Int)).toNat [] (rf4 l 0).2.1 (rf4 l 0).2.2 = rf5 l 0) := rfl
          have F6 : Hid (rfileP l 0 = (⟨(rf2 l 0).1, UInt32.ofNat (rf3 l 0).1, ((rf4 l 0).1 : Int), (rf5 l 0).1⟩, (rf5 l 0).2.1, (rf5 l 0).2.2)) := rfl
          have hu3 := u32_small (rf3 l 0).1 f3.2
          have hw1 : IntKind.i64.wrap ((rf1 l 0).1 : Int) = ((rf1 l 0).1 : Int) := by rw [wrap_i64]; omega
          have hw4 : IntKind.i64.wrap ((rf4 l 0).1 : Int) = ((rf4 l 0).1 : Int) := by rw [wrap_i64]; omega
          have hm4 := manyOf_le (rf4 l 0).1 f4.2
          have Hm5 := Lib.hid (manyOf_nat (rf4 l 0).1)
          obtain ⟨idf, hidf⟩ : ∃ idf, idf = UInt32.ofNat (rf3 l 0).1 := ⟨_, rfl⟩
          rw [← hidf] at hu3 F6
          have P1 := Lib.hid p1
          have P2 := Lib.hid p2
          have P3 := Lib.hid p3
          have P4 := Lib.hid p4
          have hv := fun W hby hle => rnum_any W B0 v l 0 32 (by decide) hby hle GX.out.err
          rw [F1.out, show (((32 : Nat) : Int)) = 32 from rfl] at hv
          have Hv := Lib.hid hv
          have hz1 : ∀ u ∈ zeroFc, u.oneCell' = true := encF_one ⟨[], 0, 0, []⟩ _ rfl
          have Hz1 := Lib.hid hz1
          clear hv p1 p2 p3 p4 hidf hz1
          go_wp2_with (first
            | (refine wpList_alloc_z rfl 62 rfl info_file zeroFc zeroF_cells ?_)
            | (refine wpList_store_newW rfl 62 (.tmp 13) (.tmp 71) rfl zeroFc zeroFc rfl rfl info_file4 rfl Hz1.out ?_
               intro x1 hbx1 hb1 hz1)
            | (refine wpList_load_agg rfl 114 (.tmp 8) rfl ⟨g8, 0, none⟩ rfl [v, .int .i64 0] (GX.out.box.blwM hb1).cells Try.underlying114 rfl info_R2 ?_))
          obtain ⟨gf, hgfq⟩ : ∃ gf, gf = wr.heap.size := ⟨_, rfl⟩
          rw [← hgfq] at hbx1 hz1 ⊢
          have hgfm : gm < gf := by omega
          have X1 := Lib.hid (GX.out.stepB hb1)
          have M1 : Hid (MP gm gf ⟨ver, next, acc⟩ x1) := Lib.hid (hgfq ▸ Hmp.out.stepB hb1 (by omega))
          have Q1 : Hid (FP gf ⟨[], 0, 0, []⟩ x1) := ⟨_, hbx1, OwnF.nil_ _ _⟩
          have Hgfq := Lib.hid hgfq
          clear hbx1 hb1 hgfq hc1y hc2y
          refine (Hv.out x1 X1.out.by_ X1.out.le).mono ?_
          rintro _ x2 ⟨v2, rfl, hby2, hb2⟩
          have X2 := Lib.hid (X1.out.stepB hb2)
          have M2 := Lib.hid (M1.out.stepB hb2 hgfm)
          have Q2 := Lib.hid (Q1.out.stepB hb2)
          have Hy2 := Lib.hid hby2
          have Hone2 := Lib.hid (oneR hby2 (rf1 l 0).2.2)
          have hzz2 := hb2.size
          have hv := fun W hby hle => rbytes_any W B0 v2 (rf1 l 0).2.1 (rf1 l 0).2.2 ((rf1 l 0).1 : Int) (by omega) hby hle P1.out
          rw [F2.out] at hv
          have Hv2 := Lib.hid hv
          clear hby2 hb2 hv Hv X1 M1 Q1
          go_wp2_with (first
            | (refine wpList_store_boxW rfl 114 114 (.tmp 8) (.tmp 76) rfl g8 [v, .int .i64 0] [v2, .int .i64 (rf1 l 0).2.2] rfl rfl X2.out.box rfl Hone2.out info_R2 ?_; intro x3 hbx3 hch3 hz3)
            | (refine wpList_load_agg rfl 114 (.tmp 8) rfl ⟨g8, 0, none⟩ rfl [v2, .int .i64 (rf1 l 0).2.2] hbx3.cells Try.underlying114 rfl info_R2 ?_))
          have X3 := Lib.hid (X2.out.put hch3 hbx3 Hy2.out P1.out)
          have M3 := Lib.hid (M2.out.keep hch3 (fun k hk => by omega) hgfm)
          have Q3 := Lib.hid (Q2.out.keep hch3 (fun k hk => by omega))
          clear hbx3 Hy2 Hone2 X2 M2 Q2 hch3
          refine (Hv2.out x3 X3.out.by_ X3.out.le).mono ?_
          rintro _ x4 ⟨vn, v4, rfl, hbyn, hby4, hb4⟩
          have X4 := Lib.hid (X3.out.stepB hb4)
          have M4 := Lib.hid (M3.out.stepB hb4 hgfm)
          have Q4 := Lib.hid (Q3.out.stepB hb4)
          have hzz4 := hb4.size
          have Hyn4 := Lib.hid hbyn
          have Hy4 := Lib.hid hby4
          have Hone4 := Lib.hid (oneR hby4 (rf2 l 0).2.2)
          have hv := fun W hby hle => rnum_any W B0 v4 (rf2 l 0).2.1 (rf2 l 0).2.2 4294967295 (by decide) hby hle P2.out
          rw [F3.out, show (((4294967295 : Nat) : Int)) = 4294967295 from rfl] at hv
          have Hv3 := Lib.hid hv
          clear hbyn hby4 hb4 hv Hv2 X3 M3 Q3
          go_wp2_with (first
            | (refine wpList_alloc_z rfl 114 rfl info_Rz zeroRc rfl ?_)
            | (refine wpList_store_newW rfl 114 (.tmp 16) (.tmp 83) rfl zeroRc [v4, .int .i64 (rf2 l 0).2.2] rfl rfl info_R2 rfl Hone4.out ?_
               intro x5 hbx5 hb5 hz5)
            | (refine wpList_load_agg rfl 114 (.tmp 16) rfl ⟨x4.heap.size, 0, none⟩ rfl [v4, .int .i64 (rf2 l 0).2.2] hbx5.cells Try.underlying114 rfl info_R2 ?_))
          have X5 := Lib.hid (X4.out.stepB hb5)
          have M5 := Lib.hid (M4.out.stepB hb5 hgfm)
          have Q5 := Lib.hid (Q4.out.stepB hb5)
          have Hyn5 := Lib.hid (Hyn4.out.below (hb5.mono X4.out.le))
          have hby5 := Hy4.out.below (hb5.mono X4.out.le)
          clear hbx5 hb5 Hyn4 Hy4 Hone4 X4 M4 Q4
          refine (Hv3.out x5 hby5 X5.out.le).mono ?_
          rintro _ x6 ⟨v6, rfl, hby6, hb6⟩
          have X6 := Lib.hid (X5.out.stepB hb6)
          have M6 := Lib.hid (M5.out.stepB hb6 hgfm)
          have Q6 := Lib.hid (Q5.out.stepB hb6)
          have hzz6 := hb6.size
          have Hyn6 := Lib.hid (Hyn5.out.below (hb6.mono X5.out.le))
          have Hy6 := Lib.hid hby6
          have Hone6 := Lib.hid (oneR hby6 (rf3 l 0).2.2)
          have hv := fun W hby hle => rnum_any W B0 v6 (rf3 l 0).2.1 (rf3 l 0).2.2 7340032 (by decide) hby hle P3.out
          rw [F4.out, show (((7340032 : Nat) : Int)) = 7340032 from rfl] at hv
          have Hv4 := Lib.hid hv
          clear hby5 hby6 hb6 hv Hv3 X5 M5 Q5 Hyn5
          go_wp2_with (first
            | (refine wpList_alloc_z rfl 114 rfl info_Rz zeroRc rfl ?_)
            | (refine wpList_store_newW rfl 114 (.tmp 18) (.tmp 88) rfl zeroRc [v6, .int .i64 (rf3 l 0).2.2] rfl rfl info_R2 rfl Hone6.out ?_
               intro x7 hbx7 hb7 hz7)
            | (refine wpList_load_agg rfl 114 (.tmp 18) rfl ⟨x6.heap.size, 0, none⟩ rfl [v6, .int .i64 (rf3 l 0).2.2] hbx7.cells Try.underlying114 rfl info_R2 ?_))
          have X7 := Lib.hid (X6.out.stepB hb7)
          have M7 := Lib.hid (M6.out.stepB hb7 hgfm)
          have Q7 := Lib.hid (Q6.out.stepB hb7)
          have Hyn7 := Lib.hid (Hyn6.out.below (hb7.mono X6.out.le))
          have hby7 := Hy6.out.below (hb7.mono X6.out.le)
          clear hbx7 hb7 Hyn6 Hy6 Hone6 X6 M6 Q6
          refine (Hv4.out x7 hby7 X7.out.le).mono ?_
          rintro _ x8 ⟨v8, rfl, hby8, hb8⟩
          have X8 := Lib.hid (X7.out.stepB hb8)
          have M8 := Lib.hid (M7.out.stepB hb8 hgfm)
          have Q8 := Lib.hid (Q7.out.stepB hb8)
          have hzz8 := hb8.size
          have Hyn8 := Lib.hid (Hyn7.out.below (hb8.mono X7.out.le))
          have Hy8 := Lib.hid hby8
          have Hone8 := Lib.hid (oneR hby8 (rf4 l 0).2.2)
          clear hby7 hby8 hb8 Hv4 X7 M7 Q7 Hyn7
          go_upto_region 18 with (first
            | (refine wpList_alloc_z rfl 114 rfl info_Rz zeroRc rfl ?_)
            | (refine wpList_store_newW rfl 114 (.tmp 20) (.tmp 93) rfl zeroRc [v8, .int .i64 (rf4 l 0).2.2] rfl rfl info_R2 rfl Hone8.out ?_
               intro x9 hbx9 hb9 hz9
               have X9 := Lib.hid (X8.out.stepB hb9))
            | (refine wpList_store_boxW rfl 114 114 (.tmp 8) (.tmp 94) rfl g8 [v2, .int .i64 (rf1 l 0).2.2] [v8, .int .i64 (rf4 l 0).2.2] rfl rfl X9.out.box rfl Hone8.out info_R2 ?_; intro x10 hbx10 hch10 hz10)
            | (refine wpList_load_agg rfl 114 (.tmp 20) rfl ⟨x8.heap.size, 0, none⟩ rfl [v8, .int .i64 (rf4 l 0).2.2] hbx9.cells Try.underlying114 rfl info_R2 ?_))
          try simp only [Act.put, List.setIfInBounds_toArray, List.set_cons_zero, List.set_cons_succ]
          have M9 := Lib.hid (M8.out.stepB hb9 hgfm)
          have Q9 := Lib.hid (Q8.out.stepB hb9)
          have Hyn9 := Lib.hid (Hyn8.out.below (hb9.mono X8.out.le))
          have hby9 := Hy8.out.below (hb9.mono X8.out.le)
          have X10 := Lib.hid (X9.out.put hch10 hbx10 hby9 P4.out)
          have M10 := Lib.hid (M9.out.keep hch10 (fun k hk => by omega) hgfm)
          have Q10 := Lib.hid (Q9.out.keep hch10 (fun k hk => by omega))
          have hyn10 := Hyn9.out.below (hch10.below X9.out.le (fun k hk => by have := X9.out.o; omega))
          have hcv := conv8 hyn10
          have hnm := hyn10
          have hz10 := hz10
          have hgfz : gf < x10.heap.size := by omega
          obtain ⟨vb0, hbx11, hob11⟩ := Q10.out
          have q0 := hbx11.cell 0 _ rfl
          have fr0 := hbx11.frozen 0
          have hbx12 := hbx11.put 0 (.string (bst (rf2 l 0).1))
          have q1 := hbx12.cell 1 _ rfl
          have fr1 := hbx12.frozen 1
          have hbx13 := hbx12.put 1 (.int .u32 (idf.toNat : Int))
          have q2 := hbx13.cell 2 _ rfl
          have fr2 := hbx13.frozen 2
          have hbx14 := hbx13.put 2 (.int .i64 ((rf4 l 0).1 : Int))
          have Hbx14 := Lib.hid hbx14
          have Hob11 := Lib.hid hob11
          clear hb9 hbx9 hz9 X8 M8 Q8 X9 M9 Q9 Hyn8 Hyn9 Hy8 hby9 hch10 hbx10 hyn10 hnm Q10 hbx11 hbx12 hbx13 hbx14 hob11 Hone8
          go_upto_region 21 with fail
          obtain ⟨x11, hx11⟩ : ∃ x11, x11 = ((x10.setCell { block := gf, off := 0 } (.string (bst (rf2 l 0).1))).setCell { block := gf, off := 1 } (.int .u32 (idf.toNat : Int))).setCell { block := gf, off := 2 } (.int .i64 ((rf4 l 0).1 : Int)) := ⟨_, rfl⟩
          rw [← hx11]
          rw [← hx11] at Hbx14
          have hch11 : Chg (fun k => k = gf) x10 x11 := by rw [hx11]; exact ((Chg.set (P := fun k => k = gf) _ _ _ rfl).trans (Chg.set (P := fun k => k = gf) _ _ _ rfl)).trans (Chg.set (P := fun k => k = gf) _ _ _ rfl)
          have hz11 : gf < x11.heap.size := by have := hch11.size; omega
          have X11 := Lib.hid (X10.out.step hch11 (fun k hk => by omega))
          have M11 := Lib.hid (M10.out.keep hch11 (fun k hk => by omega) hgfm)
          have Q11 : Hid (FP gf ⟨(rf2 l 0).1, idf, ((rf4 l 0).1 : Int), []⟩ x11) := ⟨vb0, Hbx14.out, Hob11.out.chg hch11 (fun k hk e => by have := (Hob11.out.blk k hk).1; omega) (fun _ h => h.elim)⟩
          clear hx11 hch11 Hbx14 Hob11 X10 M10 q0 q1 q2 fr0 fr1 fr2 hcv hz10 hgfz hz1 hzz2 hzz4 hzz6 hzz8 hz5 hz7 hz3
          generalize hnm : (rf2 l 0).1 = nm at *
          generalize hsz4 : (rf4 l 0).1 = sz at *
          generalize hNB : (manyOf (sz : Int)).toNat = NB at *
          have HG5 := Lib.hid F5.out
          clear P1 P2 P3 hnm hsz4
          go_wp2_with fail
          go_loopw [21] (fun iv X => ∃ (j : Nat) (bl : List Int) (vy : Value) (ly : List UInt8) (ey : Int), iv = .int .i64 (j : Int) ∧ j ≤ NB ∧ bl.length ≤ j ∧ RG0 w g4 g8 B0 vy ly ey X ∧ MP gm gf ⟨ver, next, acc⟩ X ∧ FP gf ⟨nm, idf, (sz : Int), bl⟩ X ∧ gf < X.heap.size ∧ rblk (NB - j) bl ly ey = rf5 l 0) (fun i _ => NB - (intOf i).toNat)
          case atStart => exact ⟨0, [], v8, _, _, rfl, by omega, by simp, X11.out, M11.out, Q11.out, hz11, HG5.out⟩
          case round =>
            obtain ⟨j, bl, vy, ly, ey, rfl, hj, hbl, hxx, hmm2, hqq, hzX, hrb⟩ := hrel
            obtain ⟨vb, hbf, hob⟩ := hqq
            have hcf2 := hbf.cell 2 _ rfl
            have hcr1 := hxx.box.cell 1 _ rfl
            have Xy := Lib.hid hxx
            have My := Lib.hid hmm2
            have Qy : Hid (FP gf ⟨nm, idf, (sz : Int), bl⟩ wr) := ⟨vb, hbf, hob⟩
            have Hbf := Lib.hid hbf
            have Hob := Lib.hid hob
            have hmany := many_any wr (sz : Int) (by omega) (by omega)
            have hrmany := rmany_any wr (sz : Int) (by omega) (by omega)
            rw [Hm5.out] at hrmany
            have Hrmany := Lib.hid hrmany
            clear hxx hmm2 hbf hob hmany hrmany X11 M11 Q11 hz11
            go_wp2_with fail
            refine Hrmany.out.mono ?_
            rintro _ _ ⟨rfl, rfl⟩
            by_cases hjn : j < NB
            · have hjd : decide ((j : Int) < (NB : Int)) = true := decide_eq_true (by omega)
              obtain ⟨r, hr⟩ : ∃ r, NB - j = r + 1 := ⟨NB - j - 1, by omega⟩
              rw [hr] at hrb
              have Hr' : Hid (NB - (j + 1) = r) := by show NB - (j + 1) = r; omega
              clear hr
              by_cases hey : ey = 0
              · subst hey
                have hrb2 : rblk r (bl ++ [((numS 65536 ly 0).1 : Int)]) (numS 65536 ly 0).2.1 (numS 65536 ly 0).2.2 = rf5 l 0 := hrb
                rw [← Hr'.out] at hrb2
                have hx := numS_lt 65536 ly 0
                have hxe : (numS 65536 ly 0).2.2 ≠ 0 → (numS 65536 ly 0).2.1 = [] := fun h => (numS_err 65536 ly 0 h).1
                have hvn := rnum_any wr B0 vy ly 0 65536 (by decide) Xy.out.by_ Xy.out.le Xy.out.err
                rw [show (((65536 : Nat) : Int)) = 65536 from rfl] at hvn
                generalize hqN : numS 65536 ly 0 = NS at *
                obtain ⟨x, lx, ex⟩ := NS
                simp only at hx hxe hrb2 hvn
                have hwx : IntKind.i64.wrap (x : Int) = (x : Int) := by rw [wrap_i64]; omega
                have Hvn := Lib.hid hvn
                have Hrb2 := Lib.hid hrb2
                have Hxe := Lib.hid hxe
                clear hrb hvn hrb2 hxe hqN
                go_wp2_with (refine wpList_load_agg rfl 114 (.tmp 8) rfl ⟨g8, 0, none⟩ rfl [vy, .int .i64 0] Xy.out.box.cells Try.underlying114 rfl info_R2 ?_)
                refine Hvn.out.mono ?_
                rintro _ y1 ⟨vx, rfl, hbyx, hby1⟩
                have Y1 := Lib.hid (Xy.out.stepB hby1)
                have N1 := Lib.hid (My.out.stepB hby1 hgfm)
                have hb1f := Hbf.out.blwM hby1
                have ho1f := Hob.out.below_ hby1
                have hyz1 := hby1.size
                have Hyx := Lib.hid hbyx
                have Honex := Lib.hid (oneR hbyx ex)
                have Hb1f := Lib.hid hb1f
                have Ho1f := Lib.hid ho1f
                clear hby1 hbyx hb1f ho1f Hvn Hrmany hcf2 hcr1
                go_upto_region 26 with (refine wpList_store_boxW rfl 114 114 (.tmp 8) (.tmp 120) rfl g8 [vy, .int .i64 0] [vx, .int .i64 ex] rfl rfl Y1.out.box rfl Honex.out info_R2 ?_; intro y2 hbx2 hch2 hz2)
                try simp only [Act.put, List.setIfInBounds_toArray, List.set_cons_zero, List.set_cons_succ]
                have Y2 := Lib.hid (Y1.out.put hch2 hbx2 Hyx.out Hxe.out)
                have N2 := Lib.hid (N1.out.keep hch2 (fun k hk => by omega) hgfm)
                have hb2f := Hb1f.out.chg hch2 (fun e => by omega)
                have ho2f := Ho1f.out.chg hch2 (fun k hk e => by have := (Ho1f.out.blk k hk).1; omega) (fun _ h => h.elim)
                have hcc3 := hb2f.cell 3 _ rfl
                have Hb2f := Lib.hid hb2f
                have Ho2f := Lib.hid ho2f
                have hgz2 : gf < y2.heap.size := by omega
                clear hch2 hbx2 hz2 hb2f ho2f Y1 N1 Hb1f Ho1f Hyx Honex
                go_wp2_with (first
                | (at_builtin
                   refine wpList_app1R (C := cInt) rfl (.tmp 122) (.tmp 125) 60 rfl Try.underlying60 info_i64 rfl (by decide) (by decide) [.int .i64 (x : Int)] Ho2f.out (y := (x : Int)) ⟨rfl, by omega, by omega⟩ rfl rfl (by omega) (by omega) ?_
                   intro y8 w8 ho8 hx8
                   have hbf8 := Hb2f.out.grown hx8.gr (fun e => by have := (Ho2f.out.blk _ e).1; omega)
                   have fr8 := hbf8.frozen 3
                   have cc8 := hbf8.cell 3 _ rfl
                   have Hbf8 := Lib.hid hbf8
                   have Ho8 := Lib.hid ho8
                   have Hx8 := Lib.hid hx8
                   have hw8 := hx8.gr.size
                   obtain ⟨A8, c8', hv8, _, _, _⟩ := ho8.form'
                   rw [List.length_append, List.length_singleton] at hv8
                   clear hbf8 ho8 hx8 hcc3
                   subst hv8))
                have hch8 : Chg (fun k => gf < k) y2 w8 := Chg.ofGrown Hx8.out.gr fun k e => by have := (Ho2f.out.blk k e).1; omega
                have hchs := Chg.set (P := fun k => k = gf) w8 ⟨gf, 3, none⟩ (.slice A8 (bl.length + 1) c8') rfl
                have hch9 : Chg (fun k => gf ≤ k) y2 (w8.setCell ⟨gf, 3, none⟩ (.slice A8 (bl.length + 1) c8')) := (hch8.more (fun k _ h => by omega)).trans (hchs.more (fun k _ h => by omega))
                have hfp9 : FP gf ⟨nm, idf, (sz : Int), bl ++ [(x : Int)]⟩ (w8.setCell ⟨gf, 3, none⟩ (.slice A8 (bl.length + 1) c8')) := ⟨_, Hbf8.out.put 3 _, Ho8.out.chg hchs (fun k hk e => by have := (Ho8.out.blk k hk).1; omega) (fun _ h => h.elim)⟩
                go_roundw
                case rel =>
                  refine ⟨j + 1, bl ++ [(x : Int)], vx, lx, ex, by go_num, by omega, by simp; omega, Y2.out.step hch9 (fun k hk => by omega), N2.out.keep hch9 (fun k hk => by omega) hgfm, hfp9, ?_, Hrb2.out⟩
                  simp [World.setCell]; omega
                case measure => simp [intOf]; omega
              · have Hrb : Hid ((bl, ly, ey) = rf5 l 0) := by rw [rblk, if_pos hey] at hrb; exact hrb
                have hd : (ey == 0) = false := beq_eq_false_iff_ne.2 hey
                clear hrb hey Hbf Hob Hrmany
                obtain ⟨vf, S, hbm, hown, hS1, hS2⟩ := My.out
                obtain ⟨vb, hbf, hob⟩ := Qy.out
                obtain ⟨f1, hf1⟩ : ∃ f1 : MFile, f1 = ⟨nm, idf, (sz : Int), bl⟩ := ⟨_, rfl⟩
                have hfp : rfileP l 0 = (f1, ly, ey) := by rw [F6.out, hf1, ← Hrb.out]
                have hok : fileOk f1 := by rw [hf1]; exact ⟨by show nm.length ≤ maxLen; unfold maxLen; omega, by show (-9223372036854775808 : Int) ≤ (sz : Int); omega, by show (sz : Int) ≤ 9223372036854775807; omega⟩
                have hfb : f1.blocks = bl := by rw [hf1]
                rw [← hf1] at hbf
                have hown' : OwnR 62 cFile wr (gm + 1) (fun k => S k ∨ vb.ownBlock = some k) vf acc := hown.widen (fun k h => .inl h) (fun k hk => by
                  rcases hk with hk | hk
                  · obtain ⟨_, _, _, _, h4⟩ := hown; exact h4 k hk
                  · exact ⟨(hob.blk k hk).2, fun e => by have := hS2 k e; have := (hob.blk k hk).1; omega⟩)
                have hy : cFile.at_ wr (fun k => S k ∨ vb.ownBlock = some k) (encF f1 vb) f1 := ⟨vb, rfl, by rw [hfb]; exact hob.rowOwn.mono (fun k hk => .inr hk) (fun _ h => h.elim), hok⟩
                have hel : (encF f1 vb).length = 4 := rfl
                have hcl := hbf.cells
                have hc2 := hbm.cell 2 _ rfl
                have Hcl := Lib.hid hcl
                have Hown := Lib.hid hown'
                have Hy := Lib.hid hy
                have Hbm := Lib.hid hbm
                have Hfpp := Lib.hid hfp
                have HS1 := Lib.hid hS1
                have Hob := Lib.hid hob
                have hyo := Xy.out.o
                clear hf1 hfp hok hfb hown' hy hcl hbm hS1 hS2 hown hbf hob
                go_wp2_with (first
                  | (refine wpList_load_agg rfl 62 (.tmp 13) rfl ⟨gf, 0, none⟩ rfl (encF f1 vb) Hcl.out Try.underlying62 rfl info_file4 ?_)
                  | (at_builtin
                     refine wpList_app1R (C := cFile) rfl (.tmp 129) (.tmp 131) 54 rfl Try.underlying54 info_fileC rfl (by decide) (by decide) (encF f1 vb) Hown.out (y := f1) Hy.out rfl rfl (by omega) (by omega) ?_
                     intro y8 w8 ho8 hx8
                     have hbm8 := Hbm.out.grown hx8.gr (fun e => by have := (Hown.out.blk _ e).1; omega)
                     have fr8 := hbm8.frozen 2
                     have cc8 := hbm8.cell 2 _ rfl
                     have Hbm8 := Lib.hid hbm8
                     have Ho8 := Lib.hid ho8
                     have Hx8 := Lib.hid hx8
                     have hw8 := hx8.gr.size
                     obtain ⟨A8, c8', hv8, _, _, _⟩ := ho8.form'
                     rw [List.length_append, List.length_singleton] at hv8
                     clear hbm8 ho8 hx8
                     subst hv8))
                have hch8 : Chg (fun k => gm < k) wr w8 := Chg.ofGrown Hx8.out.gr fun k e => by have := (Hown.out.blk k e).1; omega
                have hchs := Chg.set (P := fun k => k = gm) w8 ⟨gm, 2, none⟩ (.slice A8 (acc.length + 1) c8') rfl
                have hch9 : Chg (fun k => gm ≤ k) wr (w8.setCell ⟨gm, 2, none⟩ (.slice A8 (acc.length + 1) c8')) := (hch8.more (fun k _ h => by omega)).trans (hchs.more (fun k _ h => by omega))
                have hmp9 : MP gm (w8.setCell ⟨gm, 2, none⟩ (.slice A8 (acc.length + 1) c8')).heap.size ⟨ver, next, acc ++ [f1]⟩ (w8.setCell ⟨gm, 2, none⟩ (.slice A8 (acc.length + 1) c8')) := by
                  have hz : (w8.setCell ⟨gm, 2, none⟩ (.slice A8 (acc.length + 1) c8')).heap.size = w8.heap.size := by simp [World.setCell]
                  refine ⟨_, _, Hbm8.out.put 2 _, Ho8.out.chg hchs (fun k hk e => by have := (Ho8.out.blk k hk).1; omega) (fun k hk e => ?_), fun k hk => ?_, fun k hk => by rw [hz]; exact (Ho8.out.blk k hk).2⟩
                  · rcases hk with hk | hk
                    · have := (HS1.out k hk).1; omega
                    · have := (Hob.out.blk k hk).1; omega
                  · rw [hz]
                    rcases hk with hk | hk
                    · have := (HS1.out k hk); omega
                    · have := (Hob.out.blk k hk); omega
                go_roundg m
                case rel =>
                  refine ⟨m, acc ++ [f1], vy, ly, ey, rfl, by simp; omega, Xy.out.step hch9 (fun k hk => by omega), hmp9, ?_, ?_⟩
                  · simp [World.setCell]; omega
                  · have hr := HR.out
                    rw [Hfpp.out] at hr
                    exact hr
                case measure => have := Hghx.out; omega
            · have hjd : decide ((j : Int) < (NB : Int)) = false := decide_eq_false (by omega)
              have Hrb : Hid ((bl, ly, ey) = rf5 l 0) := by rw [show NB - j = 0 from by omega] at hrb; exact hrb
              clear hrb Hbf Hob Hrmany
              obtain ⟨vf, S, hbm, hown, hS1, hS2⟩ := My.out
              obtain ⟨vb, hbf, hob⟩ := Qy.out
              obtain ⟨f1, hf1⟩ : ∃ f1 : MFile, f1 = ⟨nm, idf, (sz : Int), bl⟩ := ⟨_, rfl⟩
              have hfp : rfileP l 0 = (f1, ly, ey) := by rw [F6.out, hf1, ← Hrb.out]
              have hok : fileOk f1 := by rw [hf1]; exact ⟨by show nm.length ≤ maxLen; unfold maxLen; omega, by show (-9223372036854775808 : Int) ≤ (sz : Int); omega, by show (sz : Int) ≤ 9223372036854775807; omega⟩
              have hfb : f1.blocks = bl := by rw [hf1]
              rw [← hf1] at hbf
              have hown' : OwnR 62 cFile wr (gm + 1) (fun k => S k ∨ vb.ownBlock = some k) vf acc := hown.widen (fun k h => .inl h) (fun k hk => by
                rcases hk with hk | hk
                · obtain ⟨_, _, _, _, h4⟩ := hown; exact h4 k hk
                · exact ⟨(hob.blk k hk).2, fun e => by have := hS2 k e; have := (hob.blk k hk).1; omega⟩)
              have hy : cFile.at_ wr (fun k => S k ∨ vb.ownBlock = some k) (encF f1 vb) f1 := ⟨vb, rfl, by rw [hfb]; exact hob.rowOwn.mono (fun k hk => .inr hk) (fun _ h => h.elim), hok⟩
              have hel : (encF f1 vb).length = 4 := rfl
              have hcl := hbf.cells
              have hc2 := hbm.cell 2 _ rfl
              have Hcl := Lib.hid hcl
              have Hown := Lib.hid hown'
              have Hy := Lib.hid hy
              have Hbm := Lib.hid hbm
              have Hfpp := Lib.hid hfp
              have HS1 := Lib.hid hS1
              have Hob := Lib.hid hob
              have hyo := Xy.out.o
              clear hf1 hfp hok hfb hown' hy hcl hbm hS1 hS2 hown hbf hob
              go_wp2_with (first
                | (refine wpList_load_agg rfl 62 (.tmp 13) rfl ⟨gf, 0, none⟩ rfl (encF f1 vb) Hcl.out Try.underlying62 rfl info_file4 ?_)
                | (at_builtin
                   refine wpList_app1R (C := cFile) rfl (.tmp 129) (.tmp 131) 54 rfl Try.underlying54 info_fileC rfl (by decide) (by decide) (encF f1 vb) Hown.out (y := f1) Hy.out rfl rfl (by omega) (by omega) ?_
                   intro y8 w8 ho8 hx8
                   have hbm8 := Hbm.out.grown hx8.gr (fun e => by have := (Hown.out.blk _ e).1; omega)
                   have fr8 := hbm8.frozen 2
                   have cc8 := hbm8.cell 2 _ rfl
                   have Hbm8 := Lib.hid hbm8
                   have Ho8 := Lib.hid ho8
                   have Hx8 := Lib.hid hx8
                   have hw8 := hx8.gr.size
                   obtain ⟨A8, c8', hv8, _, _, _⟩ := ho8.form'
                   rw [List.length_append, List.length_singleton] at hv8
                   clear hbm8 ho8 hx8
                   subst hv8))
              have hch8 : Chg (fun k => gm < k) wr w8 := Chg.ofGrown Hx8.out.gr fun k e => by have := (Hown.out.blk k e).1; omega
              have hchs := Chg.set (P := fun k => k = gm) w8 ⟨gm, 2, none⟩ (.slice A8 (acc.length + 1) c8') rfl
              have hch9 : Chg (fun k => gm ≤ k) wr (w8.setCell ⟨gm, 2, none⟩ (.slice A8 (acc.length + 1) c8')) := (hch8.more (fun k _ h => by omega)).trans (hchs.more (fun k _ h => by omega))
              have hmp9 : MP gm (w8.setCell ⟨gm, 2, none⟩ (.slice A8 (acc.length + 1) c8')).heap.size ⟨ver, next, acc ++ [f1]⟩ (w8.setCell ⟨gm, 2, none⟩ (.slice A8 (acc.length + 1) c8')) := by
                have hz : (w8.setCell ⟨gm, 2, none⟩ (.slice A8 (acc.length + 1) c8')).heap.size = w8.heap.size := by simp [World.setCell]
                refine ⟨_, _, Hbm8.out.put 2 _, Ho8.out.chg hchs (fun k hk e => by have := (Ho8.out.blk k hk).1; omega) (fun k hk e => ?_), fun k hk => ?_, fun k hk => by rw [hz]; exact (Ho8.out.blk k hk).2⟩
                · rcases hk with hk | hk
                  · have := (HS1.out k hk).1; omega
                  · have := (Hob.out.blk k hk).1; omega
                · rw [hz]
                  rcases hk with hk | hk
                  · have := (HS1.out k hk); omega
                  · have := (Hob.out.blk k hk); omega
              go_roundg m
              case rel =>
                refine ⟨m, acc ++ [f1], vy, ly, ey, rfl, by simp; omega, Xy.out.step hch9 (fun k hk => by omega), hmp9, ?_, ?_⟩
                · simp [World.setCell]; omega
                · have hr := HR.out
                  rw [Hfpp.out] at hr
                  exact hr
              case measure => have := Hghx.out; omega
      · have HR : Hid ((acc, l, e) = rm4 L) := by
          rcases Nat.eq_zero_or_pos gh with hn0 | hn0
          · subst hn0; exact hR
          · obtain ⟨m, rfl⟩ : ∃ m, gh = m + 1 := ⟨gh - 1, by omega⟩
            rw [rfilesP, if_pos he] at hR
            exact hR
        have hd : (e == 0) = false := beq_eq_false_iff_ne.2 he
        clear hR he
        have Hrd := GX
        obtain ⟨vf, S, hbm, hown, hS1, hS2⟩ := Hmp.out
        obtain ⟨mm, hmm⟩ : ∃ mm : MMan, mm = ⟨ver, next, acc⟩ := ⟨_, rfl⟩
        have hrm : rmanP L = mm := by rw [E5.out, hmm, ← HR.out]
        have hre : endR l e = readE L := by rw [endR_eq l e GX.out.err]; show endE l e = endE (rm4 L).2.1 (rm4 L).2.2; rw [← HR.out]
        have hsm := rman_small L
        rw [hrm] at hsm
        have Hok3 : Hid (getOk b = (true && (decide (readE L = 0) && mayM mm))) := by have := Hok2; rw [hrm] at this; exact this
        have Hgm3 : Hid (getM b = if getOk b = true then mm else emptyM) := by have := Hgm; rw [hrm] at this; exact this
        rw [← hmm] at hbm hown
        obtain ⟨Af, cf, hvf, hcf1, hcf2⟩ := hown.rowAll.form
        subst hvf
        have hfl : mm.files.length = acc.length := by rw [hmm]
        have Hfl := Lib.hid hfl
        have Hbm := Lib.hid hbm
        have Hown := Lib.hid hown
        have HS := Lib.hid hS1
        have Hsm := Lib.hid hsm
        have Hre := Lib.hid hre
        have Hmm := Lib.hid hmm
        have Hrm := Lib.hid hrm
        have hc2m : wr.cell? { block := gm, off := 2 } = some (.slice Af acc.length cf) := by rw [← hfl]; exact hbm.cell 2 _ rfl
        have hc1r := GX.out.box.cell 1 _ rfl
        have hend := rend_any wr v l e B0 GX.out.by_
        rw [Hre.out] at hend
        have Hend := Lib.hid hend
        clear hmm hbm hown hS1 hS2 hrm hre hsm hfl hend hc2y
        go_wp2_with (refine wpList_load_agg rfl 114 (.tmp 8) rfl ⟨g8, 0, none⟩ rfl [v, .int .i64 e] GX.out.box.cells Try.underlying114 rfl info_R2 ?_)
        refine Hend.out.mono ?_
        rintro _ w20 ⟨rfl, hb20⟩
        have GX2 := Lib.hid (GX.out.stepB hb20)
        have Hbm2 := Lib.hid (Hbm.out.blwM hb20)
        have Hown2 := Lib.hid (Hown.out.below_ hb20)
        clear hb20 hc1r hc2m Hend Hown Hbm
        generalize hreq : readE L = er at *
        by_cases her : er = 0
        · have hd : decide (er = 0) = true := decide_eq_true her
          rw [hd] at Hok3
          subst her
          clear hd hreq
          go_wp2_with (refine wpList_load_aggG (by first | rfl | simp [Region.wanted, yielded]) 56 (.tmp 12) rfl ⟨gm, 0, none⟩ rfl (encM mm (.slice Af mm.files.length cf)) Hbm2.out.cells Try.underlying56 rfl info_man3 ?_)
          refine (rmay_any' w20 _ mm ⟨_, rfl, Hown2.out.rowAll⟩ (fun _ => Hsm.out)).mono ?_
          rintro _ w21 ⟨rfl, hb21⟩
          have GX3 := Lib.hid (GX2.out.stepB hb21)
          have Hbm := Lib.hid (Hbm2.out.blwM hb21)
          have Hown3 := Lib.hid (Hown2.out.below_ hb21)
          have GG := Lib.hid GX3.out.z
          have Hgm := Hgm3
          clear hb21 Hown2 Hbm2
          cases hm : mayM mm with
          | false =>
            rw [hm] at Hok3
            have Hf : Hid (getOk b = false) := Hok3
            clear hm
            have hone : ∀ u ∈ zeroMc, u.oneCell' = true := encM_one emptyM _ rfl
            have Hone := Lib.hid hone
            clear hone
            go_wp2_with (first
              | (refine wpList_load_agg rfl 56 (.tmp 4) rfl ⟨g4, 0, none⟩ rfl (zeroMc) GG.out.non.cells Try.underlying56 rfl info_man3 ?_)
              | (refine wpList_store_boxW rfl 56 56 (.tmp 2) (.tmp 142) rfl w.heap.size zeroMc (zeroMc) rfl rfl GG.out.res rfl Hone.out info_man3 ?_
                 intro we hend hche hze))
            refine bodyPost_ret (results_ct rfl _ _ w.heap.size (zeroMc) rfl (fun j v hj => (hend.cells j v hj : _)) Try.underlying56 rfl info_man3) rfl ?_
            have eM : getM b = emptyM := by rw [Hgm.out]; exact if_neg (by rw [Hf.out]; simp)
            rw [eM, Hf.out]
            exact ⟨_, rfl, MIn.empty _ _, GG.out.blw.trans (hche.below (B := w.heap.size) GG.out.blw.size (fun k hk => by omega))⟩
          | true =>
            rw [hm] at Hok3
            have Ht : Hid (getOk b = true) := Hok3
            have Hone : Hid (∀ u ∈ encM mm (.slice Af mm.files.length cf), u.oneCell' = true) := encM_one mm _ rfl
            clear hm
            go_wp2_with (first
              | (refine wpList_load_agg rfl 56 (.tmp 12) rfl ⟨gm, 0, none⟩ rfl (encM mm (.slice Af mm.files.length cf)) Hbm.out.cells Try.underlying56 rfl info_man3 ?_)
              | (refine wpList_store_boxW rfl 56 56 (.tmp 2) (.tmp 143) rfl w.heap.size zeroMc (encM mm (.slice Af mm.files.length cf)) rfl rfl GG.out.res rfl Hone.out info_man3 ?_
                 intro we hend hche hze))
            refine bodyPost_ret (results_ct rfl _ _ w.heap.size (encM mm (.slice Af mm.files.length cf)) rfl (fun j v hj => (hend.cells j v hj : _)) Try.underlying56 rfl info_man3) rfl ?_
            have hof := Hown3.out.chg hche (fun k hk e => by have := (Hown3.out.blk k hk).1; omega) (fun k hk e => by have := (HS.out k hk).1; omega)
            have hS4 : ∀ k, S k → k < we.heap.size := by obtain ⟨_, _, _, _, h4⟩ := hof; exact fun k hk => (h4 k hk).1
            have hin := hof.row.mono (O' := fun k => w.heap.size ≤ k ∧ k < we.heap.size) (S' := fun k => w.heap.size ≤ k ∧ k < we.heap.size) (fun k hk => ⟨by omega, hk.2⟩) (fun k hk => ⟨by have := (HS.out k hk).1; omega, hS4 k hk⟩)
            rw [Hgm.out, if_pos Ht.out, Ht.out]
            exact ⟨_, rfl, ⟨_, rfl, hin⟩, GG.out.blw.trans (hche.below (B := w.heap.size) GG.out.blw.size (fun k hk => by omega))⟩
        · have hd : decide (er = 0) = false := decide_eq_false her
          have hd2 : (er == 0) = false := beq_eq_false_iff_ne.2 her
          have hd3 : (er != 0) = true := by simp [bne, hd2]
          rw [hd] at Hok3
          have Hf : Hid (getOk b = false) := Hok3
          have GG := Lib.hid GX2.out.z
          have Hgm := Hgm3
          clear hd hd2 her hreq
          have hone : ∀ u ∈ zeroMc, u.oneCell' = true := encM_one emptyM _ rfl
          have Hone := Lib.hid hone
          clear hone
          go_wp2_with (first
            | (refine wpList_load_agg rfl 56 (.tmp 4) rfl ⟨g4, 0, none⟩ rfl (zeroMc) GG.out.non.cells Try.underlying56 rfl info_man3 ?_)
            | (refine wpList_store_boxW rfl 56 56 (.tmp 2) (.tmp 142) rfl w.heap.size zeroMc (zeroMc) rfl rfl GG.out.res rfl Hone.out info_man3 ?_
               intro we hend hche hze))
          refine bodyPost_ret (results_ct rfl _ _ w.heap.size (zeroMc) rfl (fun j v hj => (hend.cells j v hj : _)) Try.underlying56 rfl info_man3) rfl ?_
          have eM : getM b = emptyM := by rw [Hgm.out]; exact if_neg (by rw [Hf.out]; simp)
          rw [eM, Hf.out]
          exact ⟨_, rfl, MIn.empty _ _, GG.out.blw.trans (hche.below (B := w.heap.size) GG.out.blw.size (fun k hk => by omega))⟩
  · have hf : getOk b = false := by
      rw [Hok.out]
      by_cases hE : E = 0
      · have hd : decide (K = 77) = false := decide_eq_false (fun h => hcnd ⟨hE, h⟩)
        rw [hd]; simp
      · have hd : decide (E = 0) = false := decide_eq_false hE
        rw [hd]; simp
    have Hf := Lib.hid hf
    have GG : Hid (RGz w g4 w3) := ⟨Hres3.out, Hnon3.out, Hb3.out⟩
    by_cases hE : E = 0
    · have hK : K ≠ 77 := fun h => hcnd ⟨hE, h⟩
      have hK2 : ((K.toNat : Int) == 77) = false := beq_eq_false_iff_ne.2 (fun e => hK (by rw [← UInt8.toNat_inj]; show K.toNat = 77; omega))
      subst hE
      clear hf hK hcnd
      have hone : ∀ u ∈ zeroMc, u.oneCell' = true := encM_one emptyM _ rfl
      have Hone := Lib.hid hone
      clear hone
      go_wp2_with (first
        | (refine wpList_load_agg rfl 56 (.tmp 4) rfl ⟨g4, 0, none⟩ rfl (zeroMc) GG.out.non.cells Try.underlying56 rfl info_man3 ?_)
        | (refine wpList_store_boxW rfl 56 56 (.tmp 2) (.tmp 37) rfl w.heap.size zeroMc (zeroMc) rfl rfl GG.out.res rfl Hone.out info_man3 ?_
           intro we hend hche hze))
      refine bodyPost_ret (results_ct rfl _ _ w.heap.size (zeroMc) rfl (fun j v hj => (hend.cells j v hj : _)) Try.underlying56 rfl info_man3) rfl ?_
      have eM : getM b = emptyM := by rw [Hgm.out]; exact if_neg (by rw [Hf.out]; simp)
      rw [eM, Hf.out]
      exact ⟨_, rfl, MIn.empty _ _, GG.out.blw.trans (hche.below (B := w.heap.size) GG.out.blw.size (fun k hk => by omega))⟩
    · have hE2 : (E == 0) = false := beq_eq_false_iff_ne.2 hE
      have hE3 : (E != 0) = true := by simp [bne, hE2]
      clear hf hE hE2 hcnd
      have hone : ∀ u ∈ zeroMc, u.oneCell' = true := encM_one emptyM _ rfl
      have Hone := Lib.hid hone
      clear hone
      go_wp2_with (first
        | (refine wpList_load_agg rfl 56 (.tmp 4) rfl ⟨g4, 0, none⟩ rfl (zeroMc) GG.out.non.cells Try.underlying56 rfl info_man3 ?_)
        | (refine wpList_store_boxW rfl 56 56 (.tmp 2) (.tmp 37) rfl w.heap.size zeroMc (zeroMc) rfl rfl GG.out.res rfl Hone.out info_man3 ?_
           intro we hend hche hze))
      refine bodyPost_ret (results_ct rfl _ _ w.heap.size (zeroMc) rfl (fun j v hj => (hend.cells j v hj : _)) Try.underlying56 rfl info_man3) rfl ?_
      have eM : getM b = emptyM := by rw [Hgm.out]; exact if_neg (by rw [Hf.out]; simp)
      rw [eM, Hf.out]
      exact ⟨_, rfl, MIn.empty _ _, GG.out.blw.trans (hche.below (B := w.heap.size) GG.out.blw.size (fun k hk => by omega))⟩
end Go.Proofs.Ytpoicbhbkabllaa

namespace Go.Proofs.Ytpoicbhbkabllaa.manifestReads
open Go.Proofs.Ytpoicbhbkabllaa
open Go.ChangeShapes Go.WideShapes Go.ChangeAt Go.RowKit
set_option linter.unusedVariables false
set_option linter.unusedSimpArgs false

theorem own : ownKnob Try.prog.godebug = none := by kernel_rfl
theorem laidOut : laidOutB Try.prog = true := by kernel_rfl

set_option maxRecDepth 100000 in
set_option maxHeartbeats 3200000 in
theorem walk (v0 : Value) (w : World) (h0 : InC w 30 [v0]) :
    Calls Try.prog 8 #[v0] w fun e w' => e = .returned (.bool true) ∧ Below w.heap.size w w' := by
  obtain ⟨b, hby⟩ := InC.bytes h0
  obtain ⟨A, c, rfl, hc1, hc2, hrd0⟩ := id hby
  unfold maxLen at hc2
  have HA := Lib.hid (fun W => awake09 W)
  have Hby := Lib.hid hby
  clear hby hrd0 h0
  by_cases hl : 3000 < b.length
  · have hd : decide (3000 < (b.length : Int)) = true := decide_eq_true (by omega)
    have hd' : decide (3000 < b.length) = true := decide_eq_true hl
    clear hl
    go_enter Try.func8, Try.ntmps8
    go_wp2_with (go_at_call 30; refine (HA.out _).mono ?_; rintro e wa ⟨rfl, hba⟩)
    go_ret
    exact ⟨rfl, hba⟩
  · have hd : decide (3000 < (b.length : Int)) = false := decide_eq_false (by omega)
    have hd' : decide (3000 < b.length) = false := decide_eq_false hl
    have hl2 : b.length ≤ 3000 := by omega
    clear hl
    go_enter Try.func8, Try.ntmps8
    go_wp2_with fail
    refine (mget_any w _ b Hby.out (by omega)).mono ?_
    rintro _ w1 ⟨v1, rfl, hm1, hb1⟩
    obtain ⟨vf, hvf, hff⟩ := id hm1
    obtain ⟨Af, cf, hvf2, _, _⟩ := hff.form
    subst hvf2
    subst hvf
    have M1 := Lib.hid hm1
    have B1 := Lib.hid hb1
    have By1 := Lib.hid ((Hby.out.below hb1).more hb1.size)
    have Hone : Hid (∀ u ∈ encM (getM b) (.slice Af (getM b).files.length cf), u.oneCell' = true) := encM_one _ _ rfl
    obtain ⟨er, her⟩ : ∃ er : Int, er = if getOk b = true then 0 else 5 := ⟨_, rfl⟩
    rw [← her]
    have Her := Lib.hid her
    clear hm1 hb1 hff her
    generalize hgm : getM b = gm at *
    go_upto_region 4 with (first
      | (refine wpList_alloc_z rfl 56 rfl info_manz zeroMc zeroM_cells ?_)
      | (refine wpList_store_newW rfl 56 (.tmp 3) (.tmp 14) rfl zeroMc (encM gm (.slice Af gm.files.length cf)) rfl rfl info_man3 rfl Hone.out ?_
         intro w2 hbx2 hb2 hz2))
    try simp only [Act.put, List.setIfInBounds_toArray, List.set_cons_zero, List.set_cons_succ]
    have M2 := Lib.hid (M1.out.step hb2)
    have B2 := Lib.hid (bstep B1.out hb2)
    have By2 := Lib.hid ((By1.out.below hb2).more hb2.size)
    have X2 := Lib.hid hbx2
    clear hbx2 hb2 hz2
    go_wp2_with fail
    refine (rmget_any w2 _ b By2.out (by omega)).mono ?_
    rintro _ w3 ⟨v3, rfl, hm3, hb3⟩
    rw [hgm] at hm3
    obtain ⟨vg, hvg, hgg⟩ := id hm3
    obtain ⟨Ag, cg, hvg2, _, _⟩ := hgg.form
    subst hvg2
    subst hvg
    have M3 := Lib.hid (M2.out.step hb3)
    have N3 := Lib.hid hm3
    have B3 := Lib.hid (bstep B2.out hb3)
    have X3 := Lib.hid (X2.out.blwM hb3)
    have Hone' : Hid (∀ u ∈ encM gm (.slice Ag gm.files.length cg), u.oneCell' = true) := encM_one _ _ rfl
    clear hm3 hb3 hgg
    go_upto_region 5 with (first
      | (refine wpList_alloc_z rfl 56 rfl info_manz zeroMc zeroM_cells ?_)
      | (refine wpList_store_newW rfl 56 (.tmp 5) (.tmp 19) rfl zeroMc (encM gm (.slice Ag gm.files.length cg)) rfl rfl info_man3 rfl Hone'.out ?_
         intro w4 hbx4 hb4 hz4))
    try simp only [Act.put, List.setIfInBounds_toArray, List.set_cons_zero, List.set_cons_succ]
    have M4 := Lib.hid (M3.out.step hb4)
    have N4 := Lib.hid (N3.out.step hb4)
    have B4 := Lib.hid (bstep B3.out hb4)
    have X4 := Lib.hid (X3.out.blwM hb4)
    have Y4 := Lib.hid hbx4
    clear hbx4 hb4 hz4
    go_wp2_with (first
      | (refine wpList_load_agg rfl 56 (.tmp 3) rfl ⟨w1.heap.size, 0, none⟩ rfl (encM gm (.slice Af gm.files.length cf)) X4.out.cells Try.underlying56 rfl info_man3 ?_)
      | (refine wpList_load_agg rfl 56 (.tmp 5) rfl ⟨w3.heap.size, 0, none⟩ rfl (encM gm (.slice Ag gm.files.length cg)) Y4.out.cells Try.underlying56 rfl info_man3 ?_))
    refine (msame_any w4 _ _ gm gm M4.out.mat N4.out.mat true (by simp)).mono ?_
    rintro _ w5 ⟨rfl, hb5⟩
    have B5 := Lib.hid (bstep B4.out hb5)
    clear hb5
    cases hok : getOk b with
    | true =>
      have he : er = 0 := by rw [Her.out, if_pos hok]
      subst he
      clear hok
      go_wp2_with (go_at_call 30; refine (HA.out _).mono ?_; rintro e wa ⟨rfl, hba⟩)
      go_ret
      exact ⟨rfl, bstep B5.out hba⟩
    | false =>
      have he : er = 5 := by rw [Her.out, if_neg (by rw [hok]; simp)]
      subst he
      clear hok
      go_wp2_with (go_at_call 30; refine (HA.out _).mono ?_; rintro e wa ⟨rfl, hba⟩)
      go_ret
      exact ⟨rfl, bstep B5.out hba⟩

set_option maxRecDepth 100000 in
theorem lifted (os : Os) (started : os.Started) (H : Type) (enc : TypeId × Value → H) :
    ReturnsInHanded {} Try.checked os 8 .any (Rows.manifestReadsSpec.pre6 enc Try.prog Try.f8 Rows.manifestReadsRow.domain false) (Rows.manifestReadsSpec.post enc Try.prog Try.f8 false true false false) := by
  refine returnsInHanded_of_change (C := Try.checked) own started (by kernel_rfl) Try.func8
    (ChangeSpec.witness6 (enc := enc) (C := Try.checked) false ⟨#[], #[.slice none 0 0], []⟩ 8 (by kernel_rfl) (by kernel_rfl) (by kernel_rfl) (by kernel_rfl)) ?_
  intro W base args ds gs before hval0 hW hcnd _
  have hval : ∀ (j : Nat) t v, Try.f8.params[j]? = some t → args[j]? = some v → Value.okWide Try.prog W .any base t v := hval0
  have hW' := hW
  obtain ⟨p, q, hA0, hV, rfl, hfz, hnd⟩ := hW
  have hA : DataW.TrodAll enc Try.prog W 0 (fun _ => true) true Try.f8.params.toList args.toList ds p := hA0
  rw [Try.params8] at hA hval
  obtain ⟨v0, vs0, d0, ds0, p0, q0, hargs, rfl, rfl, h0, r0⟩ := trodAll_cons hA
  obtain ⟨rfl, rfl, rfl⟩ := trodAll_nil r0
  obtain rfl : args = #[v0] := by cases args; simp_all
  obtain ⟨rfl, rfl⟩ := trodVars_none hV
  have k0 := h0
  have lt0 : ∀ x ∈ p0, x.block < W.heap.size := by obtain ⟨m, hm⟩ := k0; exact DataW.trod_lt m _ _ _ hm
  have i0 := InC.of h0
  obtain ⟨a0, len0, cap0, rfl⟩ := okWide_slice Try.underlying30 (hval 0 30 v0 rfl rfl)
  have j0 : InC W 30 [_] := i0
  clear hA0 hval0
  refine (walk _ W j0).mono fun e W' ⟨he, bel⟩ => ?_
  subst he
  exact ⟨_, rfl, _, _, _, [], _, [], hW', trodAll_mk1 (shut_bool Try.underlying4 _), (trodAll_cons_mk (Below.trod laidOut (by kernel_rfl) (of_decide_eq_true (by kernel_rfl)) k0 bel lt0) trodAll_mk0), rfl, bel.frame _, fun h => by cases h⟩

theorem over : Rows.manifestReadsRow.holds Try.pinned (OpenSpec.ofChange Rows.manifestReadsSpec) :=
  OpenClaim.holds_of_wide 8 Try.f8 rfl rfl rfl rfl rfl rfl rfl ⟨rfl, rfl, rfl, rfl, rfl⟩ rfl rfl rfl rfl rfl (by kernel_rfl) Try.func8 (by kernel_rfl)
    (of_decide_eq_true (by kernel_rfl)) (by unfold Func.isWrapper; first | (rw [if_pos (by decide +kernel)]; kernel_rfl) | (rw [if_neg (by decide +kernel)]; exact ⟨rfl, rfl⟩))
    (fun os started H enc _ => lifted os started H enc)

theorem proved : Rows.ManifestReadsSaid := over
#print axioms proved
end Go.Proofs.Ytpoicbhbkabllaa.manifestReads
