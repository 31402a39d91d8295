/- The law 'ShardReads' returns true for every input, and each argument reads behind the call as it read before. No condition. -/
import Derived.Test.YthfnikdapknohaaZShardPuts5
import Derived.Deep.CutRange
import Derived.Test.YthfnikdapknohaaRows
import Derived.WalkKit
import Derived.ProofKit
import Derived.OpenShut
import Derived.ShutString
import Derived.ChangeOld
import Derived.Below
namespace Go.Proofs.Ythfnikdapknohaa
set_option linter.unusedSimpArgs false
set_option linter.unusedVariables false
open Go.RowKit

/-- what holds in the loop: with an error nothing is left to do -/
def CellRel (W most d : Nat) (acc : List GCell) (s : List UInt8) (e : Int) (R : List UInt8 × Int) : Prop :=
  (e = 0 ∧ (cget W most (d - acc.length) acc s 0).2 = R) ∨ (e ≠ 0 ∧ s = [] ∧ ([], e) = R)
theorem cellRel_start (W most d : Nat) (s : List UInt8) (e : Int) (he : e ≠ 0 → s = []) : CellRel W most d [] s e (cget W most d [] s e).2 := by
  by_cases h : e = 0
  · subst h; exact .inl ⟨rfl, rfl⟩
  · refine .inr ⟨h, he h, ?_⟩
    rw [he h]
    cases d with
    | zero => rfl
    | succ n =>
      have h1 : ∀ m, numS m [] e = (0, [], e) := fun m => by unfold numS; rw [if_pos h]
      rw [cget, h1, h1, if_pos h]
theorem cellRel_step (W most d m r1 q1 : Nat) (acc : List GCell) (s3 : List UInt8) (e3 : Int) (R : List UInt8 × Int) (hm : d - acc.length = m + 1) (herr : e3 ≠ 0 → s3 = [])
    (h : (if e3 ≠ 0 then ([], s3, e3) else cget W most m (acc ++ [mkC r1 q1]) s3 0).2 = R) : CellRel W most d (acc ++ [mkC r1 q1]) s3 e3 R := by
  by_cases he : e3 = 0
  · subst he
    rw [if_neg (by simp)] at h
    refine .inl ⟨rfl, ?_⟩
    rw [show d - (acc ++ [mkC r1 q1]).length = m from by simp; omega]
    exact h
  · rw [if_pos he] at h
    rw [herr he] at h
    exact .inr ⟨he, herr he, h⟩
theorem OwnC.empty16 (W : World) (g base : Nat) (hg : W.heap.size = g) (hb : base ≤ g) : OwnF 73 cCell (W.alloc (.cells #[] 73)) base (.slice (some ⟨g, 0, none⟩) 0 0) [] := by
  subst hg
  exact (OwnC.new_ W [] (by simp)).more hb
theorem measC_step {n m : Nat} {acc : List GCell} {x : GCell} (h : n - acc.length = m + 1) : n - (acc ++ [x]).length < n - acc.length := by
  rw [List.length_append, List.length_singleton]; omega
set_option maxRecDepth 100000 in
set_option maxHeartbeats 8000000 in
theorem rcget_any (w : World) (B : Nat) (v : Value) (s0 : List UInt8) (e0 : Int) (d W : Nat) (hW : W < 18446744073709551616) (hd : d ≤ 1073741824) (hby : By w B v s0) (hB : B ≤ w.heap.size) (he0 : e0 ≠ 0 → s0 = []) :
    Calls Try.prog 56 #[.agg #[v, .int .i64 e0], .int .i64 (d : Int), .int .u64 (W : Int)] w fun ev w' => ∃ vo v', ev = .returned (.tuple #[vo, .agg #[v', .int .i64 (cget W (min (d - 1) 4294967295) d [] s0 e0).2.2]]) ∧ By w' B v' (cget W (min (d - 1) 4294967295) d [] s0 e0).2.1 ∧ Below w.heap.size w w' := by
  have hrel0 := cellRel_start W (min (d - 1) 4294967295) d s0 e0 he0
  generalize cget W (min (d - 1) 4294967295) d [] s0 e0 = R0 at *
  obtain ⟨_, R⟩ := R0
  simp only at hrel0 ⊢
  rw [show min (d - 1) 4294967295 = d - 1 from by omega] at hrel0
  have Hrel0 := Lib.hid hrel0
  clear hrel0 he0
  obtain ⟨A, c, rfl, _, _, _⟩ := id hby
  have hb0 := bstep (bstep (balloc w (.cells #[.slice A s0.length c, .int .i64 e0] 112)) (balloc _ (.cells #[.slice none 0 0, .int .i64 0] 112))) (balloc _ (.cells #[] 73))
  have hbx1 := ((BoxAt.new_ 112 w [.slice A s0.length c, .int .i64 e0]).alloc (.cells #[.slice none 0 0, .int .i64 0] 112)).alloc (.cells #[] 73)
  have hbx3 := (BoxAt.new_ 112 (w.alloc (.cells #[.slice A s0.length c, .int .i64 e0] 112)) [.slice none 0 0, .int .i64 0]).alloc (.cells #[] 73)
  have hown := OwnC.empty16 ((w.alloc (.cells #[.slice A s0.length c, .int .i64 e0] 112)).alloc (.cells #[.slice none 0 0, .int .i64 0] 112)) (w.heap.size + 1 + 1) (w.heap.size + 1 + 1) (by simp) (Nat.le_refl _)
  simp only [World.size_alloc] at hbx3
  have hby2 := hby.below (hb0.mono hB)
  have Hbx1 := Lib.hid hbx1
  have Hbx3 := Lib.hid hbx3
  have Hown := Lib.hid hown
  have Hb02 := Lib.hid hb0
  have Hby2 := Lib.hid hby2
  clear hbx1 hbx3 hown hb0 hby2 hby
  go_enter Try.func56, Try.ntmps56
  go_wp2_with fail
  go_loopw [8] (fun vo wr => ∃ (acc : List GCell) (s : List UInt8) (e : Int) (As : Option Addr) (cs : Nat), OwnF 73 cCell wr (w.heap.size + 1 + 1) vo acc ∧ BoxAt 112 wr w.heap.size [.slice As s.length cs, .int .i64 e] ∧ By wr B (.slice As s.length cs) s ∧ BoxAt 112 wr (w.heap.size + 1) [.slice none 0 0, .int .i64 0] ∧ Below w.heap.size w wr ∧ CellRel W (d - 1) d acc s e R ∧ acc.length ≤ d) (fun vo _ => d - sliceLen vo)
  case atStart => exact ⟨[], s0, e0, A, c, Hown.out, Hbx1.out, Hby2.out, Hbx3.out, Hb02.out, Hrel0.out, by simp⟩
  case round =>
    obtain ⟨acc, s, e, As, cs, hown, hbx1, hvs, hbx3, hbl, hrel, hal⟩ := hrel
    have hsz := hbl.size
    have hl1 := hbx1.lt
    have hl3 := hbx3.lt
    have hx0 := hbx1.cell 0 _ rfl
    have hx1 := hbx1.cell 1 _ rfl
    have hy0 := hbx3.cell 0 _ rfl
    have hy1 := hbx3.cell 1 _ rfl
    have hz0 := hbx3.frozen 0
    have hz1 := hbx3.frozen 1
    have hbW : ∀ (u0 u1 : Value), Below w.heap.size wr ((wr.setCell ⟨w.heap.size + 1, 0, none⟩ u0).setCell ⟨w.heap.size + 1, 1, none⟩ u1) := fun u0 u1 =>
      ((Below.refl _ _).setCell (p := ⟨w.heap.size + 1, 0, none⟩) (by show w.heap.size ≤ w.heap.size + 1; omega) _).setCell (p := ⟨w.heap.size + 1, 1, none⟩) (by show w.heap.size ≤ w.heap.size + 1; omega) _
    have HbW := Lib.hid hbW
    clear hbW
    rcases hrel with ⟨rfl, hr3⟩ | ⟨he, rfl, rfl⟩
    · rcases Nat.lt_or_ge acc.length d with hfin | hfin
      · obtain ⟨m, hm⟩ : ∃ m, d - acc.length = m + 1 := ⟨d - acc.length - 1, by omega⟩
        rw [hm, cget] at hr3
        obtain ⟨Ao, co, rfl, hco1, hco2, _⟩ := hown.form'
        have hn1 := rnum_any wr B (.slice As s.length cs) s 0 W hW hvs (Nat.le_trans hB hsz) (fun h => absurd rfl h)
        have hb1 := numS_lt W s 0
        have herr1 : (numS W s 0).2.2 ≠ 0 → (numS W s 0).2.1 = [] := fun h => (numS_err W s 0 h).1
        generalize numS W s 0 = r at *
        obtain ⟨r1, s2, e2⟩ := r
        simp only at hr3 hb1 herr1 hn1
        have hb2 := numS_lt (d - 1) s2 e2
        have herr2 : (numS (d - 1) s2 e2).2.2 ≠ 0 → (numS (d - 1) s2 e2).2.1 = [] := fun h => (numS_err (d - 1) s2 e2 h).1
        have hn2 := fun W v h hW => rnum_any W B v s2 e2 (d - 1) (by omega) h hW herr1
        generalize numS (d - 1) s2 e2 = q at *
        obtain ⟨q1, s3, e3⟩ := q
        simp only at hr3 hb2 herr2 hn2
        have Hn1 := Lib.hid hn1
        have Hn2 := Lib.hid hn2
        have Hr3 := Lib.hid hr3
        have Hown := Lib.hid hown
        have Herr2 := Lib.hid herr2
        have Hvs := Lib.hid hvs
        have hsub : IntKind.u64.wrap ((d : Int) - 1) = ((d - 1 : Nat) : Int) := by rw [wrap_u64]; omega
        have hsub' : (d : Int) - 1 = ((d - 1 : Nat) : Int) := by omega
        have hbig : decide (4294967295 < ((d - 1 : Nat) : Int)) = false := decide_eq_false (by omega)
        have hw32 : IntKind.u32.wrap (q1 : Int) = (q1 : Int) := by rw [IntKind.wrap_u32']; omega
        have hld : decide (acc.length < d) = true := decide_eq_true hfin
        clear hn1 hn2 hr3 hown herr1 herr2 hvs
        generalize hd1 : d - 1 = d1 at *
        have Hd1 := Lib.hid hd1
        clear hd1
        go_wp2_with fail
        refine Hn1.out.mono ?_
        rintro _ w2 ⟨v2, rfl, hby2, hb2w⟩
        obtain ⟨A2, c2, rfl, _, _, _⟩ := id hby2
        go_wp2_with fail
        have hb9 := balloc w2 (.cells #[.slice A2 s2.length c2, .int .i64 e2] 112)
        have hs2 : w.heap.size ≤ w2.heap.size := Nat.le_trans hsz hb2w.size
        refine (Hn2.out _ _ (hby2.below (hb9.mono (Nat.le_trans hB hs2))) (Nat.le_trans (Nat.le_trans hB hs2) hb9.size)).mono ?_
        rintro _ w3 ⟨v3, rfl, hby3, hb3w⟩
        obtain ⟨A3, c3, rfl, _, _, _⟩ := id hby3
        have hbr3 : Below wr.heap.size wr w3 := bstep hb2w (bstep hb9 hb3w)
        have hbx13 := hbx1.below hl1 hbr3
        have hbx33 := hbx3.below hl3 hbr3
        have hown3 := Hown.out.below_ hbr3
        have hp0 := hbx13.cell 0 _ rfl
        have hp1 := hbx13.cell 1 _ rfl
        have hq0 := hbx13.frozen 0
        have hq1 := hbx13.frozen 1
        have hl13 := hbx13.lt
        have hl33 := hbx33.lt
        have hne13 : w.heap.size ≠ w3.heap.size := by omega
        have hs3 : w.heap.size ≤ w3.heap.size := Nat.le_trans hsz hbr3.size
        clear hx0 hx1 hy0 hy1 hz0 hz1 hbx1 hbx3 hb2w hb9 hb3w
        have hcs : cCell.at_ ((((w3.setCell ⟨w.heap.size, 0, none⟩ (.slice A3 s3.length c3)).setCell ⟨w.heap.size, 1, none⟩ (.int .i64 e3)).alloc (.cells #[.slice A3 s3.length c3, .int .i64 e3] 112))) (fun _ => False) [.int .u64 (r1 : Int), .int .u32 (q1 : Int)] (mkC r1 q1) :=
          ⟨by show _ = [Value.int .u64 ((mkC r1 q1).cut.toNat : Int), .int .u32 ((mkC r1 q1).oth.toNat : Int)]; rw [mkC_cut _ _ hb1.1, mkC_oth _ _ (by omega)], trivial⟩
        have hownX := ((hown3.grownRd (gset w3 ⟨w.heap.size, 0, none⟩ (.slice A3 s3.length c3)) (by show w.heap.size < _; omega)).grownRd (gset _ ⟨w.heap.size, 1, none⟩ (.int .i64 e3)) (by show w.heap.size < _; omega)).alloc (.cells #[.slice A3 s3.length c3, .int .i64 e3] 112)
        have hbx1X := ((hbx13.put 0 (.slice A3 s3.length c3)).put 1 (.int .i64 e3)).alloc (.cells #[.slice A3 s3.length c3, .int .i64 e3] 112)
        have hbx3X := ((hbx33.other ⟨w.heap.size, 0, none⟩ (.slice A3 s3.length c3) (by show w.heap.size ≠ w.heap.size + 1; omega)).other ⟨w.heap.size, 1, none⟩ (.int .i64 e3) (by show w.heap.size ≠ w.heap.size + 1; omega)).alloc (.cells #[.slice A3 s3.length c3, .int .i64 e3] 112)
        have hbX : Below w.heap.size w3 ((((w3.setCell ⟨w.heap.size, 0, none⟩ (.slice A3 s3.length c3)).setCell ⟨w.heap.size, 1, none⟩ (.int .i64 e3)).alloc (.cells #[.slice A3 s3.length c3, .int .i64 e3] 112))) :=
          (((Below.refl _ _).setCell (p := ⟨w.heap.size, 0, none⟩) (Nat.le_refl _) _).setCell (p := ⟨w.heap.size, 1, none⟩) (Nat.le_refl _) _).alloc (by simp [World.setCell]; omega) _
        have hbyX := hby3.below (hbX.mono hB)
        have hblX : Below w.heap.size w ((((w3.setCell ⟨w.heap.size, 0, none⟩ (.slice A3 s3.length c3)).setCell ⟨w.heap.size, 1, none⟩ (.int .i64 e3)).alloc (.cells #[.slice A3 s3.length c3, .int .i64 e3] 112))) := (hbl.trans (hbr3.mono hsz)).trans hbX
        have hszX := hblX.size
        have hl3X := hbx3X.lt
        have hblkX := hownX.blk
        have HownX := Lib.hid hownX
        have Hbx1X := Lib.hid hbx1X
        have Hbx3X := Lib.hid hbx3X
        have HbyX := Lib.hid hbyX
        have HblX := Lib.hid hblX
        have HblkX := Lib.hid hblkX
        have Hcs := Lib.hid hcs
        clear hownX hbx1X hbx3X hbX hbyX hblX hcs hblkX
        go_wp2_with (at_builtin
                     go_loud (refine wpList_app1R rfl (.tmp 42) (.tmp 47) 66 rfl Try.underlying66 infoCell2 rfl (by decide) (by decide) (y := mkC r1 q1) [.int .u64 (r1 : Int), .int .u32 (q1 : Int)] HownX.out Hcs.out rfl (Eq.trans (b := .slice (some ⟨w3.heap.size + 1, 0, none⟩) 1 1) rfl (by simp [World.setCell])) (by omega) (by omega) ?_)
                     intro v4 w4 hown4 hext4)
        have hb4 : Below (w.heap.size + 1 + 1) _ w4 := hext4.below (by omega) fun q hq => (HblkX.out q hq).1
        obtain ⟨A4, c4, rfl, _, _, _⟩ := hown4.form'
        refine ⟨⟨_, s3, e3, A3, c3, hown4, Hbx1X.out.below (by omega) hb4, HbyX.out.below (hb4.mono (by omega)), Hbx3X.out.below (by omega) hb4, HblX.out.trans (hb4.mono (by omega)), ?_, by simp; omega⟩, ?_⟩
        · exact cellRel_step W d1 d m r1 q1 acc s3 e3 R hm Herr2.out Hr3.out
        · exact measC_step hm
      · obtain rfl : d = acc.length := by omega
        have hr3' : (s, 0) = R := by rw [Nat.sub_self] at hr3; exact hr3
        subst hr3'
        obtain ⟨Ao, co, rfl, _, _, _⟩ := hown.form'
        have hdl : decide ((acc.length : Int) < (acc.length : Int)) = false := by simp
        clear hr3 hal hown
        go_wp2_with fail
        go_region
        have hend := ((hbx3.put 0 (.slice As s.length cs)).put 1 (.int .i64 0))
        have hbf := (HbW.out (.slice As s.length cs) (.int .i64 0)).drew
        go_wp2_with fail
        refine bodyPost_ret (results_tc rfl _ _ (w.heap.size + 1) [.slice As s.length cs, .int .i64 0] rfl (fun j v hj => (hend.cells j v hj : _)) Try.underlying112 rfl (by kernel_rfl)) rfl ?_
        exact ⟨_, _, rfl, hvs.below (hbf.mono hB), hbl.trans hbf⟩
    · have hne : (e == 0) = false := by simpa using he
      have hne' : (e != 0) = true := by simpa using he
      obtain ⟨Ao, co, rfl, _, _, _⟩ := hown.form'
      clear he hal hown
      go_wp2_with fail
      all_goals
        go_region
        have hend := ((hbx3.put 0 (.slice As 0 cs)).put 1 (.int .i64 e)).alloc (.cells #[] 73)
        have hbf : Below w.heap.size wr (((wr.setCell ⟨w.heap.size + 1, 0, none⟩ (.slice As 0 cs)).setCell ⟨w.heap.size + 1, 1, none⟩ (.int .i64 e)).alloc (.cells #[] 73)).drew := ((HbW.out (.slice As 0 cs) (.int .i64 e)).trans ((balloc _ _).mono (by simp [World.setCell]; omega))).drew
        go_wp2_with fail
        refine bodyPost_ret (results_tc rfl _ _ (w.heap.size + 1) [.slice As 0 cs, .int .i64 e] rfl (fun j v hj => (hend.cells j v hj : _)) Try.underlying112 rfl (by kernel_rfl)) rfl ?_
        exact ⟨_, _, rfl, By.empty _ _ (hvs.len_.2.2), hbl.trans hbf⟩
end Go.Proofs.Ythfnikdapknohaa

namespace Go.Proofs.Ythfnikdapknohaa
set_option linter.unusedSimpArgs false
set_option linter.unusedVariables false
open Go.RowKit

theorem rrow_len (s : List UInt8) (e : Int) : (rrowA s e).1.length + (rrowC s e).2.1.length ≤ (rrowN s e).2.1.length ∧ (rrowN s e).2.1.length ≤ s.length := row_len 0 s e
theorem rrow_dec (s : List UInt8) (e : Int) (h : (rrowC s e).2.2 = 0) : (rrowA s e).1.length + (rrowC s e).2.1.length + 1 ≤ s.length := row_dec 0 s e h
theorem rrow_sz (acc : List GRow) (x : UInt32) (s : List UInt8) (e : Int) : rsz (acc ++ [⟨x, (rrowA s e).1⟩]) = rsz acc + ((rrowA s e).1.length + 1) := by
  rw [rsz_append, rsz_cons]
  simp [rsz]
theorem rrows_len : ∀ (n : Nat) (p : Option UInt32) (acc : List GRow) (s : List UInt8) (e : Int) (r : List GRow × List UInt8 × Int), rrows n p acc s e = some r → rsz r.1 ≤ rsz acc + s.length + 1
  | 0, p, acc, s, e, r, h => by
    simp only [rrows, Option.some.injEq] at h
    subst h
    simp only; omega
  | n + 1, p, acc, s, e, r, h => by
    rw [rrows] at h
    split at h
    · injection h with h; subst h; simp only; omega
    · split at h
      · cases h
      · have h1 := rrow_len s e
        by_cases he : (rrowC s e).2.2 = 0
        · have h2 := rrow_dec s e he
          have h3 := rrows_len n _ _ _ _ r h
          rw [rrow_sz] at h3
          omega
        · cases n with
          | zero =>
            simp only [rrows, Option.some.injEq] at h
            subst h
            simp only
            rw [rrow_sz]
            omega
          | succ n =>
            rw [rrows, if_pos he] at h
            injection h with h
            subst h
            simp only
            rw [rrow_sz]
            omega
/-- the document takes these bytes as a shard of these rows -/
def docOk (b : List UInt8) (out : List GRow) : Prop :=
  sE b = 0 ∧ sN b = b.length ∧ sK b = 83 ∧ (∃ s e, rget b = some (out, s, e) ∧ endR s e = 0) ∧ out ≠ [] ∧ newE none out = 0 ∧ senc out = b
theorem rget_len (b : List UInt8) (r : List GRow × List UInt8 × Int) (h : rget b = some r) : rsz r.1 ≤ b.length + 1 := by
  have h1 := rrows_len _ _ _ _ _ r h
  have h2 := numS_len 18446744073709551615 (sL b) 0
  have h3 : (sL b).length ≤ b.length := by
    unfold sL
    split
    · simp only [List.length_take, List.length_drop]; omega
    · simp
  have h4 : rsz ([] : List GRow) = 0 := rfl
  omega
theorem docOk_sh (b : List UInt8) (out : List GRow) (hb : b.length ≤ 19000) (h : docOk b out) : isSh b ∧ rowsOf (plines b) = out := by
  obtain ⟨_, _, _, ⟨s, e, h4, _⟩, h5, h6, h7⟩ := h
  have hs := rget_len b _ h4
  simp only at hs
  have hs' : rsz out ≤ 20000 := by omega
  subst h7
  exact ⟨isSh_enc out h5 h6 hs', by rw [plines_ok out h6 hs', rowsOf_withT]⟩
theorem sh_docOk (b : List UInt8) (hb : b.length ≤ 19000) (h : isSh b) : docOk b (rowsOf (plines b)) := by
  obtain ⟨h1, h2, h3, h4, h5, h6⟩ := h
  have hs := plines_len b
  generalize rowsOf (plines b) = l at *
  refine ⟨h1, h2, h3, ⟨[], 0, ?_, by rfl⟩, h4, h5, h6⟩
  rw [← h6]
  exact rget_ok l h5 (by omega)
end Go.Proofs.Ythfnikdapknohaa

namespace Go.Proofs.Ythfnikdapknohaa
set_option linter.unusedSimpArgs false
set_option linter.unusedVariables false
open Go.RowKit

/-- what the next row leans on -/
def lastP (xs : List (GRow × Value)) : Option UInt32 := (xs.getLast?).map fun x => x.1.fr
/-- what holds in the loop -/
def DocRel (many : Nat) (xs : List (GRow × Value)) (s : List UInt8) (e : Int) (R : Option (List GRow × List UInt8 × Int)) : Prop :=
  rrows (many - xs.length) (lastP xs) (xs.map Prod.fst) s e = R ∧ (e ≠ 0 → s = []) ∧ xs.length ≤ many
/-- the bounds of what was read -/
def DocSz (L : Nat) (xs : List (GRow × Value)) (s : List UInt8) (e : Int) : Prop :=
  rsz (xs.map Prod.fst) ≤ L + 1 ∧ (e = 0 → rsz (xs.map Prod.fst) + s.length ≤ L)
theorem docRel_end {many : Nat} {xs : List (GRow × Value)} {s : List UInt8} {e : Int} {R : Option (List GRow × List UInt8 × Int)} (h : DocRel many xs s e R) (hs : ¬ (xs.length < many ∧ e = 0)) : R = some (xs.map Prod.fst, s, e) := by
  obtain ⟨h1, _, h3⟩ := h
  rw [← h1]
  by_cases hx : xs.length < many
  · have he : e ≠ 0 := fun e => hs ⟨hx, e⟩
    obtain ⟨n, hn⟩ : ∃ n, many - xs.length = n + 1 := ⟨many - xs.length - 1, by omega⟩
    rw [hn, rrows, if_pos he]
  · rw [show many - xs.length = 0 from by omega, rrows]
theorem docRel_step {many : Nat} {xs : List (GRow × Value)} {s : List UInt8} {R : Option (List GRow × List UInt8 × Int)} (h : DocRel many xs s 0 R) (hx : xs.length < many) (v : Value) (herr : (rrowC s 0).2.2 ≠ 0 → (rrowC s 0).2.1 = []) :
    (4294967295 < rfrom (lastP xs) (rrowN s 0).1 ∧ R = none) ∨ (rfrom (lastP xs) (rrowN s 0).1 ≤ 4294967295 ∧
      DocRel many (xs ++ [(⟨UInt32.ofNat (rfrom (lastP xs) (rrowN s 0).1), (rrowA s 0).1⟩, v)]) (rrowC s 0).2.1 (rrowC s 0).2.2 R) := by
  obtain ⟨h1, _, h3⟩ := h
  obtain ⟨n, hn⟩ : ∃ n, many - xs.length = n + 1 := ⟨many - xs.length - 1, by omega⟩
  rw [hn, rrows, if_neg (by simp)] at h1
  split at h1
  · exact .inl ⟨by assumption, h1.symm⟩
  · refine .inr ⟨by omega, ?_, herr, by simp; omega⟩
    rw [List.length_append, List.length_singleton, show many - (xs.length + 1) = n from by omega]
    simpa [lastP] using h1
theorem docSz_step {L : Nat} {xs : List (GRow × Value)} {s : List UInt8} (h : DocSz L xs s 0) (x : UInt32) (v : Value) : DocSz L (xs ++ [(⟨x, (rrowA s 0).1⟩, v)]) (rrowC s 0).2.1 (rrowC s 0).2.2 := by
  have h2 := h.2 rfl
  have h1 := rrow_len s 0
  have h3 : rsz ((xs ++ [((⟨x, (rrowA s 0).1⟩ : GRow), v)]).map Prod.fst) = rsz (xs.map Prod.fst) + ((rrowA s 0).1.length + 1) := by
    rw [List.map_append]
    exact rrow_sz _ _ _ _
  refine ⟨by omega, fun he => ?_⟩
  have h4 := rrow_dec s 0 he
  omega
theorem gget_err : ∀ (n : Nat) (acc : List GArc) (next left : Nat) (s : List UInt8) (e : Int), (e ≠ 0 → s = []) → (gget n acc next left s e).2.2 ≠ 0 → (gget n acc next left s e).2.1 = []
  | 0, acc, next, left, s, e, h, h1 => h h1
  | n + 1, acc, next, left, s, e, h, h1 => by
    rw [gget_succ] at h1 ⊢
    split
    · rfl
    · rename_i h2
      rw [if_neg h2] at h1
      split
      · rfl
      · rename_i h3
        rw [if_neg h3] at h1
        exact gget_err n _ _ _ _ 0 (fun h => absurd rfl h) h1
theorem gread_err (s : List UInt8) (e : Int) (h : (gread s e).2.2 ≠ 0) : (gread s e).2.1 = [] := by
  have hR : gread s e = if (numS 18446744073709551615 s e).2.2 ≠ 0 then ([], [], (numS 18446744073709551615 s e).2.2) else gget (numS 18446744073709551615 s e).1 [] 0 2147483647 (numS 18446744073709551615 s e).2.1 0 := rfl
  rw [hR] at h ⊢
  split
  · rfl
  · rename_i h2
    rw [if_neg h2] at h
    exact gget_err _ _ _ _ _ 0 (fun h => absurd rfl h) h
theorem cget_err (W most : Nat) : ∀ (n : Nat) (acc : List GCell) (s : List UInt8) (e : Int), (e ≠ 0 → s = []) → (cget W most n acc s e).2.2 ≠ 0 → (cget W most n acc s e).2.1 = []
  | 0, acc, s, e, h, h1 => h h1
  | n + 1, acc, s, e, h, h1 => by
    rw [cget] at h1 ⊢
    split
    · rename_i h2
      exact (numS_err _ _ _ h2).1
    · rename_i h2
      rw [if_neg h2] at h1
      exact cget_err W most n _ _ 0 (fun h => absurd rfl h) h1
theorem rrowC_err (s : List UInt8) (e : Int) (h : (rrowC s e).2.2 ≠ 0) : (rrowC s e).2.1 = [] :=
  cget_err _ _ _ _ _ _ (fun h => gread_err _ _ h) h
theorem lastP_at (xs : List (GRow × Value)) (k : Nat) (h : xs.length = k + 1) : ∃ hk : k < (xs.map Prod.fst).length, lastP xs = some ((xs.map Prod.fst)[k]).fr := by
  have hk : k < (xs.map Prod.fst).length := by rw [List.length_map]; omega
  refine ⟨hk, ?_⟩
  unfold lastP
  have e : xs.getLast? = xs[k]? := by rw [List.getLast?_eq_getElem?, h, Nat.add_sub_cancel]
  rw [e, List.getElem?_eq_getElem (show k < xs.length by omega)]
  simp
theorem sL_len (b : List UInt8) : (sL b).length ≤ b.length := by
  unfold sL
  split
  · simp only [List.length_take, List.length_drop]; omega
  · simp
def Ph.cg (B : Nat) (rest : List UInt8) (e : Int) : Ph := ⟨fun v w => ∃ vo v', v = .tuple #[vo, .agg #[v', .int .i64 e]] ∧ By w B v' rest ∧ B ≤ w.heap.size, fun _ _ _ h hb => by
  obtain ⟨vo, v', h1, h2, h3⟩ := h
  exact ⟨vo, v', h1, h2.below (hb.mono h3), Nat.le_trans h3 hb.size⟩⟩
def Ph.cg2 (B : Nat) (rest : List UInt8) (e : Int) : Ph := ⟨fun v w => ∃ v', v = .agg #[v', .int .i64 e] ∧ By w B v' rest ∧ B ≤ w.heap.size, fun _ _ _ h hb => by
  obtain ⟨v', h1, h2, h3⟩ := h
  exact ⟨v', h1, h2.below (hb.mono h3), Nat.le_trans h3 hb.size⟩⟩
/-- the pointer of a new block that is known whole -/
def Ph.nbox (T : TypeId) (L : Nat) (vs : List Value) : Ph := ⟨fun v w => ∃ g, v = .pointer (some ⟨g, 0, none⟩) ∧ BoxAt T w g vs ∧ L ≤ g, fun _ _ _ h hb => by
  obtain ⟨g, h1, h2, h3⟩ := h
  exact ⟨g, h1, h2.below h2.lt hb, h3⟩⟩
/-- an own row's block is none of a box of another type -/
theorem ownR_ne_box {α : Type} {E T : TypeId} {C : Cdc α} {w : World} {base : Nat} {S : Nat → Prop} {v : Value} {xs : List α} {g : Nat} {cs : List Value} (hET : E ≠ T) (h : OwnR E C w base S v xs) (hb : BoxAt T w g cs) : ∀ k, v.ownBlock = some k → k ≠ g := by
  obtain ⟨_, _, ⟨_, h2⟩, _⟩ := h
  intro k hk e
  subst e
  rcases h2 with ⟨rfl, _⟩ | ⟨g', cap, cur, rfl, _, h3, _⟩
  · cases hk
  · injection hk with hk
    subst hk
    have := h3.symm.trans hb
    injection this with this
    injection this with _ h _
    exact hET h
theorem ownR_ne_own {α β : Type} {E T : TypeId} {C : Cdc α} {D : Cdc β} {w : World} {base base2 : Nat} {S S2 : Nat → Prop} {v v2 : Value} {xs : List α} {ys : List β} (hET : E ≠ T) (h : OwnR E C w base S v xs) (hb : OwnR T D w base2 S2 v2 ys) : ∀ k, v.ownBlock = some k → v2.ownBlock ≠ some k := by
  obtain ⟨_, _, ⟨_, h2⟩, _⟩ := h
  obtain ⟨_, _, ⟨_, h4⟩, _⟩ := hb
  intro k hk e
  rcases h2 with ⟨rfl, _⟩ | ⟨g', cap, cur, rfl, _, h3, _⟩
  · cases hk
  · rcases h4 with ⟨rfl, _⟩ | ⟨g2, cap2, cur2, rfl, _, h5, _⟩
    · cases e
    · injection hk with hk
      injection e with e
      have := h3.symm.trans ((congrArg (w.heap[·]?) (hk.trans e.symm)).trans h5)
      injection this with this
      injection this with _ h _
      exact hET h
theorem ownKept {α β : Type} {E T : TypeId} {C : Cdc α} {D : Cdc β} {w w' : World} {base base2 : Nat} {v v2 v' : Value} {xs : List α} {ys : List β} (hET : E ≠ T) (h : OwnF E C w base v xs) (hb : OwnF T D w base2 v2 ys) (hx : Ext w w' v v') : OwnF T D w' base2 v2 ys := by
  refine hb.keep hx.gr ?_ (fun _ h => h.elim)
  cases hv : v2.ownBlock with
  | none => exact .inl rfl
  | some k => exact .inr fun e => ownR_ne_own hET h hb k e.symm hv
def iOf : Value → Nat
  | .int _ n => n.toNat
  | _ => 0
set_option maxRecDepth 100000 in
set_option maxHeartbeats 8000000 in
theorem rsget_any (w : World) (v : Value) (b : List UInt8) (hby : By w w.heap.size v b) (hl : b.length ≤ 19000) :
    Calls Try.prog 20 #[v] w fun e w' => Below w.heap.size w w' ∧ ((isSh b ∧ ∃ vo, e = .returned (.tuple #[vo, .bool true]) ∧ ByRw w' w'.heap.size vo (rowsOf (plines b))) ∨ (¬ isSh b ∧ ∃ vo, e = .returned (.tuple #[vo, .bool false]))) := by
  obtain ⟨A, c, rfl, hc1, hc2, _⟩ := id hby
  unfold maxLen at hc2
  have hb0 := balloc w (.cells #[] 75)
  have hrf := rfget_any (w.alloc (.cells #[] 75)) (.slice A b.length c) b (hby.step hb0) (by omega)
  have Hrf := Lib.hid hrf
  have Hby := Lib.hid hby
  clear hrf hby
  have hbad : (sE b ≠ 0 ∨ sN b ≠ b.length ∨ sK b ≠ 83) → ¬ isSh b := fun h hi => by
    obtain ⟨h1, h2, h3, _⟩ := hi
    rcases h with h | h | h
    · exact h h1
    · exact h h2
    · exact h h3
  have Hbad := Lib.hid hbad
  clear hbad
  go_enter Try.func20, Try.ntmps20
  go_wp2_with fail
  refine Hrf.out.mono ?_
  rintro _ w1 ⟨v1, rfl, ho1, hb1⟩
  obtain ⟨A1, c1, rfl, _, _, _⟩ := ho1.form_
  have hb01 := bstep hb0 hb1
  have Ho1 := Lib.hid ho1
  have Hb01 := Lib.hid hb01
  clear Hrf ho1 hb1 hb0 hb01
  by_cases hE : sE b = 0
  · have hN0 := hE
    rw [hE]
    by_cases hN : sN b = b.length
    · by_cases hK : sK b = 83
      · rw [hN, hK]
        have hK0 : ((83 : UInt8).toNat : Int) = 83 := rfl
        have hb2 := bstep (balloc w1 (.cells #[.int .u8 83, .slice A1 (sL b).length c1] 87)) (balloc _ (.cells #[] 75))
        have hby2 := Ho1.out.by_.below hb2
        have hown2 : OwnF 75 cRaw ((w1.alloc (.cells #[.int .u8 83, .slice A1 (sL b).length c1] 87)).alloc (.cells #[] 75)) w1.heap.size (.slice (some ⟨w1.heap.size + 1, 0, none⟩) 0 0) [] := by
          have := (OwnR.new_ (E := 75) (C := cRaw) (xs := ([] : List (Value × Value))) (S := fun _ => False) (w1.alloc (.cells #[.int .u8 83, .slice A1 (sL b).length c1] 87)) [] rfl (by simp) (fun i cs x h => by simp at h) (fun _ h => h.elim))
          rw [World.size_alloc] at this
          exact this.more (by omega)
        have hnum := rnum_any _ w1.heap.size _ (sL b) 0 18446744073709551615 (by decide) hby2 hb2.size (fun h => absurd rfl h)
        have hrel0 : DocRel (numS 18446744073709551615 (sL b) 0).1 [] (numS 18446744073709551615 (sL b) 0).2.1 (numS 18446744073709551615 (sL b) 0).2.2 (rget b) :=
          ⟨rfl, fun h => (numS_err 18446744073709551615 (sL b) 0 h).1, Nat.zero_le _⟩
        have hsz0 : DocSz b.length [] (numS 18446744073709551615 (sL b) 0).2.1 (numS 18446744073709551615 (sL b) 0).2.2 := by
          have h2 := numS_len 18446744073709551615 (sL b) 0
          have h3 := sL_len b
          have h4 : rsz (([] : List (GRow × Value)).map Prod.fst) = 0 := rfl
          exact ⟨by omega, fun _ => by omega⟩
        have hlt := (numS_lt 18446744073709551615 (sL b) 0).1
        rw [show (((18446744073709551615 : Nat) : Int)) = 18446744073709551615 from rfl] at hnum
        generalize numS 18446744073709551615 (sL b) 0 = M at *
        obtain ⟨many, s1, e1⟩ := M
        simp only at hrel0 hsz0 hnum hlt
        have Hrel0 := Lib.hid hrel0
        have Hsz0 := Lib.hid hsz0
        have Hnum := Lib.hid hnum
        have Hown2 := Lib.hid hown2
        have Hb2 := Lib.hid hb2
        have HE := Lib.hid hN0
        have HN := Lib.hid hN
        have HK := Lib.hid hK
        clear hrel0 hsz0 hnum hown2 hb2 hby2 hN0 hN hK hE
        generalize sL b = sl at *
        go_wp2_with fail
        refine Hnum.out.mono ?_
        rintro _ w3 ⟨v3, rfl, hby3, hb3⟩
        obtain ⟨A3, c3, rfl, _, _, _⟩ := id hby3
        have Hb3 := Lib.hid hb3
        have Hby3 := Lib.hid hby3
        clear hb3 hby3 Hnum
        have hbxR := BoxAt.new_ 112 w3 [.slice A3 s1.length c3, .int .i64 e1]
        have hbr := balloc w3 (.cells #[.slice A3 s1.length c3, .int .i64 e1] 112)
        have hs3 := Hb3.out.size
        have hs2 := Hb2.out.size
        have hs3' : w1.heap.size ≤ w3.heap.size := Nat.le_trans hs2 hs3
        have hown3 := (Hown2.out.below_ Hb3.out).below_ hbr
        have hby3' := Hby3.out.below (hbr.mono hs3')
        have Hbl3 := Lib.hid (bstep (bstep Hb2.out Hb3.out) hbr)
        have HbxR := Lib.hid hbxR
        have Hown3 := Lib.hid hown3
        have Hby3' := Lib.hid hby3'
        clear hbxR hbr hown3 hby3' Hown2 hs3 hs2
        go_wp2_with fail
        go_loopw [8, 11] (fun vo vi wr => ∃ (xs : List (GRow × Value)) (s : List UInt8) (e : Int) (As : Option Addr) (cs : Nat), vi = .int .i64 (xs.length : Int) ∧ OwnF 75 cRaw wr w1.heap.size vo (xs.map rawY) ∧ goodY (w3.heap.size + 1) xs wr ∧ BoxAt 112 wr w3.heap.size [.slice As s.length cs, .int .i64 e] ∧ By wr w1.heap.size (.slice As s.length cs) s ∧ Below w1.heap.size w1 wr ∧ w3.heap.size < wr.heap.size ∧ DocRel many xs s e (rget b) ∧ DocSz b.length xs s e) (fun _ vi _ => b.length + 2 - iOf vi)
        case atStart => exact ⟨[], s1, e1, A3, c3, rfl, Hown3.out, (fun x hx => by cases hx), HbxR.out, Hby3'.out, Hbl3.out, by simp, Hrel0.out, Hsz0.out⟩
        case round =>
          obtain ⟨xs, s, e, As, cs, rfl, hown, hgood, hbx, hvs, hbl, hgs, hrel, hsz⟩ := hrel
          have hlx : xs.length ≤ b.length + 1 := by
            have h1 := rsz_len (xs.map Prod.fst)
            have h2 := hsz.1
            rw [List.length_map] at h1
            omega
          have hw1 : IntKind.u64.wrap (xs.length : Int) = (xs.length : Int) := by rw [wrap_u64]; omega
          have hlm : (xs.map rawY).length = xs.length := List.length_map ..
          have hx0 := hbx.cell 0 _ rfl
          have hx1 := hbx.cell 1 _ rfl
          have hxl := hbx.lt
          have hszw := hbl.size
          obtain ⟨Ao, co, rfl, hco1, hco2, _⟩ := hown.form'
          rw [hlm] at hown hco1 ⊢
          by_cases hgo : xs.length < many ∧ e = 0
          · obtain ⟨hxm, rfl⟩ := hgo
            have hdx : decide (xs.length < many) = true := decide_eq_true hxm
            have hstep := fun v => docRel_step hrel hxm v (rrowC_err s 0)
            have hszs := fun x v => docSz_step hsz x v
            have Hsl : Hid (s.length ≤ b.length) := Lib.hid (by have := hsz.2 rfl; omega)
            have hn1 := rnum_any wr w1.heap.size (.slice As s.length cs) s 0 4294967295 (by decide) hvs hbl.size (fun h => absurd rfl h)
            rw [show (((4294967295 : Nat) : Int)) = 4294967295 from rfl] at hn1
            have hN : numS 4294967295 s 0 = rrowN s 0 := rfl
            have hb1 := numS_lt 4294967295 s 0
            have hrows := rowsOfRaw (by rw [hlm]; exact hown : OwnF 75 cRaw wr w1.heap.size (.slice Ao (xs.map rawY).length co) (xs.map rawY)) (by omega) hgood
            rw [hN] at hn1 hb1
            clear hN
            have Hn1 := Lib.hid hn1
            have Hstep := Lib.hid hstep
            have Hszs := Lib.hid hszs
            have Hown := Lib.hid hown
            have Hgood := Lib.hid hgood
            have Hbl := Lib.hid hbl
            have Hvs := Lib.hid hvs
            have Hrows := Lib.hid hrows.byR
            have Hlm := Lib.hid hlm
            clear hn1 hstep hszs hown hgood hbl hvs hrows hrel hsz hlm
            go_wp2_with fail
            refine Hn1.out.mono ?_
            rintro _ w4 ⟨v4, rfl, hby4, hb4⟩
            obtain ⟨A4, c4, rfl, _, _, _⟩ := id hby4
            have hb5 := balloc w4 (.cells #[.slice A4 (rrowN s 0).2.1.length c4, .int .i64 (rrowN s 0).2.2] 112)
            have hb45 := bstep hb4 hb5
            have Hrows5 := Lib.hid (Hrows.out.below hb45)
            have Hb45 := Lib.hid hb45
            have hF : Hid (xs.length = 0 → rfrom (lastP xs) (rrowN s 0).1 = (rrowN s 0).1) := Lib.hid fun h => by rw [List.length_eq_zero_iff.1 h]; rfl
            have Hb4s := Lib.hid hb4.size
            clear hb5 hb45 hb4
            obtain ⟨bz, hbz⟩ : ∃ bz, decide (0 < xs.length) = bz := ⟨_, rfl⟩
            have hbz1 : decide (0 < (xs.length : Int)) = bz := by rw [← hbz]; exact decide_eq_decide.2 (by omega)
            have Hbz := Lib.hid hbz
            go_upto_if 66 with fail
            go_cut [14] from 48 to 101 (fun u wx => u = .int .u64 ((rfrom (lastP xs) (rrowN s 0).1 : Nat) : Int) ∧ wx = w4.alloc (.cells #[.slice A4 (rrowN s 0).2.1.length c4, .int .i64 (rrowN s 0).2.2] 112))
            case first =>
              clear hbz hbz1
              cases bz with
              | false =>
                have hz : xs.length = 0 := by have := of_decide_eq_false Hbz.out; omega
                have hFz := hF.out hz
                clear hz
                go_wp2_with fail
                go_meet
                exact ⟨by rw [hFz], rfl⟩
              | true =>
                obtain ⟨k, hk⟩ : ∃ k, xs.length = k + 1 := ⟨xs.length - 1, by have := of_decide_eq_true Hbz.out; omega⟩
                obtain ⟨hk1, hla⟩ := lastP_at xs k hk
                obtain ⟨ad, Aa, ca, rfl, hab, hc0, hc1', _⟩ := Hrows5.out.cells k hk1
                have hu := u32_lt ((xs.map Prod.fst)[k]).fr
                have hFk : rfrom (lastP xs) (rrowN s 0).1 = ((xs.map Prod.fst)[k]).fr.toNat + (rrowN s 0).1 + 1 := by rw [hla]; rfl
                have HFk := Lib.hid hFk
                have hLi : (xs.length : Int) - 1 = (k : Int) := by omega
                generalize ((xs.map Prod.fst)[k]).fr.toNat = y at *
                have hkl : k < xs.length := by omega
                clear hk hla hc1' hFk
                go_wp2_with fail
                go_meet
                exact ⟨by rw [HFk.out]; rfl, rfl⟩
            case rest =>
              obtain ⟨rfl, rfl⟩ := hcut
              have hs4 : wr.heap.size ≤ (w4.alloc (.cells #[.slice A4 (rrowN s 0).2.1.length c4, .int .i64 (rrowN s 0).2.2] 112)).heap.size := Hb45.out.size
              have hs14 := Nat.le_trans hszw hs4
              have hby5 := hby4.below (B := w1.heap.size) ((balloc w4 (.cells #[.slice A4 (rrowN s 0).2.1.length c4, .int .i64 (rrowN s 0).2.2] 112)).mono (Nat.le_trans hszw Hb4s.out))
              have hl4 : (rrowN s 0).2.1.length ≤ 1073741824 := by
                have h1 := numS_len 4294967295 s 0
                have h2 := Hsl.out
                show (numS 4294967295 s 0).2.1.length ≤ _
                omega
              have hgg := rgget_any _ w1.heap.size _ (rrowN s 0).2.1 (rrowN s 0).2.2 hl4 hby5 hs14 (fun h => (numS_err 4294967295 s 0 h).1)
              have hA : gread (rrowN s 0).2.1 (rrowN s 0).2.2 = rrowA s 0 := rfl
              rw [hA] at hgg
              clear hA
              have Hgg := Lib.hid hgg
              clear hgg hs4 hs14 hby5
              go_wp2_with fail
              refine Hgg.out.mono ?_
              rintro _ w6 ⟨va, v6, rfl, hoa, hby6, hb6⟩
              obtain ⟨A6, c6, rfl, _, _, _⟩ := id hby6
              obtain ⟨Aa, ca, rfl, _, _, _⟩ := hoa.form'
              have hbR := BoxAt.new_ 112 w6 [.slice A6 (rrowA s 0).2.1.length c6, .int .i64 (rrowA s 0).2.2]
              have hal6 := balloc w6 (.cells #[.slice A6 (rrowA s 0).2.1.length c6, .int .i64 (rrowA s 0).2.2] 112)
              have hs46 := Nat.le_trans (Nat.le_trans hszw Hb45.out.size) hb6.size
              have hby7 := hby6.below (hal6.mono hs46)
              have hoa7 := hoa.below_ hal6
              have hs67 := Nat.le_trans hs46 hal6.size
              have hla : (rrowA s 0).1.length ≤ 20000 := by
                have h1 := (rrow_len s 0).1
                have h2 := (rrow_len s 0).2
                have h3 := Hsl.out
                omega
              have HbR := Lib.hid hbR
              have Hby7 := Lib.hid hby7
              have Hoa7 := Lib.hid hoa7
              have Hb67 := Lib.hid (bstep hb6 hal6)
              have Hs67 := Lib.hid hs67
              have hC : cellsR (rrowA s 0) = rrowC s 0 := rfl
              have HC : Hid (∀ W : World, W.heap.size = W.heap.size) := Lib.hid fun _ => rfl
              clear Hgg hbR hal6 hs46 hby7 hoa7 hs67 hby6 hoa hb6 HC
              go_upto_region 15 with fail
              obtain ⟨w7, hw7⟩ : ∃ w7, w6.alloc (.cells #[.slice A6 (rrowA s 0).2.1.length c6, .int .i64 (rrowA s 0).2.2] 112) = w7 := ⟨_, rfl⟩
              rw [hw7] at HbR Hby7 Hoa7 Hb67 Hs67 ⊢
              clear hw7
              refine wp_region_tail (ds := [83, 84, 85, 86, 87, 88, 82, 89, 90, 18, 17]) 11 [some 83, some 84, some 85, some 86, some 87, some 88, some 82, some 89, some 90, some 18, some 17]
                [Ph.is (.agg #[.slice A6 (rrowA s 0).2.1.length c6, .int .i64 (rrowA s 0).2.2]),
                  Ph.is (.slice Aa (rrowA s 0).1.length ca),
                  Ph.is (.int .i64 ((rrowA s 0).1.length : Int)),
                  Ph.is (.slice Aa (rrowA s 0).1.length ca),
                  Ph.is (.int .u64 ((gsum (rrowA s 0).1 : Nat) : Int)),
                  Ph.cg w1.heap.size (rrowC s 0).2.1 (rrowC s 0).2.2,
                  Ph.cg w1.heap.size (rrowC s 0).2.1 (rrowC s 0).2.2,
                  Ph.any,
                  Ph.cg2 w1.heap.size (rrowC s 0).2.1 (rrowC s 0).2.2,
                  Ph.nbox 112 w7.heap.size [.slice none 0 0, .int .i64 0],
                  Ph.any] rfl rfl (by kernel_rfl) (by kernel_rfl) (by kernel_rfl) ?_ ?_
              · refine ⟨?_, ?_, ?_, ?_, ?_, ?_, ?_, ?_, ?_, ?_, ?_, trivial⟩
                · -- 0: slot 83 := Op.load 112 t16
                  refine ob_yes fun f w' hb hp => ?_
                  simp [PreOf, factOf, valOf, Ph.is, Ph.by_, Ph.any, Region.binds, Ph.cg, Ph.cg2, Ph.nbox] at hp
                  refine ⟨by simp [Gd, valOf, hp], ?_⟩
                  refine mild_val (.agg #[.slice A6 (rrowA s 0).2.1.length c6, .int .i64 (rrowA s 0).2.2]) ?_ rfl
                  have hl := run_loadVar_cells w' ⟨w6.heap.size, 0, none⟩ 112 [.slice A6 (rrowA s 0).2.1.length c6, .int .i64 (rrowA s 0).2.2] (HbR.out.below HbR.out.lt hb).cells Try.underlying112 rfl (by kernel_rfl)
                  simp only [execOp, evalF, List.contains_eq_mem, Instr.loadAt, Instr.sureAddr, Sem.run_bind, Sem.run_pure, Result.andThen_ok]
                  simp [hp, hl]
                · -- 1: slot 84 := Op.move t15
                  refine ob_yes fun f w' hb hp => ?_
                  simp [PreOf, factOf, valOf, Ph.is, Ph.by_, Ph.any, Region.binds, Ph.cg, Ph.cg2, Ph.nbox] at hp
                  refine ⟨by simp [Gd, valOf, hp], ?_⟩
                  refine mild_val (.slice Aa (rrowA s 0).1.length ca) ?_ rfl
                  simp [execOp, evalF, hp]
                · -- 2: slot 85 := Op.call   builtin len, args := #[t84], argTypes := #[65]  
                  refine ob_yes fun f w' hb hp => ?_
                  simp [PreOf, factOf, valOf, Ph.is, Ph.by_, Ph.any, Region.binds, Ph.cg, Ph.cg2, Ph.nbox] at hp
                  refine ⟨by simp [Gd, valOf, hp], ?_⟩
                  refine mild_val (.int .i64 ((rrowA s 0).1.length : Int)) ?_ rfl
                  simp [execOp, evalF, hp, go_sem]
                · -- 3: slot 86 := Op.move t15
                  refine ob_yes fun f w' hb hp => ?_
                  simp [PreOf, factOf, valOf, Ph.is, Ph.by_, Ph.any, Region.binds, Ph.cg, Ph.cg2, Ph.nbox] at hp
                  refine ⟨by simp [Gd, valOf, hp], ?_⟩
                  refine mild_val (.slice Aa (rrowA s 0).1.length ca) ?_ rfl
                  simp [execOp, evalF, hp]
                · -- 4: slot 87 := Op.call   value (Operand.func 57), args := #[t86], argTypes := #[65]  
                  refine ob_yes fun f w' hb hp => ?_
                  simp [PreOf, factOf, valOf, Ph.is, Ph.by_, Ph.any, Region.binds, Ph.cg, Ph.cg2, Ph.nbox] at hp
                  refine ⟨by simp [Gd, valOf, hp], ?_⟩
                  refine mild_call 57 _ _ Try.f57 Try.func57 (by kernel_rfl) (by kernel_rfl) rfl ?_
                  simp [evalF, hp, Ph.is, Ph.by_, Ph.any, Ph.cg, Ph.cg2, Ph.nbox]
                  refine (rgsum_any w' _ _ (rrowA s 0).1 (by omega) (OwnF.byA (Hoa7.out.below_ hb))).mono ?_
                  rintro _ _ ⟨rfl, rfl⟩
                  first | exact Below.refl _ _ | exact ⟨rfl, Below.refl _ _⟩ | exact ⟨Below.refl _ _, rfl⟩ | exact ⟨_, rfl, Below.refl _ _, rfl⟩
                · -- 5: slot 88 := Op.call   value (Operand.func 56), args := #[t83, t85, t87], argTypes := #[112, 3, 71]  
                  refine ob_yes fun f w' hb hp => ?_
                  simp [PreOf, factOf, valOf, Ph.is, Ph.by_, Ph.any, Region.binds, Ph.cg, Ph.cg2, Ph.nbox] at hp
                  refine ⟨by simp [Gd, valOf, hp], ?_⟩
                  refine mild_call 56 _ _ Try.f56 Try.func56 (by kernel_rfl) (by kernel_rfl) rfl ?_
                  simp [evalF, hp, Ph.is, Ph.by_, Ph.any, Ph.cg, Ph.cg2, Ph.nbox]
                  refine (rcget_any w' w1.heap.size _ (rrowA s 0).2.1 (rrowA s 0).2.2 (rrowA s 0).1.length (gsum (rrowA s 0).1) (by have := gsum_lt (rrowA s 0).1; omega) (by omega) (Hby7.out.below (hb.mono Hs67.out)) (Nat.le_trans Hs67.out hb.size) (gread_err _ _)).mono ?_
                  rintro _ w8 ⟨vo, v', rfl, h1, h2⟩
                  exact ⟨_, rfl, h2, ⟨vo, v', rfl, h1, Nat.le_trans (Nat.le_trans Hs67.out hb.size) h2.size⟩⟩
                · -- 6: slot 82 := Op.move t88
                  refine ob_yes fun f w' hb hp => ?_
                  simp [PreOf, factOf, valOf, Ph.is, Ph.by_, Ph.any, Region.binds, Ph.cg, Ph.cg2, Ph.nbox] at hp
                  refine ⟨by simp [Gd, valOf, hp], ?_⟩
                  exact mild_val (f 88) (by simp [execOp, evalF]) (by simpa [Ph.cg] using hp)
                · -- 7: slot 89 := Op.extract t82 0
                  refine ob_yes fun f w' hb hp => ?_
                  simp [PreOf, factOf, valOf, Ph.is, Ph.by_, Ph.any, Region.binds, Ph.cg, Ph.cg2, Ph.nbox] at hp
                  refine ⟨by simp [Gd, valOf, hp], ?_⟩
                  obtain ⟨vo, v', h1, _, _⟩ := hp
                  exact mild_val vo (by simp [execOp, evalF, h1, go_sem]) trivial
                · -- 8: slot 90 := Op.extract t82 1
                  refine ob_yes fun f w' hb hp => ?_
                  simp [PreOf, factOf, valOf, Ph.is, Ph.by_, Ph.any, Region.binds, Ph.cg, Ph.cg2, Ph.nbox] at hp
                  refine ⟨by simp [Gd, valOf, hp], ?_⟩
                  obtain ⟨vo, v', h1, h2, h3⟩ := hp
                  exact mild_val (.agg #[v', .int .i64 (rrowC s 0).2.2]) (by simp [execOp, evalF, h1, go_sem]) ⟨v', rfl, h2, h3⟩
                · -- 9: slot 18 := Op.alloc 112
                  refine ob_yes fun f w' hb hp => ?_
                  simp [PreOf, factOf, valOf, Ph.is, Ph.by_, Ph.any, Region.binds, Ph.cg, Ph.cg2, Ph.nbox] at hp
                  refine ⟨by simp [Gd, valOf, hp], ?_⟩
                  exact mild_alloc (.pointer (some ⟨w'.heap.size, 0, none⟩)) (.cells #[.slice none 0 0, .int .i64 0] 112) (by simp [execOp, evalF, go_sem]) ⟨_, rfl, BoxAt.new_ _ _ _, hb.size⟩
                · -- 10: slot 17 := Op.assign t89
                  refine ob_yes fun f w' hb hp => ?_
                  simp [PreOf, factOf, valOf, Ph.is, Ph.by_, Ph.any, Region.binds, Ph.cg, Ph.cg2, Ph.nbox] at hp
                  refine ⟨by simp [Gd, valOf, hp], ?_⟩
                  exact mild_val (f 89) (by simp [execOp, evalF]) trivial
              · intro f w2 hb2 hp
                simp only [PostOf, Ph.is, Ph.by_, Ph.any, Ph.cg, Ph.cg2, Ph.nbox] at hp
                obtain ⟨h0, h1, h2, h3, h4, h5, h6, h7, h8, h9, h10, _⟩ := hp
                simp only [fills, List.foldl_cons, List.foldl_nil, Act.put, List.setIfInBounds_toArray, List.set_cons_zero, List.set_cons_succ, h0, h1, h2, h3, h4]
                clear h0 h1 h2 h3 h4
                generalize f 88 = v88 at *
                generalize f 82 = v82 at *
                generalize f 89 = v89 at *
                generalize f 90 = v90 at *
                generalize f 18 = v18 at *
                generalize f 17 = v17 at *
                simp only [List.drop_succ_cons, List.drop_zero]
                obtain ⟨v8, rfl, hby8, hs8⟩ := h8
                obtain ⟨A8, c8, rfl, _, _, _⟩ := id hby8
                obtain ⟨g9, rfl, hbn, hg9⟩ := h9
                have hbx8 := (hbx.below hbx.lt Hb45.out).below (Nat.lt_of_lt_of_le hxl Hb45.out.size) Hb67.out
                have hbx9 := hbx8.below hbx8.lt hb2
                have hx90 := hbx9.cell 0 _ rfl
                have hx91 := hbx9.cell 1 _ rfl
                have hf90 := hbx9.frozen 0
                have hf91 := hbx9.frozen 1
                have hl9 := hbx9.lt
                have hn90 := hbn.cell 0 _ rfl
                have hn91 := hbn.cell 1 _ rfl
                have hm90 := hbn.frozen 0
                have hm91 := hbn.frozen 1
                have hln9 := hbn.lt
                have hne9 : g9 ≠ w3.heap.size := by have := hbx8.lt; omega
                have hne9' : w3.heap.size ≠ g9 := fun e => hne9 e.symm
                go_upto_region 17 with fail
                have hbx10 := ((((hbx9.other ⟨g9, 0, none⟩ (.slice A8 (rrowC s 0).2.1.length c8) hne9).other ⟨g9, 1, none⟩ (.int .i64 (rrowC s 0).2.2) hne9).put 0 (.slice A8 (rrowC s 0).2.1.length c8)).put 1 (.int .i64 (rrowC s 0).2.2))
                have hbw2 := bstep (bstep Hb45.out Hb67.out) hb2
                have hs47 : wr.heap.size ≤ w7.heap.size := Nat.le_trans Hb45.out.size Hb67.out.size
                have hchg : Chg (fun k => k = w3.heap.size ∨ k = g9) w2 ((((w2.setCell ⟨g9, 0, none⟩ (.slice A8 (rrowC s 0).2.1.length c8)).setCell ⟨g9, 1, none⟩ (.int .i64 (rrowC s 0).2.2)).setCell ⟨w3.heap.size, 0, none⟩ (.slice A8 (rrowC s 0).2.1.length c8)).setCell ⟨w3.heap.size, 1, none⟩ (.int .i64 (rrowC s 0).2.2)) :=
                  (((Chg.set _ _ _ (.inr rfl)).trans (Chg.set _ _ _ (.inr rfl))).trans (Chg.set _ _ _ (.inl rfl))).trans (Chg.set _ _ _ (.inl rfl))
                simp only [List.set_cons_zero, List.set_cons_succ] at hbx10
                generalize ((((w2.setCell ⟨g9, 0, none⟩ (.slice A8 (rrowC s 0).2.1.length c8)).setCell ⟨g9, 1, none⟩ (.int .i64 (rrowC s 0).2.2)).setCell ⟨w3.heap.size, 0, none⟩ (.slice A8 (rrowC s 0).2.1.length c8)).setCell ⟨w3.heap.size, 1, none⟩ (.int .i64 (rrowC s 0).2.2)) = w10 at *
                have hby10 := hby8.below (hchg.below (B := w1.heap.size) hs8 (fun k hk => by rcases hk with rfl | rfl <;> omega))
                have hbl10 := Hbl.out.trans ((hbw2.mono hszw).trans (hchg.below (B := w1.heap.size) hs8 (fun k hk => by rcases hk with rfl | rfl <;> omega)))
                have hown10 := (Hown.out.below_ hbw2).chg hchg (fun k hk => by
                  have h1 := ownR_ne_box (by decide) Hown.out hbx k hk
                  have h2 := (Hown.out.blk k hk).2
                  omega) (fun _ h => h.elim)
                have hoa2 := Hoa7.out.below_ hb2
                have hoa10 := hoa2.chg hchg (fun k hk => by
                  have h1 := (Hoa7.out.blk k hk)
                  have h2 := Hb45.out.size
                  omega) (fun _ h => h.elim)
                have hgood10 : goodY (w3.heap.size + 1) xs w10 := fun x hx => ((Hgood.out x hx).below_ hbw2).chg hchg (fun k hk => by
                  have h1 := (Hgood.out x hx).blk k hk
                  omega) (fun _ h => h.elim)
                have hs10 := hbl10.size
                have hgs10 := hbx10.lt
                have hszx := Hlm.out
                have hfr : Hid (rfrom (lastP xs) (rrowN s 0).1 = rfrom (lastP xs) (rrowN s 0).1) := Lib.hid rfl
                have Hbl10 := Lib.hid hbl10
                have Hbx10 := Lib.hid hbx10
                have Hby10 := Lib.hid hby10
                have Hown10 := Lib.hid hown10
                have Hoa10 := Lib.hid hoa10
                have Hgood10 := Lib.hid hgood10
                clear hbl10 hbx10 hby10 hown10 hoa10 hgood10 hbx9 hx90 hx91 hf90 hf91 hn90 hn91 hm90 hm91 hbn hby8 hbw2 hchg hoa2
                rcases Hstep.out (.slice Aa (rrowA s 0).1.length ca) with ⟨hbig, hR⟩ | ⟨hsmall, hrel⟩
                · have hns : ¬ isSh b := fun hi => by
                    obtain ⟨_, _, _, ⟨s', e', h4, _⟩, _⟩ := sh_docOk b hl hi
                    rw [hR] at h4
                    cases h4
                  have Hns := Lib.hid hns
                  have hd1 : decide ((4294967295 : Int) < ((rfrom (lastP xs) (rrowN s 0).1 : Nat) : Int)) = true := decide_eq_true (by omega)
                  have hd2 : decide (4294967295 < rfrom (lastP xs) (rrowN s 0).1) = true := decide_eq_true hbig
                  clear hns hR
                  generalize rfrom (lastP xs) (rrowN s 0).1 = fr at *
                  go_wp2_with fail
                  go_ret2
                  exact ⟨bstep Hb01.out Hbl10.out, .inr ⟨Hns.out, _, rfl⟩⟩
                · have hd1 : decide ((4294967295 : Int) < ((rfrom (lastP xs) (rrowN s 0).1 : Nat) : Int)) = false := decide_eq_false (by omega)
                  have hd2 : decide (4294967295 < rfrom (lastP xs) (rrowN s 0).1) = false := decide_eq_false (by omega)
                  have hw32 : IntKind.u32.wrap ((rfrom (lastP xs) (rrowN s 0).1 : Nat) : Int) = ((rfrom (lastP xs) (rrowN s 0).1 : Nat) : Int) := by rw [IntKind.wrap_u32']; omega
                  have hto : (UInt32.ofNat (rfrom (lastP xs) (rrowN s 0).1)).toNat = rfrom (lastP xs) (rrowN s 0).1 := by rw [UInt32.toNat_ofNat']; omega
                  have Hto := Lib.hid hto
                  have Hrel := Lib.hid hrel
                  have Hsz := Lib.hid (Hszs.out (UInt32.ofNat (rfrom (lastP xs) (rrowN s 0).1)) (.slice Aa (rrowA s 0).1.length ca))
                  clear hrel hto
                  generalize UInt32.ofNat (rfrom (lastP xs) (rrowN s 0).1) = fu at *
                  generalize rfrom (lastP xs) (rrowN s 0).1 = fr at *
                  go_wp2_with (at_builtin
                               go_loud (refine wpList_app1R (C := cRaw) rfl (.tmp 95) (.tmp 100) 22 rfl Try.underlying22 infoRow (by kernel_rfl) (by decide) (by decide) (y := (Value.int .u32 (fr : Int), .slice Aa (rrowA s 0).1.length ca)) [.int .u32 (fr : Int), .slice Aa (rrowA s 0).1.length ca] Hown10.out ⟨rfl, rfl, rfl⟩ rfl rfl (by omega) (by omega) ?_)
                               intro v11 w11 hown11 hext11)
                  have hb11 : Below w1.heap.size w10 w11 := hext11.below hs10 fun q hq => (Hown10.out.blk q hq).1
                  have hlx1 : (xs ++ [((⟨fu, (rrowA s 0).1⟩ : GRow), Value.slice Aa (rrowA s 0).1.length ca)]).length = xs.length + 1 := by simp
                  have hlb : (xs ++ [((⟨fu, (rrowA s 0).1⟩ : GRow), Value.slice Aa (rrowA s 0).1.length ca)]).length ≤ b.length + 1 := by
                    have h1 := rsz_len ((xs ++ [((⟨fu, (rrowA s 0).1⟩ : GRow), Value.slice Aa (rrowA s 0).1.length ca)]).map Prod.fst)
                    have h2 := Hsz.out.1
                    rw [List.length_map] at h1
                    omega
                  have hgood11 : goodY (w3.heap.size + 1) (xs ++ [((⟨fu, (rrowA s 0).1⟩ : GRow), Value.slice Aa (rrowA s 0).1.length ca)]) w11 := by
                    intro x hx
                    rcases List.mem_append.1 hx with hx | hx
                    · exact ownKept (by decide) Hown10.out (Hgood10.out x hx) hext11
                    · rw [List.mem_singleton] at hx
                      subst hx
                      exact ownKept (by decide) Hown10.out (Hoa10.out.more (by have := Hb45.out.size; omega)) hext11
                  have hown12 : OwnF 75 cRaw w11 w1.heap.size v11 ((xs ++ [((⟨fu, (rrowA s 0).1⟩ : GRow), Value.slice Aa (rrowA s 0).1.length ca)]).map rawY) := by
                    rw [List.map_append, show [((⟨fu, (rrowA s 0).1⟩ : GRow), Value.slice Aa (rrowA s 0).1.length ca)].map rawY = [(Value.int .u32 (fr : Int), Value.slice Aa (rrowA s 0).1.length ca)] from by simp only [List.map_cons, List.map_nil, rawY]; rw [Hto.out]]
                    exact hown11
                  refine ⟨⟨_, (rrowC s 0).2.1, (rrowC s 0).2.2, A8, c8, by rw [hlx1]; simp, hown12, hgood11, Hbx10.out.grown hext11.gr (fun e => ownR_ne_box (by decide) Hown10.out Hbx10.out _ e rfl), Hby10.out.below hb11, Hbl10.out.trans hb11, Nat.lt_of_lt_of_le hgs10 hb11.size, Hrel.out, Hsz.out⟩, ?_⟩
                  rw [hlx1] at hlb
                  show b.length + 2 - ((xs.length : Int) + 1).toNat < b.length + 2 - ((xs.length : Int)).toNat
                  omega
          · have hend := docRel_end hrel hgo
            have hl2 := hsz.1
            have hrows := rowsOfRaw (by rw [hlm]; exact hown : OwnF 75 cRaw wr w1.heap.size (.slice Ao (xs.map rawY).length co) (xs.map rawY)) (by omega) hgood
            have hdx : decide (xs.length < many ∧ e = 0) = false := decide_eq_false hgo
            have hl3 : xs.length = (xs.map Prod.fst).length := (List.length_map ..).symm
            rw [hlm] at hrows
            generalize xs.map Prod.fst = out at *
            have hrw := hrows.byR
            have hbad : ¬ docOk b out → ¬ isSh b := fun h hi => by
              have h1 := sh_docOk b hl hi
              have ⟨_, _, _, ⟨s', e', h4, _⟩, _⟩ := h1
              rw [hend] at h4
              injection h4 with h4
              injection h4 with h4 _
              exact h (h4 ▸ h1)
            have Hbad := Lib.hid hbad
            have Hend := Lib.hid hend
            have Hrw := Lib.hid hrw
            have Hvs := Lib.hid hvs
            have Hbl := Lib.hid hbl
            clear hbad hend hrows hrw hvs hbl hown hgood hrel hsz
            by_cases hx : xs.length < many
            · have he1 : (e == 0) = false := beq_eq_false_iff_ne.2 fun h => hgo ⟨hx, h⟩
              have hx1 : decide (xs.length < many) = true := decide_eq_true hx
              generalize xs.length = k at *
              subst hl3
              go_upto_region 20 with fail
              have Hszo : Hid (rsz out ≤ b.length + 1) := Lib.hid hl2
              have Hbr := Lib.hid (Hby.out.step (bstep Hb01.out Hbl.out))
              have Hbx := Lib.hid hbx
              clear hx0 hx1
              by_cases hA : endR s e = 0
              · by_cases hB : out = []
                · have Hf : Hid ((endR s e != 0) = false ∧ ((out.length : Int) == 0) = true ∧ decide (endR s e = 0) = true ∧ endR s e = 0 ∧ (out.length : Int) = 0 ∧ (¬ ((out.length : Int) = 0)) = False) := Lib.hid (by subst hB; simp [hA])
                  have Hns := Lib.hid (Hbad.out fun h => h.2.2.2.2.1 hB)
                  clear hB
                  refine wp_region_typed [some 102, some 103, some 104, some 105, some 106, some 107, some 108, some 109, some 110, some 111, some 112, some 113, some 114, some 115, some 116, some 117, some 118, some 119, some 120, some 121, some 122] [102, 103, 104, 105, 106, 107, 108, 109, 110, 111, 112, 113, 114, 115, 116, 117, 118, 119, 120, 121, 122]
                    [Ph.is (.agg #[.slice As s.length cs, .int .i64 e]),
                      Ph.is (.int .i64 (endR s e)),
                      Ph.is (.bool false),
                      Ph.is (.bool false),
                      Ph.is (.slice Ao out.length co),
                      Ph.is (.int .i64 (out.length : Int)),
                      Ph.is (.bool true),
                      Ph.is (.bool true),
                      Ph.is (.bool true),
                      Ph.is undef,
                      Ph.is undef,
                      Ph.is undef,
                      Ph.is (.bool true),
                      Ph.is (.bool true),
                      Ph.is undef,
                      Ph.is undef,
                      Ph.is undef,
                      Ph.is undef,
                      Ph.is undef,
                      Ph.is undef,
                      Ph.is (.bool true)] rfl rfl (by kernel_rfl) (by kernel_rfl) ?_ ?_
                  · refine ⟨?_, ?_, ?_, ?_, ?_, ?_, ?_, ?_, ?_, ?_, ?_, ?_, ?_, ?_, ?_, ?_, ?_, ?_, ?_, ?_, ?_, trivial⟩
                    · -- 0: slot 102 := Op.load 112 t10
                      refine ob_yes fun f w' hb hp => ?_
                      simp [PreOf, factOf, valOf, Ph.is, Ph.by_, Ph.any, Region.binds] at hp
                      refine ⟨by simp [Gd, valOf, hp], ?_⟩
                      refine mild_val (.agg #[.slice As s.length cs, .int .i64 e]) ?_ rfl
                      have hl := run_loadVar_cells w' ⟨w3.heap.size, 0, none⟩ 112 [.slice As s.length cs, .int .i64 e] (Hbx.out.below Hbx.out.lt hb).cells Try.underlying112 rfl (by kernel_rfl)
                      simp only [execOp, evalF, List.contains_eq_mem, Instr.loadAt, Instr.sureAddr, Sem.run_bind, Sem.run_pure, Result.andThen_ok]
                      simp [hp, hl]
                    · -- 1: slot 103 := Op.call   value (Operand.func 58), args := #[t102], argTypes := #[112]  
                      refine ob_yes fun f w' hb hp => ?_
                      simp [PreOf, factOf, valOf, Ph.is, Ph.by_, Ph.any, Region.binds] at hp
                      refine ⟨by simp [Gd, valOf, hp], ?_⟩
                      refine mild_call 58 _ _ Try.f58 Try.func58 (by kernel_rfl) (by kernel_rfl) rfl ?_
                      simp [evalF, hp, Ph.is, Ph.by_, Ph.any]
                      refine (rend_any w' _ s e w1.heap.size (Hvs.out.below (hb.mono hszw))).mono ?_
                      rintro _ w8 ⟨rfl, h2⟩
                      first | exact ⟨_, rfl, h2, rfl⟩ | exact ⟨rfl, h2⟩ | exact ⟨h2, rfl⟩
                    · -- 2: slot 104 := Op.binOp BinOp.neq 3 t103 (const (0:i64)) 3
                      refine ob_yes fun f w' hb hp => ?_
                      simp [PreOf, factOf, valOf, Ph.is, Ph.by_, Ph.any, Region.binds] at hp
                      refine ⟨by simp [Gd, valOf, hp], ?_⟩
                      refine mild_val (.bool false) ?_ rfl
                      simp [execOp, evalF, hp, go_sem, bst_toList, Hf.out]
                    · -- 3: slot 105 := Op.move t104
                      refine ob_yes fun f w' hb hp => ?_
                      simp [PreOf, factOf, valOf, Ph.is, Ph.by_, Ph.any, Region.binds] at hp
                      refine ⟨by simp [Gd, valOf, hp], ?_⟩
                      refine mild_val (.bool false) ?_ rfl
                      simp [execOp, evalF, hp]
                    · -- 4: slot 106 := Op.move t8
                      refine ob_yes fun f w' hb hp => ?_
                      simp [PreOf, factOf, valOf, Ph.is, Ph.by_, Ph.any, Region.binds] at hp
                      refine ⟨by simp [Gd, valOf, hp], ?_⟩
                      refine mild_val (.slice Ao out.length co) ?_ rfl
                      simp [execOp, evalF, hp]
                    · -- 5: slot 107 := Op.call   builtin len, args := #[t106], argTypes := #[22]  
                      refine ob_yes fun f w' hb hp => ?_
                      simp [PreOf, factOf, valOf, Ph.is, Ph.by_, Ph.any, Region.binds] at hp
                      refine ⟨by simp [Gd, valOf, hp], ?_⟩
                      refine mild_val (.int .i64 (out.length : Int)) ?_ rfl
                      simp [execOp, evalF, hp, go_sem, bst_toList, Hf.out]
                    · -- 6: slot 108 := Op.binOp BinOp.eql 3 t107 (const (0:i64)) 3
                      refine ob_yes fun f w' hb hp => ?_
                      simp [PreOf, factOf, valOf, Ph.is, Ph.by_, Ph.any, Region.binds] at hp
                      refine ⟨by simp [Gd, valOf, hp], ?_⟩
                      refine mild_val (.bool true) ?_ rfl
                      simp [execOp, evalF, hp, go_sem, bst_toList, Hf.out]
                    · -- 7: slot 109 := Op.pick t105 (const (Value.bool true)) t108
                      refine ob_yes fun f w' hb hp => ?_
                      simp [PreOf, factOf, valOf, Ph.is, Ph.by_, Ph.any, Region.binds] at hp
                      refine ⟨by simp [Gd, valOf, hp], ?_⟩
                      refine mild_val (.bool true) ?_ rfl
                      simp [execOp, evalF, hp, go_sem, bst_toList, Hf.out]
                    · -- 8: slot 110 := Op.move t109
                      refine ob_yes fun f w' hb hp => ?_
                      simp [PreOf, factOf, valOf, Ph.is, Ph.by_, Ph.any, Region.binds] at hp
                      refine ⟨by simp [Gd, valOf, hp], ?_⟩
                      refine mild_val (.bool true) ?_ rfl
                      simp [execOp, evalF, hp]
                    · -- 9: slot 111 := Op.move t8
                      refine ob_no fun f w' hb hp => ?_
                      simp [PreOf, factOf, valOf, Ph.is, Ph.by_, Ph.any, Region.binds] at hp
                      exact ⟨by simp [Gd, valOf, hp], rfl⟩
                    · -- 10: slot 112 := Op.call   value (Operand.func 14), args := #[t111], argTypes := #[22]  
                      refine ob_no fun f w' hb hp => ?_
                      simp [PreOf, factOf, valOf, Ph.is, Ph.by_, Ph.any, Region.binds] at hp
                      exact ⟨by simp [Gd, valOf, hp], rfl⟩
                    · -- 11: slot 113 := Op.binOp BinOp.neq 3 t112 (const (0:i64)) 3
                      refine ob_no fun f w' hb hp => ?_
                      simp [PreOf, factOf, valOf, Ph.is, Ph.by_, Ph.any, Region.binds] at hp
                      exact ⟨by simp [Gd, valOf, hp], rfl⟩
                    · -- 12: slot 114 := Op.pick t110 (const (Value.bool true)) t113
                      refine ob_yes fun f w' hb hp => ?_
                      simp [PreOf, factOf, valOf, Ph.is, Ph.by_, Ph.any, Region.binds] at hp
                      refine ⟨by simp [Gd, valOf, hp], ?_⟩
                      refine mild_val (.bool true) ?_ rfl
                      simp [execOp, evalF, hp, go_sem, bst_toList, Hf.out]
                    · -- 13: slot 115 := Op.move t114
                      refine ob_yes fun f w' hb hp => ?_
                      simp [PreOf, factOf, valOf, Ph.is, Ph.by_, Ph.any, Region.binds] at hp
                      refine ⟨by simp [Gd, valOf, hp], ?_⟩
                      refine mild_val (.bool true) ?_ rfl
                      simp [execOp, evalF, hp]
                    · -- 14: slot 116 := Op.move t8
                      refine ob_no fun f w' hb hp => ?_
                      simp [PreOf, factOf, valOf, Ph.is, Ph.by_, Ph.any, Region.binds] at hp
                      exact ⟨by simp [Gd, valOf, hp], rfl⟩
                    · -- 15: slot 117 := Op.call   value (Operand.func 16), args := #[t116], argTypes := #[22]  
                      refine ob_no fun f w' hb hp => ?_
                      simp [PreOf, factOf, valOf, Ph.is, Ph.by_, Ph.any, Region.binds] at hp
                      exact ⟨by simp [Gd, valOf, hp], rfl⟩
                    · -- 16: slot 118 := Op.convert 25 9 t117
                      refine ob_no fun f w' hb hp => ?_
                      simp [PreOf, factOf, valOf, Ph.is, Ph.by_, Ph.any, Region.binds] at hp
                      exact ⟨by simp [Gd, valOf, hp], rfl⟩
                    · -- 17: slot 119 := Op.move t0
                      refine ob_no fun f w' hb hp => ?_
                      simp [PreOf, factOf, valOf, Ph.is, Ph.by_, Ph.any, Region.binds] at hp
                      exact ⟨by simp [Gd, valOf, hp], rfl⟩
                    · -- 18: slot 120 := Op.convert 25 9 t119
                      refine ob_no fun f w' hb hp => ?_
                      simp [PreOf, factOf, valOf, Ph.is, Ph.by_, Ph.any, Region.binds] at hp
                      exact ⟨by simp [Gd, valOf, hp], rfl⟩
                    · -- 19: slot 121 := Op.binOp BinOp.neq 9 t118 t120 9
                      refine ob_no fun f w' hb hp => ?_
                      simp [PreOf, factOf, valOf, Ph.is, Ph.by_, Ph.any, Region.binds] at hp
                      exact ⟨by simp [Gd, valOf, hp], rfl⟩
                    · -- 20: slot 122 := Op.pick t115 (const (Value.bool true)) t121
                      refine ob_yes fun f w' hb hp => ?_
                      simp [PreOf, factOf, valOf, Ph.is, Ph.by_, Ph.any, Region.binds] at hp
                      refine ⟨by simp [Gd, valOf, hp], ?_⟩
                      refine mild_val (.bool true) ?_ rfl
                      simp [execOp, evalF, hp, go_sem, bst_toList, Hf.out]
                  · intro f w2 hb2 hp
                    simp only [PostOf, Ph.is, Ph.by_, Ph.any] at hp
                    obtain ⟨h0, h1, h2, h3, h4, h5, h6, h7, h8, h9, h10, h11, h12, h13, h14, h15, h16, h17, h18, h19, h20, _⟩ := hp
                    simp only [fills, List.foldl_cons, List.foldl_nil, Act.put, List.setIfInBounds_toArray, List.set_cons_zero, List.set_cons_succ, h0, h1, h2, h3, h4, h5, h6, h7, h8, h9, h10, h11, h12, h13, h14, h15, h16, h17, h18, h19, h20]
                    clear h0 h1 h2 h3 h4 h5 h6 h7 h8 h9 h10 h11 h12 h13 h14 h15 h16 h17 h18 h19 h20
                    have Hb02 := Lib.hid (bstep (bstep Hb01.out Hbl.out) hb2)
                    clear hb2
                    go_wp2_with fail
                    go_ret2
                    exact ⟨Hb02.out, .inr ⟨Hns.out, _, rfl⟩⟩
                · have hB1 : ¬ ((out.length : Int) = 0) := by have := List.length_pos_iff.2 hB; omega
                  by_cases hC : newE none out = 0
                  · have Hn := Lib.hid hC
                    by_cases hD : senc out = b
                    · have Hf : Hid ((endR s e != 0) = false ∧ ((out.length : Int) == 0) = false ∧ endR s e = 0 ∧ ¬ ((out.length : Int) = 0) ∧ newE none out = 0 ∧ senc out = b ∧ out ≠ []) := Lib.hid ⟨by simp [hA], by simpa using hB1, hA, hB1, hC, hD, hB⟩
                      have Hok : Hid (isSh b ∧ rowsOf (plines b) = out) := Lib.hid (docOk_sh b out hl ⟨HE.out, HN.out, HK.out, ⟨s, e, Hend.out, hA⟩, hB, hC, hD⟩)
                      clear hB hB1 hC hD
                      refine wp_region_typed [some 102, some 103, some 104, some 105, some 106, some 107, some 108, some 109, some 110, some 111, some 112, some 113, some 114, some 115, some 116, some 117, some 118, some 119, some 120, some 121, some 122] [102, 103, 104, 105, 106, 107, 108, 109, 110, 111, 112, 113, 114, 115, 116, 117, 118, 119, 120, 121, 122]
                        [Ph.is (.agg #[.slice As s.length cs, .int .i64 e]),
                          Ph.is (.int .i64 (endR s e)),
                          Ph.is (.bool false),
                          Ph.is (.bool false),
                          Ph.is (.slice Ao out.length co),
                          Ph.is (.int .i64 (out.length : Int)),
                          Ph.is (.bool false),
                          Ph.is (.bool false),
                          Ph.is (.bool false),
                          Ph.is (.slice Ao out.length co),
                          Ph.is (.int .i64 (newE none out)),
                          Ph.is (.bool false),
                          Ph.is (.bool false),
                          Ph.is (.bool false),
                          Ph.is (.slice Ao out.length co),
                          Ph.by_ (senc out),
                          Ph.is (.string (bst (senc out))),
                          Ph.is (.slice A b.length c),
                          Ph.is (.string (bst (b))),
                          Ph.is (.bool false),
                          Ph.is (.bool false)] rfl rfl (by kernel_rfl) (by kernel_rfl) ?_ ?_
                      · refine ⟨?_, ?_, ?_, ?_, ?_, ?_, ?_, ?_, ?_, ?_, ?_, ?_, ?_, ?_, ?_, ?_, ?_, ?_, ?_, ?_, ?_, trivial⟩
                        · -- 0: slot 102 := Op.load 112 t10
                          refine ob_yes fun f w' hb hp => ?_
                          simp [PreOf, factOf, valOf, Ph.is, Ph.by_, Ph.any, Region.binds] at hp
                          refine ⟨by simp [Gd, valOf, hp], ?_⟩
                          refine mild_val (.agg #[.slice As s.length cs, .int .i64 e]) ?_ rfl
                          have hl := run_loadVar_cells w' ⟨w3.heap.size, 0, none⟩ 112 [.slice As s.length cs, .int .i64 e] (Hbx.out.below Hbx.out.lt hb).cells Try.underlying112 rfl (by kernel_rfl)
                          simp only [execOp, evalF, List.contains_eq_mem, Instr.loadAt, Instr.sureAddr, Sem.run_bind, Sem.run_pure, Result.andThen_ok]
                          simp [hp, hl]
                        · -- 1: slot 103 := Op.call   value (Operand.func 58), args := #[t102], argTypes := #[112]  
                          refine ob_yes fun f w' hb hp => ?_
                          simp [PreOf, factOf, valOf, Ph.is, Ph.by_, Ph.any, Region.binds] at hp
                          refine ⟨by simp [Gd, valOf, hp], ?_⟩
                          refine mild_call 58 _ _ Try.f58 Try.func58 (by kernel_rfl) (by kernel_rfl) rfl ?_
                          simp [evalF, hp, Ph.is, Ph.by_, Ph.any]
                          refine (rend_any w' _ s e w1.heap.size (Hvs.out.below (hb.mono hszw))).mono ?_
                          rintro _ w8 ⟨rfl, h2⟩
                          first | exact ⟨_, rfl, h2, rfl⟩ | exact ⟨rfl, h2⟩ | exact ⟨h2, rfl⟩
                        · -- 2: slot 104 := Op.binOp BinOp.neq 3 t103 (const (0:i64)) 3
                          refine ob_yes fun f w' hb hp => ?_
                          simp [PreOf, factOf, valOf, Ph.is, Ph.by_, Ph.any, Region.binds] at hp
                          refine ⟨by simp [Gd, valOf, hp], ?_⟩
                          refine mild_val (.bool false) ?_ rfl
                          simp [execOp, evalF, hp, go_sem, bst_toList, Hf.out]
                        · -- 3: slot 105 := Op.move t104
                          refine ob_yes fun f w' hb hp => ?_
                          simp [PreOf, factOf, valOf, Ph.is, Ph.by_, Ph.any, Region.binds] at hp
                          refine ⟨by simp [Gd, valOf, hp], ?_⟩
                          refine mild_val (.bool false) ?_ rfl
                          simp [execOp, evalF, hp]
                        · -- 4: slot 106 := Op.move t8
                          refine ob_yes fun f w' hb hp => ?_
                          simp [PreOf, factOf, valOf, Ph.is, Ph.by_, Ph.any, Region.binds] at hp
                          refine ⟨by simp [Gd, valOf, hp], ?_⟩
                          refine mild_val (.slice Ao out.length co) ?_ rfl
                          simp [execOp, evalF, hp]
                        · -- 5: slot 107 := Op.call   builtin len, args := #[t106], argTypes := #[22]  
                          refine ob_yes fun f w' hb hp => ?_
                          simp [PreOf, factOf, valOf, Ph.is, Ph.by_, Ph.any, Region.binds] at hp
                          refine ⟨by simp [Gd, valOf, hp], ?_⟩
                          refine mild_val (.int .i64 (out.length : Int)) ?_ rfl
                          simp [execOp, evalF, hp, go_sem, bst_toList, Hf.out]
                        · -- 6: slot 108 := Op.binOp BinOp.eql 3 t107 (const (0:i64)) 3
                          refine ob_yes fun f w' hb hp => ?_
                          simp [PreOf, factOf, valOf, Ph.is, Ph.by_, Ph.any, Region.binds] at hp
                          refine ⟨by simp [Gd, valOf, hp], ?_⟩
                          refine mild_val (.bool false) ?_ rfl
                          simp [execOp, evalF, hp, go_sem, bst_toList, Hf.out]
                        · -- 7: slot 109 := Op.pick t105 (const (Value.bool true)) t108
                          refine ob_yes fun f w' hb hp => ?_
                          simp [PreOf, factOf, valOf, Ph.is, Ph.by_, Ph.any, Region.binds] at hp
                          refine ⟨by simp [Gd, valOf, hp], ?_⟩
                          refine mild_val (.bool false) ?_ rfl
                          simp [execOp, evalF, hp, go_sem, bst_toList, Hf.out]
                        · -- 8: slot 110 := Op.move t109
                          refine ob_yes fun f w' hb hp => ?_
                          simp [PreOf, factOf, valOf, Ph.is, Ph.by_, Ph.any, Region.binds] at hp
                          refine ⟨by simp [Gd, valOf, hp], ?_⟩
                          refine mild_val (.bool false) ?_ rfl
                          simp [execOp, evalF, hp]
                        · -- 9: slot 111 := Op.move t8
                          refine ob_yes fun f w' hb hp => ?_
                          simp [PreOf, factOf, valOf, Ph.is, Ph.by_, Ph.any, Region.binds] at hp
                          refine ⟨by simp [Gd, valOf, hp], ?_⟩
                          refine mild_val (.slice Ao out.length co) ?_ rfl
                          simp [execOp, evalF, hp]
                        · -- 10: slot 112 := Op.call   value (Operand.func 14), args := #[t111], argTypes := #[22]  
                          refine ob_yes fun f w' hb hp => ?_
                          simp [PreOf, factOf, valOf, Ph.is, Ph.by_, Ph.any, Region.binds] at hp
                          refine ⟨by simp [Gd, valOf, hp], ?_⟩
                          refine mild_call 14 _ _ Try.f14 Try.func14 (by kernel_rfl) (by kernel_rfl) rfl ?_
                          simp [evalF, hp, Ph.is, Ph.by_, Ph.any]
                          refine (rnew_any w' wr.heap.size _ out (by have := Hszo.out; omega) (Hrw.out.below hb)).mono ?_
                          rintro _ _ ⟨rfl, q, rfl⟩
                          first | exact ⟨_, rfl, bdrewN (Below.refl _ _) q, rfl⟩ | exact ⟨rfl, bdrewN (Below.refl _ _) q⟩ | exact ⟨bdrewN (Below.refl _ _) q, rfl⟩
                        · -- 11: slot 113 := Op.binOp BinOp.neq 3 t112 (const (0:i64)) 3
                          refine ob_yes fun f w' hb hp => ?_
                          simp [PreOf, factOf, valOf, Ph.is, Ph.by_, Ph.any, Region.binds] at hp
                          refine ⟨by simp [Gd, valOf, hp], ?_⟩
                          refine mild_val (.bool false) ?_ rfl
                          simp [execOp, evalF, hp, go_sem, bst_toList, Hf.out]
                        · -- 12: slot 114 := Op.pick t110 (const (Value.bool true)) t113
                          refine ob_yes fun f w' hb hp => ?_
                          simp [PreOf, factOf, valOf, Ph.is, Ph.by_, Ph.any, Region.binds] at hp
                          refine ⟨by simp [Gd, valOf, hp], ?_⟩
                          refine mild_val (.bool false) ?_ rfl
                          simp [execOp, evalF, hp, go_sem, bst_toList, Hf.out]
                        · -- 13: slot 115 := Op.move t114
                          refine ob_yes fun f w' hb hp => ?_
                          simp [PreOf, factOf, valOf, Ph.is, Ph.by_, Ph.any, Region.binds] at hp
                          refine ⟨by simp [Gd, valOf, hp], ?_⟩
                          refine mild_val (.bool false) ?_ rfl
                          simp [execOp, evalF, hp]
                        · -- 14: slot 116 := Op.move t8
                          refine ob_yes fun f w' hb hp => ?_
                          simp [PreOf, factOf, valOf, Ph.is, Ph.by_, Ph.any, Region.binds] at hp
                          refine ⟨by simp [Gd, valOf, hp], ?_⟩
                          refine mild_val (.slice Ao out.length co) ?_ rfl
                          simp [execOp, evalF, hp]
                        · -- 15: slot 117 := Op.call   value (Operand.func 16), args := #[t116], argTypes := #[22]  
                          refine ob_yes fun f w' hb hp => ?_
                          simp [PreOf, factOf, valOf, Ph.is, Ph.by_, Ph.any, Region.binds] at hp
                          refine ⟨by simp [Gd, valOf, hp], ?_⟩
                          refine mild_call 16 _ _ Try.f16 Try.func16 (by kernel_rfl) (by kernel_rfl) rfl ?_
                          simp [evalF, hp, Ph.is, Ph.by_, Ph.any]
                          exact (rsput_any w' wr.heap.size (.slice Ao out.length co) out (by have := Hszo.out; omega) (Hrw.out.below hb) hb.size Hn.out).mono fun e w7 ⟨v, h1, h2, h3⟩ => ⟨v, h1, h3, h2.by_⟩
                        · -- 16: slot 118 := Op.convert 25 9 t117
                          refine ob_yes fun f w' hb hp => ?_
                          simp [PreOf, factOf, valOf, Ph.is, Ph.by_, Ph.any, Region.binds] at hp
                          refine ⟨by simp [Gd, valOf, hp], ?_⟩
                          refine mild_val (.string (bst (senc out))) ?_ rfl
                          have hc := conv8 (by first | exact hp | exact hp.1 | exact hp.2 | exact hp.1.1 | exact hp.1.2 | exact hp.2.1 | exact hp.2.2)
                          simp [execOp, evalF, hp, hc]
                        · -- 17: slot 119 := Op.move t0
                          refine ob_yes fun f w' hb hp => ?_
                          simp [PreOf, factOf, valOf, Ph.is, Ph.by_, Ph.any, Region.binds] at hp
                          refine ⟨by simp [Gd, valOf, hp], ?_⟩
                          refine mild_val (.slice A b.length c) ?_ rfl
                          simp [execOp, evalF, hp]
                        · -- 18: slot 120 := Op.convert 25 9 t119
                          refine ob_yes fun f w' hb hp => ?_
                          simp [PreOf, factOf, valOf, Ph.is, Ph.by_, Ph.any, Region.binds] at hp
                          refine ⟨by simp [Gd, valOf, hp], ?_⟩
                          refine mild_val (.string (bst (b))) ?_ rfl
                          have hc := conv8 ((Hbr.out).below hb)
                          simp [execOp, evalF, hp, hc]
                        · -- 19: slot 121 := Op.binOp BinOp.neq 9 t118 t120 9
                          refine ob_yes fun f w' hb hp => ?_
                          simp [PreOf, factOf, valOf, Ph.is, Ph.by_, Ph.any, Region.binds] at hp
                          refine ⟨by simp [Gd, valOf, hp], ?_⟩
                          refine mild_val (.bool false) ?_ rfl
                          simp [execOp, evalF, hp, go_sem, bst_toList, Hf.out]
                        · -- 20: slot 122 := Op.pick t115 (const (Value.bool true)) t121
                          refine ob_yes fun f w' hb hp => ?_
                          simp [PreOf, factOf, valOf, Ph.is, Ph.by_, Ph.any, Region.binds] at hp
                          refine ⟨by simp [Gd, valOf, hp], ?_⟩
                          refine mild_val (.bool false) ?_ rfl
                          simp [execOp, evalF, hp, go_sem, bst_toList, Hf.out]
                      · intro f w2 hb2 hp
                        simp only [PostOf, Ph.is, Ph.by_, Ph.any] at hp
                        obtain ⟨h0, h1, h2, h3, h4, h5, h6, h7, h8, h9, h10, h11, h12, h13, h14, h15, h16, h17, h18, h19, h20, _⟩ := hp
                        simp only [fills, List.foldl_cons, List.foldl_nil, Act.put, List.setIfInBounds_toArray, List.set_cons_zero, List.set_cons_succ, h0, h1, h2, h3, h4, h5, h6, h7, h8, h9, h10, h11, h12, h13, h14, h16, h17, h18, h19, h20]
                        clear h0 h1 h2 h3 h4 h5 h6 h7 h8 h9 h10 h11 h12 h13 h14 h16 h17 h18 h19 h20
                        generalize f 117 = v117 at *
                        have Hrw2 := Lib.hid (Hrw.out.below hb2)
                        have Hz2 := Lib.hid hb2.size
                        have Hb02 := Lib.hid (bstep (bstep Hb01.out Hbl.out) hb2)
                        clear hb2
                        go_wp2_with fail
                        go_ret2
                        obtain ⟨h1, h2⟩ := Hok.out
                        exact ⟨Hb02.out, .inl ⟨h1, _, rfl, by rw [h2]; exact Hrw2.out.mono (fun _ h => Nat.lt_of_lt_of_le h Hz2.out) (fun _ h => Nat.lt_of_lt_of_le h Hz2.out)⟩⟩
                    · have hD1 : ¬ (senc out = b) := hD
                      have Hf : Hid ((endR s e != 0) = false ∧ ((out.length : Int) == 0) = false ∧ endR s e = 0 ∧ ¬ ((out.length : Int) = 0) ∧ newE none out = 0 ∧ ¬ (senc out = b)) := Lib.hid ⟨by simp [hA], by simpa using hB1, hA, hB1, hC, hD1⟩
                      have Hns := Lib.hid (Hbad.out fun h => hD h.2.2.2.2.2.2)
                      clear hB hB1 hC hD hD1
                      refine wp_region_typed [some 102, some 103, some 104, some 105, some 106, some 107, some 108, some 109, some 110, some 111, some 112, some 113, some 114, some 115, some 116, some 117, some 118, some 119, some 120, some 121, some 122] [102, 103, 104, 105, 106, 107, 108, 109, 110, 111, 112, 113, 114, 115, 116, 117, 118, 119, 120, 121, 122]
                        [Ph.is (.agg #[.slice As s.length cs, .int .i64 e]),
                          Ph.is (.int .i64 (endR s e)),
                          Ph.is (.bool false),
                          Ph.is (.bool false),
                          Ph.is (.slice Ao out.length co),
                          Ph.is (.int .i64 (out.length : Int)),
                          Ph.is (.bool false),
                          Ph.is (.bool false),
                          Ph.is (.bool false),
                          Ph.is (.slice Ao out.length co),
                          Ph.is (.int .i64 (newE none out)),
                          Ph.is (.bool false),
                          Ph.is (.bool false),
                          Ph.is (.bool false),
                          Ph.is (.slice Ao out.length co),
                          Ph.by_ (senc out),
                          Ph.is (.string (bst (senc out))),
                          Ph.is (.slice A b.length c),
                          Ph.is (.string (bst (b))),
                          Ph.is (.bool true),
                          Ph.is (.bool true)] rfl rfl (by kernel_rfl) (by kernel_rfl) ?_ ?_
                      · refine ⟨?_, ?_, ?_, ?_, ?_, ?_, ?_, ?_, ?_, ?_, ?_, ?_, ?_, ?_, ?_, ?_, ?_, ?_, ?_, ?_, ?_, trivial⟩
                        · -- 0: slot 102 := Op.load 112 t10
                          refine ob_yes fun f w' hb hp => ?_
                          simp [PreOf, factOf, valOf, Ph.is, Ph.by_, Ph.any, Region.binds] at hp
                          refine ⟨by simp [Gd, valOf, hp], ?_⟩
                          refine mild_val (.agg #[.slice As s.length cs, .int .i64 e]) ?_ rfl
                          have hl := run_loadVar_cells w' ⟨w3.heap.size, 0, none⟩ 112 [.slice As s.length cs, .int .i64 e] (Hbx.out.below Hbx.out.lt hb).cells Try.underlying112 rfl (by kernel_rfl)
                          simp only [execOp, evalF, List.contains_eq_mem, Instr.loadAt, Instr.sureAddr, Sem.run_bind, Sem.run_pure, Result.andThen_ok]
                          simp [hp, hl]
                        · -- 1: slot 103 := Op.call   value (Operand.func 58), args := #[t102], argTypes := #[112]  
                          refine ob_yes fun f w' hb hp => ?_
                          simp [PreOf, factOf, valOf, Ph.is, Ph.by_, Ph.any, Region.binds] at hp
                          refine ⟨by simp [Gd, valOf, hp], ?_⟩
                          refine mild_call 58 _ _ Try.f58 Try.func58 (by kernel_rfl) (by kernel_rfl) rfl ?_
                          simp [evalF, hp, Ph.is, Ph.by_, Ph.any]
                          refine (rend_any w' _ s e w1.heap.size (Hvs.out.below (hb.mono hszw))).mono ?_
                          rintro _ w8 ⟨rfl, h2⟩
                          first | exact ⟨_, rfl, h2, rfl⟩ | exact ⟨rfl, h2⟩ | exact ⟨h2, rfl⟩
                        · -- 2: slot 104 := Op.binOp BinOp.neq 3 t103 (const (0:i64)) 3
                          refine ob_yes fun f w' hb hp => ?_
                          simp [PreOf, factOf, valOf, Ph.is, Ph.by_, Ph.any, Region.binds] at hp
                          refine ⟨by simp [Gd, valOf, hp], ?_⟩
                          refine mild_val (.bool false) ?_ rfl
                          simp [execOp, evalF, hp, go_sem, bst_toList, Hf.out]
                        · -- 3: slot 105 := Op.move t104
                          refine ob_yes fun f w' hb hp => ?_
                          simp [PreOf, factOf, valOf, Ph.is, Ph.by_, Ph.any, Region.binds] at hp
                          refine ⟨by simp [Gd, valOf, hp], ?_⟩
                          refine mild_val (.bool false) ?_ rfl
                          simp [execOp, evalF, hp]
                        · -- 4: slot 106 := Op.move t8
                          refine ob_yes fun f w' hb hp => ?_
                          simp [PreOf, factOf, valOf, Ph.is, Ph.by_, Ph.any, Region.binds] at hp
                          refine ⟨by simp [Gd, valOf, hp], ?_⟩
                          refine mild_val (.slice Ao out.length co) ?_ rfl
                          simp [execOp, evalF, hp]
                        · -- 5: slot 107 := Op.call   builtin len, args := #[t106], argTypes := #[22]  
                          refine ob_yes fun f w' hb hp => ?_
                          simp [PreOf, factOf, valOf, Ph.is, Ph.by_, Ph.any, Region.binds] at hp
                          refine ⟨by simp [Gd, valOf, hp], ?_⟩
                          refine mild_val (.int .i64 (out.length : Int)) ?_ rfl
                          simp [execOp, evalF, hp, go_sem, bst_toList, Hf.out]
                        · -- 6: slot 108 := Op.binOp BinOp.eql 3 t107 (const (0:i64)) 3
                          refine ob_yes fun f w' hb hp => ?_
                          simp [PreOf, factOf, valOf, Ph.is, Ph.by_, Ph.any, Region.binds] at hp
                          refine ⟨by simp [Gd, valOf, hp], ?_⟩
                          refine mild_val (.bool false) ?_ rfl
                          simp [execOp, evalF, hp, go_sem, bst_toList, Hf.out]
                        · -- 7: slot 109 := Op.pick t105 (const (Value.bool true)) t108
                          refine ob_yes fun f w' hb hp => ?_
                          simp [PreOf, factOf, valOf, Ph.is, Ph.by_, Ph.any, Region.binds] at hp
                          refine ⟨by simp [Gd, valOf, hp], ?_⟩
                          refine mild_val (.bool false) ?_ rfl
                          simp [execOp, evalF, hp, go_sem, bst_toList, Hf.out]
                        · -- 8: slot 110 := Op.move t109
                          refine ob_yes fun f w' hb hp => ?_
                          simp [PreOf, factOf, valOf, Ph.is, Ph.by_, Ph.any, Region.binds] at hp
                          refine ⟨by simp [Gd, valOf, hp], ?_⟩
                          refine mild_val (.bool false) ?_ rfl
                          simp [execOp, evalF, hp]
                        · -- 9: slot 111 := Op.move t8
                          refine ob_yes fun f w' hb hp => ?_
                          simp [PreOf, factOf, valOf, Ph.is, Ph.by_, Ph.any, Region.binds] at hp
                          refine ⟨by simp [Gd, valOf, hp], ?_⟩
                          refine mild_val (.slice Ao out.length co) ?_ rfl
                          simp [execOp, evalF, hp]
                        · -- 10: slot 112 := Op.call   value (Operand.func 14), args := #[t111], argTypes := #[22]  
                          refine ob_yes fun f w' hb hp => ?_
                          simp [PreOf, factOf, valOf, Ph.is, Ph.by_, Ph.any, Region.binds] at hp
                          refine ⟨by simp [Gd, valOf, hp], ?_⟩
                          refine mild_call 14 _ _ Try.f14 Try.func14 (by kernel_rfl) (by kernel_rfl) rfl ?_
                          simp [evalF, hp, Ph.is, Ph.by_, Ph.any]
                          refine (rnew_any w' wr.heap.size _ out (by have := Hszo.out; omega) (Hrw.out.below hb)).mono ?_
                          rintro _ _ ⟨rfl, q, rfl⟩
                          first | exact ⟨_, rfl, bdrewN (Below.refl _ _) q, rfl⟩ | exact ⟨rfl, bdrewN (Below.refl _ _) q⟩ | exact ⟨bdrewN (Below.refl _ _) q, rfl⟩
                        · -- 11: slot 113 := Op.binOp BinOp.neq 3 t112 (const (0:i64)) 3
                          refine ob_yes fun f w' hb hp => ?_
                          simp [PreOf, factOf, valOf, Ph.is, Ph.by_, Ph.any, Region.binds] at hp
                          refine ⟨by simp [Gd, valOf, hp], ?_⟩
                          refine mild_val (.bool false) ?_ rfl
                          simp [execOp, evalF, hp, go_sem, bst_toList, Hf.out]
                        · -- 12: slot 114 := Op.pick t110 (const (Value.bool true)) t113
                          refine ob_yes fun f w' hb hp => ?_
                          simp [PreOf, factOf, valOf, Ph.is, Ph.by_, Ph.any, Region.binds] at hp
                          refine ⟨by simp [Gd, valOf, hp], ?_⟩
                          refine mild_val (.bool false) ?_ rfl
                          simp [execOp, evalF, hp, go_sem, bst_toList, Hf.out]
                        · -- 13: slot 115 := Op.move t114
                          refine ob_yes fun f w' hb hp => ?_
                          simp [PreOf, factOf, valOf, Ph.is, Ph.by_, Ph.any, Region.binds] at hp
                          refine ⟨by simp [Gd, valOf, hp], ?_⟩
                          refine mild_val (.bool false) ?_ rfl
                          simp [execOp, evalF, hp]
                        · -- 14: slot 116 := Op.move t8
                          refine ob_yes fun f w' hb hp => ?_
                          simp [PreOf, factOf, valOf, Ph.is, Ph.by_, Ph.any, Region.binds] at hp
                          refine ⟨by simp [Gd, valOf, hp], ?_⟩
                          refine mild_val (.slice Ao out.length co) ?_ rfl
                          simp [execOp, evalF, hp]
                        · -- 15: slot 117 := Op.call   value (Operand.func 16), args := #[t116], argTypes := #[22]  
                          refine ob_yes fun f w' hb hp => ?_
                          simp [PreOf, factOf, valOf, Ph.is, Ph.by_, Ph.any, Region.binds] at hp
                          refine ⟨by simp [Gd, valOf, hp], ?_⟩
                          refine mild_call 16 _ _ Try.f16 Try.func16 (by kernel_rfl) (by kernel_rfl) rfl ?_
                          simp [evalF, hp, Ph.is, Ph.by_, Ph.any]
                          exact (rsput_any w' wr.heap.size (.slice Ao out.length co) out (by have := Hszo.out; omega) (Hrw.out.below hb) hb.size Hn.out).mono fun e w7 ⟨v, h1, h2, h3⟩ => ⟨v, h1, h3, h2.by_⟩
                        · -- 16: slot 118 := Op.convert 25 9 t117
                          refine ob_yes fun f w' hb hp => ?_
                          simp [PreOf, factOf, valOf, Ph.is, Ph.by_, Ph.any, Region.binds] at hp
                          refine ⟨by simp [Gd, valOf, hp], ?_⟩
                          refine mild_val (.string (bst (senc out))) ?_ rfl
                          have hc := conv8 (by first | exact hp | exact hp.1 | exact hp.2 | exact hp.1.1 | exact hp.1.2 | exact hp.2.1 | exact hp.2.2)
                          simp [execOp, evalF, hp, hc]
                        · -- 17: slot 119 := Op.move t0
                          refine ob_yes fun f w' hb hp => ?_
                          simp [PreOf, factOf, valOf, Ph.is, Ph.by_, Ph.any, Region.binds] at hp
                          refine ⟨by simp [Gd, valOf, hp], ?_⟩
                          refine mild_val (.slice A b.length c) ?_ rfl
                          simp [execOp, evalF, hp]
                        · -- 18: slot 120 := Op.convert 25 9 t119
                          refine ob_yes fun f w' hb hp => ?_
                          simp [PreOf, factOf, valOf, Ph.is, Ph.by_, Ph.any, Region.binds] at hp
                          refine ⟨by simp [Gd, valOf, hp], ?_⟩
                          refine mild_val (.string (bst (b))) ?_ rfl
                          have hc := conv8 ((Hbr.out).below hb)
                          simp [execOp, evalF, hp, hc]
                        · -- 19: slot 121 := Op.binOp BinOp.neq 9 t118 t120 9
                          refine ob_yes fun f w' hb hp => ?_
                          simp [PreOf, factOf, valOf, Ph.is, Ph.by_, Ph.any, Region.binds] at hp
                          refine ⟨by simp [Gd, valOf, hp], ?_⟩
                          refine mild_val (.bool true) ?_ rfl
                          simp [execOp, evalF, hp, go_sem, bst_toList, Hf.out]
                        · -- 20: slot 122 := Op.pick t115 (const (Value.bool true)) t121
                          refine ob_yes fun f w' hb hp => ?_
                          simp [PreOf, factOf, valOf, Ph.is, Ph.by_, Ph.any, Region.binds] at hp
                          refine ⟨by simp [Gd, valOf, hp], ?_⟩
                          refine mild_val (.bool true) ?_ rfl
                          simp [execOp, evalF, hp, go_sem, bst_toList, Hf.out]
                      · intro f w2 hb2 hp
                        simp only [PostOf, Ph.is, Ph.by_, Ph.any] at hp
                        obtain ⟨h0, h1, h2, h3, h4, h5, h6, h7, h8, h9, h10, h11, h12, h13, h14, h15, h16, h17, h18, h19, h20, _⟩ := hp
                        simp only [fills, List.foldl_cons, List.foldl_nil, Act.put, List.setIfInBounds_toArray, List.set_cons_zero, List.set_cons_succ, h0, h1, h2, h3, h4, h5, h6, h7, h8, h9, h10, h11, h12, h13, h14, h16, h17, h18, h19, h20]
                        clear h0 h1 h2 h3 h4 h5 h6 h7 h8 h9 h10 h11 h12 h13 h14 h16 h17 h18 h19 h20
                        generalize f 117 = v117 at *
                        have Hb02 := Lib.hid (bstep (bstep Hb01.out Hbl.out) hb2)
                        clear hb2
                        go_wp2_with fail
                        go_ret2
                        exact ⟨Hb02.out, .inr ⟨Hns.out, _, rfl⟩⟩
                  · have Hf : Hid ((endR s e != 0) = false ∧ ((out.length : Int) == 0) = false ∧ endR s e = 0 ∧ ¬ ((out.length : Int) = 0) ∧ ¬ (newE none out = 0) ∧ (newE none out == 0) = false) := Lib.hid ⟨by simp [hA], by simpa using hB1, hA, hB1, hC, by simpa using hC⟩
                    have Hns := Lib.hid (Hbad.out fun h => hC h.2.2.2.2.2.1)
                    clear hB hB1 hC
                    refine wp_region_typed [some 102, some 103, some 104, some 105, some 106, some 107, some 108, some 109, some 110, some 111, some 112, some 113, some 114, some 115, some 116, some 117, some 118, some 119, some 120, some 121, some 122] [102, 103, 104, 105, 106, 107, 108, 109, 110, 111, 112, 113, 114, 115, 116, 117, 118, 119, 120, 121, 122]
                      [Ph.is (.agg #[.slice As s.length cs, .int .i64 e]),
                        Ph.is (.int .i64 (endR s e)),
                        Ph.is (.bool false),
                        Ph.is (.bool false),
                        Ph.is (.slice Ao out.length co),
                        Ph.is (.int .i64 (out.length : Int)),
                        Ph.is (.bool false),
                        Ph.is (.bool false),
                        Ph.is (.bool false),
                        Ph.is (.slice Ao out.length co),
                        Ph.is (.int .i64 (newE none out)),
                        Ph.is (.bool true),
                        Ph.is (.bool true),
                        Ph.is (.bool true),
                        Ph.is undef,
                        Ph.is undef,
                        Ph.is undef,
                        Ph.is undef,
                        Ph.is undef,
                        Ph.is undef,
                        Ph.is (.bool true)] rfl rfl (by kernel_rfl) (by kernel_rfl) ?_ ?_
                    · refine ⟨?_, ?_, ?_, ?_, ?_, ?_, ?_, ?_, ?_, ?_, ?_, ?_, ?_, ?_, ?_, ?_, ?_, ?_, ?_, ?_, ?_, trivial⟩
                      · -- 0: slot 102 := Op.load 112 t10
                        refine ob_yes fun f w' hb hp => ?_
                        simp [PreOf, factOf, valOf, Ph.is, Ph.by_, Ph.any, Region.binds] at hp
                        refine ⟨by simp [Gd, valOf, hp], ?_⟩
                        refine mild_val (.agg #[.slice As s.length cs, .int .i64 e]) ?_ rfl
                        have hl := run_loadVar_cells w' ⟨w3.heap.size, 0, none⟩ 112 [.slice As s.length cs, .int .i64 e] (Hbx.out.below Hbx.out.lt hb).cells Try.underlying112 rfl (by kernel_rfl)
                        simp only [execOp, evalF, List.contains_eq_mem, Instr.loadAt, Instr.sureAddr, Sem.run_bind, Sem.run_pure, Result.andThen_ok]
                        simp [hp, hl]
                      · -- 1: slot 103 := Op.call   value (Operand.func 58), args := #[t102], argTypes := #[112]  
                        refine ob_yes fun f w' hb hp => ?_
                        simp [PreOf, factOf, valOf, Ph.is, Ph.by_, Ph.any, Region.binds] at hp
                        refine ⟨by simp [Gd, valOf, hp], ?_⟩
                        refine mild_call 58 _ _ Try.f58 Try.func58 (by kernel_rfl) (by kernel_rfl) rfl ?_
                        simp [evalF, hp, Ph.is, Ph.by_, Ph.any]
                        refine (rend_any w' _ s e w1.heap.size (Hvs.out.below (hb.mono hszw))).mono ?_
                        rintro _ w8 ⟨rfl, h2⟩
                        first | exact ⟨_, rfl, h2, rfl⟩ | exact ⟨rfl, h2⟩ | exact ⟨h2, rfl⟩
                      · -- 2: slot 104 := Op.binOp BinOp.neq 3 t103 (const (0:i64)) 3
                        refine ob_yes fun f w' hb hp => ?_
                        simp [PreOf, factOf, valOf, Ph.is, Ph.by_, Ph.any, Region.binds] at hp
                        refine ⟨by simp [Gd, valOf, hp], ?_⟩
                        refine mild_val (.bool false) ?_ rfl
                        simp [execOp, evalF, hp, go_sem, bst_toList, Hf.out]
                      · -- 3: slot 105 := Op.move t104
                        refine ob_yes fun f w' hb hp => ?_
                        simp [PreOf, factOf, valOf, Ph.is, Ph.by_, Ph.any, Region.binds] at hp
                        refine ⟨by simp [Gd, valOf, hp], ?_⟩
                        refine mild_val (.bool false) ?_ rfl
                        simp [execOp, evalF, hp]
                      · -- 4: slot 106 := Op.move t8
                        refine ob_yes fun f w' hb hp => ?_
                        simp [PreOf, factOf, valOf, Ph.is, Ph.by_, Ph.any, Region.binds] at hp
                        refine ⟨by simp [Gd, valOf, hp], ?_⟩
                        refine mild_val (.slice Ao out.length co) ?_ rfl
                        simp [execOp, evalF, hp]
                      · -- 5: slot 107 := Op.call   builtin len, args := #[t106], argTypes := #[22]  
                        refine ob_yes fun f w' hb hp => ?_
                        simp [PreOf, factOf, valOf, Ph.is, Ph.by_, Ph.any, Region.binds] at hp
                        refine ⟨by simp [Gd, valOf, hp], ?_⟩
                        refine mild_val (.int .i64 (out.length : Int)) ?_ rfl
                        simp [execOp, evalF, hp, go_sem, bst_toList, Hf.out]
                      · -- 6: slot 108 := Op.binOp BinOp.eql 3 t107 (const (0:i64)) 3
                        refine ob_yes fun f w' hb hp => ?_
                        simp [PreOf, factOf, valOf, Ph.is, Ph.by_, Ph.any, Region.binds] at hp
                        refine ⟨by simp [Gd, valOf, hp], ?_⟩
                        refine mild_val (.bool false) ?_ rfl
                        simp [execOp, evalF, hp, go_sem, bst_toList, Hf.out]
                      · -- 7: slot 109 := Op.pick t105 (const (Value.bool true)) t108
                        refine ob_yes fun f w' hb hp => ?_
                        simp [PreOf, factOf, valOf, Ph.is, Ph.by_, Ph.any, Region.binds] at hp
                        refine ⟨by simp [Gd, valOf, hp], ?_⟩
                        refine mild_val (.bool false) ?_ rfl
                        simp [execOp, evalF, hp, go_sem, bst_toList, Hf.out]
                      · -- 8: slot 110 := Op.move t109
                        refine ob_yes fun f w' hb hp => ?_
                        simp [PreOf, factOf, valOf, Ph.is, Ph.by_, Ph.any, Region.binds] at hp
                        refine ⟨by simp [Gd, valOf, hp], ?_⟩
                        refine mild_val (.bool false) ?_ rfl
                        simp [execOp, evalF, hp]
                      · -- 9: slot 111 := Op.move t8
                        refine ob_yes fun f w' hb hp => ?_
                        simp [PreOf, factOf, valOf, Ph.is, Ph.by_, Ph.any, Region.binds] at hp
                        refine ⟨by simp [Gd, valOf, hp], ?_⟩
                        refine mild_val (.slice Ao out.length co) ?_ rfl
                        simp [execOp, evalF, hp]
                      · -- 10: slot 112 := Op.call   value (Operand.func 14), args := #[t111], argTypes := #[22]  
                        refine ob_yes fun f w' hb hp => ?_
                        simp [PreOf, factOf, valOf, Ph.is, Ph.by_, Ph.any, Region.binds] at hp
                        refine ⟨by simp [Gd, valOf, hp], ?_⟩
                        refine mild_call 14 _ _ Try.f14 Try.func14 (by kernel_rfl) (by kernel_rfl) rfl ?_
                        simp [evalF, hp, Ph.is, Ph.by_, Ph.any]
                        refine (rnew_any w' wr.heap.size _ out (by have := Hszo.out; omega) (Hrw.out.below hb)).mono ?_
                        rintro _ _ ⟨rfl, q, rfl⟩
                        first | exact ⟨_, rfl, bdrewN (Below.refl _ _) q, rfl⟩ | exact ⟨rfl, bdrewN (Below.refl _ _) q⟩ | exact ⟨bdrewN (Below.refl _ _) q, rfl⟩
                      · -- 11: slot 113 := Op.binOp BinOp.neq 3 t112 (const (0:i64)) 3
                        refine ob_yes fun f w' hb hp => ?_
                        simp [PreOf, factOf, valOf, Ph.is, Ph.by_, Ph.any, Region.binds] at hp
                        refine ⟨by simp [Gd, valOf, hp], ?_⟩
                        refine mild_val (.bool true) ?_ rfl
                        simp [execOp, evalF, hp, go_sem, bst_toList, Hf.out]
                      · -- 12: slot 114 := Op.pick t110 (const (Value.bool true)) t113
                        refine ob_yes fun f w' hb hp => ?_
                        simp [PreOf, factOf, valOf, Ph.is, Ph.by_, Ph.any, Region.binds] at hp
                        refine ⟨by simp [Gd, valOf, hp], ?_⟩
                        refine mild_val (.bool true) ?_ rfl
                        simp [execOp, evalF, hp, go_sem, bst_toList, Hf.out]
                      · -- 13: slot 115 := Op.move t114
                        refine ob_yes fun f w' hb hp => ?_
                        simp [PreOf, factOf, valOf, Ph.is, Ph.by_, Ph.any, Region.binds] at hp
                        refine ⟨by simp [Gd, valOf, hp], ?_⟩
                        refine mild_val (.bool true) ?_ rfl
                        simp [execOp, evalF, hp]
                      · -- 14: slot 116 := Op.move t8
                        refine ob_no fun f w' hb hp => ?_
                        simp [PreOf, factOf, valOf, Ph.is, Ph.by_, Ph.any, Region.binds] at hp
                        exact ⟨by simp [Gd, valOf, hp], rfl⟩
                      · -- 15: slot 117 := Op.call   value (Operand.func 16), args := #[t116], argTypes := #[22]  
                        refine ob_no fun f w' hb hp => ?_
                        simp [PreOf, factOf, valOf, Ph.is, Ph.by_, Ph.any, Region.binds] at hp
                        exact ⟨by simp [Gd, valOf, hp], rfl⟩
                      · -- 16: slot 118 := Op.convert 25 9 t117
                        refine ob_no fun f w' hb hp => ?_
                        simp [PreOf, factOf, valOf, Ph.is, Ph.by_, Ph.any, Region.binds] at hp
                        exact ⟨by simp [Gd, valOf, hp], rfl⟩
                      · -- 17: slot 119 := Op.move t0
                        refine ob_no fun f w' hb hp => ?_
                        simp [PreOf, factOf, valOf, Ph.is, Ph.by_, Ph.any, Region.binds] at hp
                        exact ⟨by simp [Gd, valOf, hp], rfl⟩
                      · -- 18: slot 120 := Op.convert 25 9 t119
                        refine ob_no fun f w' hb hp => ?_
                        simp [PreOf, factOf, valOf, Ph.is, Ph.by_, Ph.any, Region.binds] at hp
                        exact ⟨by simp [Gd, valOf, hp], rfl⟩
                      · -- 19: slot 121 := Op.binOp BinOp.neq 9 t118 t120 9
                        refine ob_no fun f w' hb hp => ?_
                        simp [PreOf, factOf, valOf, Ph.is, Ph.by_, Ph.any, Region.binds] at hp
                        exact ⟨by simp [Gd, valOf, hp], rfl⟩
                      · -- 20: slot 122 := Op.pick t115 (const (Value.bool true)) t121
                        refine ob_yes fun f w' hb hp => ?_
                        simp [PreOf, factOf, valOf, Ph.is, Ph.by_, Ph.any, Region.binds] at hp
                        refine ⟨by simp [Gd, valOf, hp], ?_⟩
                        refine mild_val (.bool true) ?_ rfl
                        simp [execOp, evalF, hp, go_sem, bst_toList, Hf.out]
                    · intro f w2 hb2 hp
                      simp only [PostOf, Ph.is, Ph.by_, Ph.any] at hp
                      obtain ⟨h0, h1, h2, h3, h4, h5, h6, h7, h8, h9, h10, h11, h12, h13, h14, h15, h16, h17, h18, h19, h20, _⟩ := hp
                      simp only [fills, List.foldl_cons, List.foldl_nil, Act.put, List.setIfInBounds_toArray, List.set_cons_zero, List.set_cons_succ, h0, h1, h2, h3, h4, h5, h6, h7, h8, h9, h10, h11, h12, h13, h14, h15, h16, h17, h18, h19, h20]
                      clear h0 h1 h2 h3 h4 h5 h6 h7 h8 h9 h10 h11 h12 h13 h14 h15 h16 h17 h18 h19 h20
                      have Hb02 := Lib.hid (bstep (bstep Hb01.out Hbl.out) hb2)
                      clear hb2
                      go_wp2_with fail
                      go_ret2
                      exact ⟨Hb02.out, .inr ⟨Hns.out, _, rfl⟩⟩
              · have Hf : Hid ((endR s e != 0) = true ∧ (endR s e == 0) = false ∧ ¬ (endR s e = 0)) := Lib.hid ⟨by simp [hA], by simp [hA], hA⟩
                have Hns := Lib.hid (Hbad.out fun h => by
                  obtain ⟨_, _, _, ⟨s', e', h4, h5⟩, _⟩ := h
                  rw [Hend.out] at h4
                  injection h4 with h4
                  injection h4 with _ h4
                  injection h4 with h4 h6
                  subst h4 h6
                  exact hA h5)
                clear hA
                refine wp_region_typed [some 102, some 103, some 104, some 105, some 106, some 107, some 108, some 109, some 110, some 111, some 112, some 113, some 114, some 115, some 116, some 117, some 118, some 119, some 120, some 121, some 122] [102, 103, 104, 105, 106, 107, 108, 109, 110, 111, 112, 113, 114, 115, 116, 117, 118, 119, 120, 121, 122]
                  [Ph.is (.agg #[.slice As s.length cs, .int .i64 e]),
                    Ph.is (.int .i64 (endR s e)),
                    Ph.is (.bool true),
                    Ph.is (.bool true),
                    Ph.is undef,
                    Ph.is undef,
                    Ph.is undef,
                    Ph.is (.bool true),
                    Ph.is (.bool true),
                    Ph.is undef,
                    Ph.is undef,
                    Ph.is undef,
                    Ph.is (.bool true),
                    Ph.is (.bool true),
                    Ph.is undef,
                    Ph.is undef,
                    Ph.is undef,
                    Ph.is undef,
                    Ph.is undef,
                    Ph.is undef,
                    Ph.is (.bool true)] rfl rfl (by kernel_rfl) (by kernel_rfl) ?_ ?_
                · refine ⟨?_, ?_, ?_, ?_, ?_, ?_, ?_, ?_, ?_, ?_, ?_, ?_, ?_, ?_, ?_, ?_, ?_, ?_, ?_, ?_, ?_, trivial⟩
                  · -- 0: slot 102 := Op.load 112 t10
                    refine ob_yes fun f w' hb hp => ?_
                    simp [PreOf, factOf, valOf, Ph.is, Ph.by_, Ph.any, Region.binds] at hp
                    refine ⟨by simp [Gd, valOf, hp], ?_⟩
                    refine mild_val (.agg #[.slice As s.length cs, .int .i64 e]) ?_ rfl
                    have hl := run_loadVar_cells w' ⟨w3.heap.size, 0, none⟩ 112 [.slice As s.length cs, .int .i64 e] (Hbx.out.below Hbx.out.lt hb).cells Try.underlying112 rfl (by kernel_rfl)
                    simp only [execOp, evalF, List.contains_eq_mem, Instr.loadAt, Instr.sureAddr, Sem.run_bind, Sem.run_pure, Result.andThen_ok]
                    simp [hp, hl]
                  · -- 1: slot 103 := Op.call   value (Operand.func 58), args := #[t102], argTypes := #[112]  
                    refine ob_yes fun f w' hb hp => ?_
                    simp [PreOf, factOf, valOf, Ph.is, Ph.by_, Ph.any, Region.binds] at hp
                    refine ⟨by simp [Gd, valOf, hp], ?_⟩
                    refine mild_call 58 _ _ Try.f58 Try.func58 (by kernel_rfl) (by kernel_rfl) rfl ?_
                    simp [evalF, hp, Ph.is, Ph.by_, Ph.any]
                    refine (rend_any w' _ s e w1.heap.size (Hvs.out.below (hb.mono hszw))).mono ?_
                    rintro _ w8 ⟨rfl, h2⟩
                    first | exact ⟨_, rfl, h2, rfl⟩ | exact ⟨rfl, h2⟩ | exact ⟨h2, rfl⟩
                  · -- 2: slot 104 := Op.binOp BinOp.neq 3 t103 (const (0:i64)) 3
                    refine ob_yes fun f w' hb hp => ?_
                    simp [PreOf, factOf, valOf, Ph.is, Ph.by_, Ph.any, Region.binds] at hp
                    refine ⟨by simp [Gd, valOf, hp], ?_⟩
                    refine mild_val (.bool true) ?_ rfl
                    simp [execOp, evalF, hp, go_sem, bst_toList, Hf.out]
                  · -- 3: slot 105 := Op.move t104
                    refine ob_yes fun f w' hb hp => ?_
                    simp [PreOf, factOf, valOf, Ph.is, Ph.by_, Ph.any, Region.binds] at hp
                    refine ⟨by simp [Gd, valOf, hp], ?_⟩
                    refine mild_val (.bool true) ?_ rfl
                    simp [execOp, evalF, hp]
                  · -- 4: slot 106 := Op.move t8
                    refine ob_no fun f w' hb hp => ?_
                    simp [PreOf, factOf, valOf, Ph.is, Ph.by_, Ph.any, Region.binds] at hp
                    exact ⟨by simp [Gd, valOf, hp], rfl⟩
                  · -- 5: slot 107 := Op.call   builtin len, args := #[t106], argTypes := #[22]  
                    refine ob_no fun f w' hb hp => ?_
                    simp [PreOf, factOf, valOf, Ph.is, Ph.by_, Ph.any, Region.binds] at hp
                    exact ⟨by simp [Gd, valOf, hp], rfl⟩
                  · -- 6: slot 108 := Op.binOp BinOp.eql 3 t107 (const (0:i64)) 3
                    refine ob_no fun f w' hb hp => ?_
                    simp [PreOf, factOf, valOf, Ph.is, Ph.by_, Ph.any, Region.binds] at hp
                    exact ⟨by simp [Gd, valOf, hp], rfl⟩
                  · -- 7: slot 109 := Op.pick t105 (const (Value.bool true)) t108
                    refine ob_yes fun f w' hb hp => ?_
                    simp [PreOf, factOf, valOf, Ph.is, Ph.by_, Ph.any, Region.binds] at hp
                    refine ⟨by simp [Gd, valOf, hp], ?_⟩
                    refine mild_val (.bool true) ?_ rfl
                    simp [execOp, evalF, hp, go_sem, bst_toList, Hf.out]
                  · -- 8: slot 110 := Op.move t109
                    refine ob_yes fun f w' hb hp => ?_
                    simp [PreOf, factOf, valOf, Ph.is, Ph.by_, Ph.any, Region.binds] at hp
                    refine ⟨by simp [Gd, valOf, hp], ?_⟩
                    refine mild_val (.bool true) ?_ rfl
                    simp [execOp, evalF, hp]
                  · -- 9: slot 111 := Op.move t8
                    refine ob_no fun f w' hb hp => ?_
                    simp [PreOf, factOf, valOf, Ph.is, Ph.by_, Ph.any, Region.binds] at hp
                    exact ⟨by simp [Gd, valOf, hp], rfl⟩
                  · -- 10: slot 112 := Op.call   value (Operand.func 14), args := #[t111], argTypes := #[22]  
                    refine ob_no fun f w' hb hp => ?_
                    simp [PreOf, factOf, valOf, Ph.is, Ph.by_, Ph.any, Region.binds] at hp
                    exact ⟨by simp [Gd, valOf, hp], rfl⟩
                  · -- 11: slot 113 := Op.binOp BinOp.neq 3 t112 (const (0:i64)) 3
                    refine ob_no fun f w' hb hp => ?_
                    simp [PreOf, factOf, valOf, Ph.is, Ph.by_, Ph.any, Region.binds] at hp
                    exact ⟨by simp [Gd, valOf, hp], rfl⟩
                  · -- 12: slot 114 := Op.pick t110 (const (Value.bool true)) t113
                    refine ob_yes fun f w' hb hp => ?_
                    simp [PreOf, factOf, valOf, Ph.is, Ph.by_, Ph.any, Region.binds] at hp
                    refine ⟨by simp [Gd, valOf, hp], ?_⟩
                    refine mild_val (.bool true) ?_ rfl
                    simp [execOp, evalF, hp, go_sem, bst_toList, Hf.out]
                  · -- 13: slot 115 := Op.move t114
                    refine ob_yes fun f w' hb hp => ?_
                    simp [PreOf, factOf, valOf, Ph.is, Ph.by_, Ph.any, Region.binds] at hp
                    refine ⟨by simp [Gd, valOf, hp], ?_⟩
                    refine mild_val (.bool true) ?_ rfl
                    simp [execOp, evalF, hp]
                  · -- 14: slot 116 := Op.move t8
                    refine ob_no fun f w' hb hp => ?_
                    simp [PreOf, factOf, valOf, Ph.is, Ph.by_, Ph.any, Region.binds] at hp
                    exact ⟨by simp [Gd, valOf, hp], rfl⟩
                  · -- 15: slot 117 := Op.call   value (Operand.func 16), args := #[t116], argTypes := #[22]  
                    refine ob_no fun f w' hb hp => ?_
                    simp [PreOf, factOf, valOf, Ph.is, Ph.by_, Ph.any, Region.binds] at hp
                    exact ⟨by simp [Gd, valOf, hp], rfl⟩
                  · -- 16: slot 118 := Op.convert 25 9 t117
                    refine ob_no fun f w' hb hp => ?_
                    simp [PreOf, factOf, valOf, Ph.is, Ph.by_, Ph.any, Region.binds] at hp
                    exact ⟨by simp [Gd, valOf, hp], rfl⟩
                  · -- 17: slot 119 := Op.move t0
                    refine ob_no fun f w' hb hp => ?_
                    simp [PreOf, factOf, valOf, Ph.is, Ph.by_, Ph.any, Region.binds] at hp
                    exact ⟨by simp [Gd, valOf, hp], rfl⟩
                  · -- 18: slot 120 := Op.convert 25 9 t119
                    refine ob_no fun f w' hb hp => ?_
                    simp [PreOf, factOf, valOf, Ph.is, Ph.by_, Ph.any, Region.binds] at hp
                    exact ⟨by simp [Gd, valOf, hp], rfl⟩
                  · -- 19: slot 121 := Op.binOp BinOp.neq 9 t118 t120 9
                    refine ob_no fun f w' hb hp => ?_
                    simp [PreOf, factOf, valOf, Ph.is, Ph.by_, Ph.any, Region.binds] at hp
                    exact ⟨by simp [Gd, valOf, hp], rfl⟩
                  · -- 20: slot 122 := Op.pick t115 (const (Value.bool true)) t121
                    refine ob_yes fun f w' hb hp => ?_
                    simp [PreOf, factOf, valOf, Ph.is, Ph.by_, Ph.any, Region.binds] at hp
                    refine ⟨by simp [Gd, valOf, hp], ?_⟩
                    refine mild_val (.bool true) ?_ rfl
                    simp [execOp, evalF, hp, go_sem, bst_toList, Hf.out]
                · intro f w2 hb2 hp
                  simp only [PostOf, Ph.is, Ph.by_, Ph.any] at hp
                  obtain ⟨h0, h1, h2, h3, h4, h5, h6, h7, h8, h9, h10, h11, h12, h13, h14, h15, h16, h17, h18, h19, h20, _⟩ := hp
                  simp only [fills, List.foldl_cons, List.foldl_nil, Act.put, List.setIfInBounds_toArray, List.set_cons_zero, List.set_cons_succ, h0, h1, h2, h3, h4, h5, h6, h7, h8, h9, h10, h11, h12, h13, h14, h15, h16, h17, h18, h19, h20]
                  clear h0 h1 h2 h3 h4 h5 h6 h7 h8 h9 h10 h11 h12 h13 h14 h15 h16 h17 h18 h19 h20
                  have Hb02 := Lib.hid (bstep (bstep Hb01.out Hbl.out) hb2)
                  clear hb2
                  go_wp2_with fail
                  go_ret2
                  exact ⟨Hb02.out, .inr ⟨Hns.out, _, rfl⟩⟩
            · have hx1 : decide (xs.length < many) = false := decide_eq_false hx
              generalize xs.length = k at *
              subst hl3
              go_upto_region 20 with fail
              have Hszo : Hid (rsz out ≤ b.length + 1) := Lib.hid hl2
              have Hbr := Lib.hid (Hby.out.step (bstep Hb01.out Hbl.out))
              have Hbx := Lib.hid hbx
              clear hx0 hx1
              by_cases hA : endR s e = 0
              · by_cases hB : out = []
                · have Hf : Hid ((endR s e != 0) = false ∧ ((out.length : Int) == 0) = true ∧ decide (endR s e = 0) = true ∧ endR s e = 0 ∧ (out.length : Int) = 0 ∧ (¬ ((out.length : Int) = 0)) = False) := Lib.hid (by subst hB; simp [hA])
                  have Hns := Lib.hid (Hbad.out fun h => h.2.2.2.2.1 hB)
                  clear hB
                  refine wp_region_typed [some 102, some 103, some 104, some 105, some 106, some 107, some 108, some 109, some 110, some 111, some 112, some 113, some 114, some 115, some 116, some 117, some 118, some 119, some 120, some 121, some 122] [102, 103, 104, 105, 106, 107, 108, 109, 110, 111, 112, 113, 114, 115, 116, 117, 118, 119, 120, 121, 122]
                    [Ph.is (.agg #[.slice As s.length cs, .int .i64 e]),
                      Ph.is (.int .i64 (endR s e)),
                      Ph.is (.bool false),
                      Ph.is (.bool false),
                      Ph.is (.slice Ao out.length co),
                      Ph.is (.int .i64 (out.length : Int)),
                      Ph.is (.bool true),
                      Ph.is (.bool true),
                      Ph.is (.bool true),
                      Ph.is undef,
                      Ph.is undef,
                      Ph.is undef,
                      Ph.is (.bool true),
                      Ph.is (.bool true),
                      Ph.is undef,
                      Ph.is undef,
                      Ph.is undef,
                      Ph.is undef,
                      Ph.is undef,
                      Ph.is undef,
                      Ph.is (.bool true)] rfl rfl (by kernel_rfl) (by kernel_rfl) ?_ ?_
                  · refine ⟨?_, ?_, ?_, ?_, ?_, ?_, ?_, ?_, ?_, ?_, ?_, ?_, ?_, ?_, ?_, ?_, ?_, ?_, ?_, ?_, ?_, trivial⟩
                    · -- 0: slot 102 := Op.load 112 t10
                      refine ob_yes fun f w' hb hp => ?_
                      simp [PreOf, factOf, valOf, Ph.is, Ph.by_, Ph.any, Region.binds] at hp
                      refine ⟨by simp [Gd, valOf, hp], ?_⟩
                      refine mild_val (.agg #[.slice As s.length cs, .int .i64 e]) ?_ rfl
                      have hl := run_loadVar_cells w' ⟨w3.heap.size, 0, none⟩ 112 [.slice As s.length cs, .int .i64 e] (Hbx.out.below Hbx.out.lt hb).cells Try.underlying112 rfl (by kernel_rfl)
                      simp only [execOp, evalF, List.contains_eq_mem, Instr.loadAt, Instr.sureAddr, Sem.run_bind, Sem.run_pure, Result.andThen_ok]
                      simp [hp, hl]
                    · -- 1: slot 103 := Op.call   value (Operand.func 58), args := #[t102], argTypes := #[112]  
                      refine ob_yes fun f w' hb hp => ?_
                      simp [PreOf, factOf, valOf, Ph.is, Ph.by_, Ph.any, Region.binds] at hp
                      refine ⟨by simp [Gd, valOf, hp], ?_⟩
                      refine mild_call 58 _ _ Try.f58 Try.func58 (by kernel_rfl) (by kernel_rfl) rfl ?_
                      simp [evalF, hp, Ph.is, Ph.by_, Ph.any]
                      refine (rend_any w' _ s e w1.heap.size (Hvs.out.below (hb.mono hszw))).mono ?_
                      rintro _ w8 ⟨rfl, h2⟩
                      first | exact ⟨_, rfl, h2, rfl⟩ | exact ⟨rfl, h2⟩ | exact ⟨h2, rfl⟩
                    · -- 2: slot 104 := Op.binOp BinOp.neq 3 t103 (const (0:i64)) 3
                      refine ob_yes fun f w' hb hp => ?_
                      simp [PreOf, factOf, valOf, Ph.is, Ph.by_, Ph.any, Region.binds] at hp
                      refine ⟨by simp [Gd, valOf, hp], ?_⟩
                      refine mild_val (.bool false) ?_ rfl
                      simp [execOp, evalF, hp, go_sem, bst_toList, Hf.out]
                    · -- 3: slot 105 := Op.move t104
                      refine ob_yes fun f w' hb hp => ?_
                      simp [PreOf, factOf, valOf, Ph.is, Ph.by_, Ph.any, Region.binds] at hp
                      refine ⟨by simp [Gd, valOf, hp], ?_⟩
                      refine mild_val (.bool false) ?_ rfl
                      simp [execOp, evalF, hp]
                    · -- 4: slot 106 := Op.move t8
                      refine ob_yes fun f w' hb hp => ?_
                      simp [PreOf, factOf, valOf, Ph.is, Ph.by_, Ph.any, Region.binds] at hp
                      refine ⟨by simp [Gd, valOf, hp], ?_⟩
                      refine mild_val (.slice Ao out.length co) ?_ rfl
                      simp [execOp, evalF, hp]
                    · -- 5: slot 107 := Op.call   builtin len, args := #[t106], argTypes := #[22]  
                      refine ob_yes fun f w' hb hp => ?_
                      simp [PreOf, factOf, valOf, Ph.is, Ph.by_, Ph.any, Region.binds] at hp
                      refine ⟨by simp [Gd, valOf, hp], ?_⟩
                      refine mild_val (.int .i64 (out.length : Int)) ?_ rfl
                      simp [execOp, evalF, hp, go_sem, bst_toList, Hf.out]
                    · -- 6: slot 108 := Op.binOp BinOp.eql 3 t107 (const (0:i64)) 3
                      refine ob_yes fun f w' hb hp => ?_
                      simp [PreOf, factOf, valOf, Ph.is, Ph.by_, Ph.any, Region.binds] at hp
                      refine ⟨by simp [Gd, valOf, hp], ?_⟩
                      refine mild_val (.bool true) ?_ rfl
                      simp [execOp, evalF, hp, go_sem, bst_toList, Hf.out]
                    · -- 7: slot 109 := Op.pick t105 (const (Value.bool true)) t108
                      refine ob_yes fun f w' hb hp => ?_
                      simp [PreOf, factOf, valOf, Ph.is, Ph.by_, Ph.any, Region.binds] at hp
                      refine ⟨by simp [Gd, valOf, hp], ?_⟩
                      refine mild_val (.bool true) ?_ rfl
                      simp [execOp, evalF, hp, go_sem, bst_toList, Hf.out]
                    · -- 8: slot 110 := Op.move t109
                      refine ob_yes fun f w' hb hp => ?_
                      simp [PreOf, factOf, valOf, Ph.is, Ph.by_, Ph.any, Region.binds] at hp
                      refine ⟨by simp [Gd, valOf, hp], ?_⟩
                      refine mild_val (.bool true) ?_ rfl
                      simp [execOp, evalF, hp]
                    · -- 9: slot 111 := Op.move t8
                      refine ob_no fun f w' hb hp => ?_
                      simp [PreOf, factOf, valOf, Ph.is, Ph.by_, Ph.any, Region.binds] at hp
                      exact ⟨by simp [Gd, valOf, hp], rfl⟩
                    · -- 10: slot 112 := Op.call   value (Operand.func 14), args := #[t111], argTypes := #[22]  
                      refine ob_no fun f w' hb hp => ?_
                      simp [PreOf, factOf, valOf, Ph.is, Ph.by_, Ph.any, Region.binds] at hp
                      exact ⟨by simp [Gd, valOf, hp], rfl⟩
                    · -- 11: slot 113 := Op.binOp BinOp.neq 3 t112 (const (0:i64)) 3
                      refine ob_no fun f w' hb hp => ?_
                      simp [PreOf, factOf, valOf, Ph.is, Ph.by_, Ph.any, Region.binds] at hp
                      exact ⟨by simp [Gd, valOf, hp], rfl⟩
                    · -- 12: slot 114 := Op.pick t110 (const (Value.bool true)) t113
                      refine ob_yes fun f w' hb hp => ?_
                      simp [PreOf, factOf, valOf, Ph.is, Ph.by_, Ph.any, Region.binds] at hp
                      refine ⟨by simp [Gd, valOf, hp], ?_⟩
                      refine mild_val (.bool true) ?_ rfl
                      simp [execOp, evalF, hp, go_sem, bst_toList, Hf.out]
                    · -- 13: slot 115 := Op.move t114
                      refine ob_yes fun f w' hb hp => ?_
                      simp [PreOf, factOf, valOf, Ph.is, Ph.by_, Ph.any, Region.binds] at hp
                      refine ⟨by simp [Gd, valOf, hp], ?_⟩
                      refine mild_val (.bool true) ?_ rfl
                      simp [execOp, evalF, hp]
                    · -- 14: slot 116 := Op.move t8
                      refine ob_no fun f w' hb hp => ?_
                      simp [PreOf, factOf, valOf, Ph.is, Ph.by_, Ph.any, Region.binds] at hp
                      exact ⟨by simp [Gd, valOf, hp], rfl⟩
                    · -- 15: slot 117 := Op.call   value (Operand.func 16), args := #[t116], argTypes := #[22]  
                      refine ob_no fun f w' hb hp => ?_
                      simp [PreOf, factOf, valOf, Ph.is, Ph.by_, Ph.any, Region.binds] at hp
                      exact ⟨by simp [Gd, valOf, hp], rfl⟩
                    · -- 16: slot 118 := Op.convert 25 9 t117
                      refine ob_no fun f w' hb hp => ?_
                      simp [PreOf, factOf, valOf, Ph.is, Ph.by_, Ph.any, Region.binds] at hp
                      exact ⟨by simp [Gd, valOf, hp], rfl⟩
                    · -- 17: slot 119 := Op.move t0
                      refine ob_no fun f w' hb hp => ?_
                      simp [PreOf, factOf, valOf, Ph.is, Ph.by_, Ph.any, Region.binds] at hp
                      exact ⟨by simp [Gd, valOf, hp], rfl⟩
                    · -- 18: slot 120 := Op.convert 25 9 t119
                      refine ob_no fun f w' hb hp => ?_
                      simp [PreOf, factOf, valOf, Ph.is, Ph.by_, Ph.any, Region.binds] at hp
                      exact ⟨by simp [Gd, valOf, hp], rfl⟩
                    · -- 19: slot 121 := Op.binOp BinOp.neq 9 t118 t120 9
                      refine ob_no fun f w' hb hp => ?_
                      simp [PreOf, factOf, valOf, Ph.is, Ph.by_, Ph.any, Region.binds] at hp
                      exact ⟨by simp [Gd, valOf, hp], rfl⟩
                    · -- 20: slot 122 := Op.pick t115 (const (Value.bool true)) t121
                      refine ob_yes fun f w' hb hp => ?_
                      simp [PreOf, factOf, valOf, Ph.is, Ph.by_, Ph.any, Region.binds] at hp
                      refine ⟨by simp [Gd, valOf, hp], ?_⟩
                      refine mild_val (.bool true) ?_ rfl
                      simp [execOp, evalF, hp, go_sem, bst_toList, Hf.out]
                  · intro f w2 hb2 hp
                    simp only [PostOf, Ph.is, Ph.by_, Ph.any] at hp
                    obtain ⟨h0, h1, h2, h3, h4, h5, h6, h7, h8, h9, h10, h11, h12, h13, h14, h15, h16, h17, h18, h19, h20, _⟩ := hp
                    simp only [fills, List.foldl_cons, List.foldl_nil, Act.put, List.setIfInBounds_toArray, List.set_cons_zero, List.set_cons_succ, h0, h1, h2, h3, h4, h5, h6, h7, h8, h9, h10, h11, h12, h13, h14, h15, h16, h17, h18, h19, h20]
                    clear h0 h1 h2 h3 h4 h5 h6 h7 h8 h9 h10 h11 h12 h13 h14 h15 h16 h17 h18 h19 h20
                    have Hb02 := Lib.hid (bstep (bstep Hb01.out Hbl.out) hb2)
                    clear hb2
                    go_wp2_with fail
                    go_ret2
                    exact ⟨Hb02.out, .inr ⟨Hns.out, _, rfl⟩⟩
                · have hB1 : ¬ ((out.length : Int) = 0) := by have := List.length_pos_iff.2 hB; omega
                  by_cases hC : newE none out = 0
                  · have Hn := Lib.hid hC
                    by_cases hD : senc out = b
                    · have Hf : Hid ((endR s e != 0) = false ∧ ((out.length : Int) == 0) = false ∧ endR s e = 0 ∧ ¬ ((out.length : Int) = 0) ∧ newE none out = 0 ∧ senc out = b ∧ out ≠ []) := Lib.hid ⟨by simp [hA], by simpa using hB1, hA, hB1, hC, hD, hB⟩
                      have Hok : Hid (isSh b ∧ rowsOf (plines b) = out) := Lib.hid (docOk_sh b out hl ⟨HE.out, HN.out, HK.out, ⟨s, e, Hend.out, hA⟩, hB, hC, hD⟩)
                      clear hB hB1 hC hD
                      refine wp_region_typed [some 102, some 103, some 104, some 105, some 106, some 107, some 108, some 109, some 110, some 111, some 112, some 113, some 114, some 115, some 116, some 117, some 118, some 119, some 120, some 121, some 122] [102, 103, 104, 105, 106, 107, 108, 109, 110, 111, 112, 113, 114, 115, 116, 117, 118, 119, 120, 121, 122]
                        [Ph.is (.agg #[.slice As s.length cs, .int .i64 e]),
                          Ph.is (.int .i64 (endR s e)),
                          Ph.is (.bool false),
                          Ph.is (.bool false),
                          Ph.is (.slice Ao out.length co),
                          Ph.is (.int .i64 (out.length : Int)),
                          Ph.is (.bool false),
                          Ph.is (.bool false),
                          Ph.is (.bool false),
                          Ph.is (.slice Ao out.length co),
                          Ph.is (.int .i64 (newE none out)),
                          Ph.is (.bool false),
                          Ph.is (.bool false),
                          Ph.is (.bool false),
                          Ph.is (.slice Ao out.length co),
                          Ph.by_ (senc out),
                          Ph.is (.string (bst (senc out))),
                          Ph.is (.slice A b.length c),
                          Ph.is (.string (bst (b))),
                          Ph.is (.bool false),
                          Ph.is (.bool false)] rfl rfl (by kernel_rfl) (by kernel_rfl) ?_ ?_
                      · refine ⟨?_, ?_, ?_, ?_, ?_, ?_, ?_, ?_, ?_, ?_, ?_, ?_, ?_, ?_, ?_, ?_, ?_, ?_, ?_, ?_, ?_, trivial⟩
                        · -- 0: slot 102 := Op.load 112 t10
                          refine ob_yes fun f w' hb hp => ?_
                          simp [PreOf, factOf, valOf, Ph.is, Ph.by_, Ph.any, Region.binds] at hp
                          refine ⟨by simp [Gd, valOf, hp], ?_⟩
                          refine mild_val (.agg #[.slice As s.length cs, .int .i64 e]) ?_ rfl
                          have hl := run_loadVar_cells w' ⟨w3.heap.size, 0, none⟩ 112 [.slice As s.length cs, .int .i64 e] (Hbx.out.below Hbx.out.lt hb).cells Try.underlying112 rfl (by kernel_rfl)
                          simp only [execOp, evalF, List.contains_eq_mem, Instr.loadAt, Instr.sureAddr, Sem.run_bind, Sem.run_pure, Result.andThen_ok]
                          simp [hp, hl]
                        · -- 1: slot 103 := Op.call   value (Operand.func 58), args := #[t102], argTypes := #[112]  
                          refine ob_yes fun f w' hb hp => ?_
                          simp [PreOf, factOf, valOf, Ph.is, Ph.by_, Ph.any, Region.binds] at hp
                          refine ⟨by simp [Gd, valOf, hp], ?_⟩
                          refine mild_call 58 _ _ Try.f58 Try.func58 (by kernel_rfl) (by kernel_rfl) rfl ?_
                          simp [evalF, hp, Ph.is, Ph.by_, Ph.any]
                          refine (rend_any w' _ s e w1.heap.size (Hvs.out.below (hb.mono hszw))).mono ?_
                          rintro _ w8 ⟨rfl, h2⟩
                          first | exact ⟨_, rfl, h2, rfl⟩ | exact ⟨rfl, h2⟩ | exact ⟨h2, rfl⟩
                        · -- 2: slot 104 := Op.binOp BinOp.neq 3 t103 (const (0:i64)) 3
                          refine ob_yes fun f w' hb hp => ?_
                          simp [PreOf, factOf, valOf, Ph.is, Ph.by_, Ph.any, Region.binds] at hp
                          refine ⟨by simp [Gd, valOf, hp], ?_⟩
                          refine mild_val (.bool false) ?_ rfl
                          simp [execOp, evalF, hp, go_sem, bst_toList, Hf.out]
                        · -- 3: slot 105 := Op.move t104
                          refine ob_yes fun f w' hb hp => ?_
                          simp [PreOf, factOf, valOf, Ph.is, Ph.by_, Ph.any, Region.binds] at hp
                          refine ⟨by simp [Gd, valOf, hp], ?_⟩
                          refine mild_val (.bool false) ?_ rfl
                          simp [execOp, evalF, hp]
                        · -- 4: slot 106 := Op.move t8
                          refine ob_yes fun f w' hb hp => ?_
                          simp [PreOf, factOf, valOf, Ph.is, Ph.by_, Ph.any, Region.binds] at hp
                          refine ⟨by simp [Gd, valOf, hp], ?_⟩
                          refine mild_val (.slice Ao out.length co) ?_ rfl
                          simp [execOp, evalF, hp]
                        · -- 5: slot 107 := Op.call   builtin len, args := #[t106], argTypes := #[22]  
                          refine ob_yes fun f w' hb hp => ?_
                          simp [PreOf, factOf, valOf, Ph.is, Ph.by_, Ph.any, Region.binds] at hp
                          refine ⟨by simp [Gd, valOf, hp], ?_⟩
                          refine mild_val (.int .i64 (out.length : Int)) ?_ rfl
                          simp [execOp, evalF, hp, go_sem, bst_toList, Hf.out]
                        · -- 6: slot 108 := Op.binOp BinOp.eql 3 t107 (const (0:i64)) 3
                          refine ob_yes fun f w' hb hp => ?_
                          simp [PreOf, factOf, valOf, Ph.is, Ph.by_, Ph.any, Region.binds] at hp
                          refine ⟨by simp [Gd, valOf, hp], ?_⟩
                          refine mild_val (.bool false) ?_ rfl
                          simp [execOp, evalF, hp, go_sem, bst_toList, Hf.out]
                        · -- 7: slot 109 := Op.pick t105 (const (Value.bool true)) t108
                          refine ob_yes fun f w' hb hp => ?_
                          simp [PreOf, factOf, valOf, Ph.is, Ph.by_, Ph.any, Region.binds] at hp
                          refine ⟨by simp [Gd, valOf, hp], ?_⟩
                          refine mild_val (.bool false) ?_ rfl
                          simp [execOp, evalF, hp, go_sem, bst_toList, Hf.out]
                        · -- 8: slot 110 := Op.move t109
                          refine ob_yes fun f w' hb hp => ?_
                          simp [PreOf, factOf, valOf, Ph.is, Ph.by_, Ph.any, Region.binds] at hp
                          refine ⟨by simp [Gd, valOf, hp], ?_⟩
                          refine mild_val (.bool false) ?_ rfl
                          simp [execOp, evalF, hp]
                        · -- 9: slot 111 := Op.move t8
                          refine ob_yes fun f w' hb hp => ?_
                          simp [PreOf, factOf, valOf, Ph.is, Ph.by_, Ph.any, Region.binds] at hp
                          refine ⟨by simp [Gd, valOf, hp], ?_⟩
                          refine mild_val (.slice Ao out.length co) ?_ rfl
                          simp [execOp, evalF, hp]
                        · -- 10: slot 112 := Op.call   value (Operand.func 14), args := #[t111], argTypes := #[22]  
                          refine ob_yes fun f w' hb hp => ?_
                          simp [PreOf, factOf, valOf, Ph.is, Ph.by_, Ph.any, Region.binds] at hp
                          refine ⟨by simp [Gd, valOf, hp], ?_⟩
                          refine mild_call 14 _ _ Try.f14 Try.func14 (by kernel_rfl) (by kernel_rfl) rfl ?_
                          simp [evalF, hp, Ph.is, Ph.by_, Ph.any]
                          refine (rnew_any w' wr.heap.size _ out (by have := Hszo.out; omega) (Hrw.out.below hb)).mono ?_
                          rintro _ _ ⟨rfl, q, rfl⟩
                          first | exact ⟨_, rfl, bdrewN (Below.refl _ _) q, rfl⟩ | exact ⟨rfl, bdrewN (Below.refl _ _) q⟩ | exact ⟨bdrewN (Below.refl _ _) q, rfl⟩
                        · -- 11: slot 113 := Op.binOp BinOp.neq 3 t112 (const (0:i64)) 3
                          refine ob_yes fun f w' hb hp => ?_
                          simp [PreOf, factOf, valOf, Ph.is, Ph.by_, Ph.any, Region.binds] at hp
                          refine ⟨by simp [Gd, valOf, hp], ?_⟩
                          refine mild_val (.bool false) ?_ rfl
                          simp [execOp, evalF, hp, go_sem, bst_toList, Hf.out]
                        · -- 12: slot 114 := Op.pick t110 (const (Value.bool true)) t113
                          refine ob_yes fun f w' hb hp => ?_
                          simp [PreOf, factOf, valOf, Ph.is, Ph.by_, Ph.any, Region.binds] at hp
                          refine ⟨by simp [Gd, valOf, hp], ?_⟩
                          refine mild_val (.bool false) ?_ rfl
                          simp [execOp, evalF, hp, go_sem, bst_toList, Hf.out]
                        · -- 13: slot 115 := Op.move t114
                          refine ob_yes fun f w' hb hp => ?_
                          simp [PreOf, factOf, valOf, Ph.is, Ph.by_, Ph.any, Region.binds] at hp
                          refine ⟨by simp [Gd, valOf, hp], ?_⟩
                          refine mild_val (.bool false) ?_ rfl
                          simp [execOp, evalF, hp]
                        · -- 14: slot 116 := Op.move t8
                          refine ob_yes fun f w' hb hp => ?_
                          simp [PreOf, factOf, valOf, Ph.is, Ph.by_, Ph.any, Region.binds] at hp
                          refine ⟨by simp [Gd, valOf, hp], ?_⟩
                          refine mild_val (.slice Ao out.length co) ?_ rfl
                          simp [execOp, evalF, hp]
                        · -- 15: slot 117 := Op.call   value (Operand.func 16), args := #[t116], argTypes := #[22]  
                          refine ob_yes fun f w' hb hp => ?_
                          simp [PreOf, factOf, valOf, Ph.is, Ph.by_, Ph.any, Region.binds] at hp
                          refine ⟨by simp [Gd, valOf, hp], ?_⟩
                          refine mild_call 16 _ _ Try.f16 Try.func16 (by kernel_rfl) (by kernel_rfl) rfl ?_
                          simp [evalF, hp, Ph.is, Ph.by_, Ph.any]
                          exact (rsput_any w' wr.heap.size (.slice Ao out.length co) out (by have := Hszo.out; omega) (Hrw.out.below hb) hb.size Hn.out).mono fun e w7 ⟨v, h1, h2, h3⟩ => ⟨v, h1, h3, h2.by_⟩
                        · -- 16: slot 118 := Op.convert 25 9 t117
                          refine ob_yes fun f w' hb hp => ?_
                          simp [PreOf, factOf, valOf, Ph.is, Ph.by_, Ph.any, Region.binds] at hp
                          refine ⟨by simp [Gd, valOf, hp], ?_⟩
                          refine mild_val (.string (bst (senc out))) ?_ rfl
                          have hc := conv8 (by first | exact hp | exact hp.1 | exact hp.2 | exact hp.1.1 | exact hp.1.2 | exact hp.2.1 | exact hp.2.2)
                          simp [execOp, evalF, hp, hc]
                        · -- 17: slot 119 := Op.move t0
                          refine ob_yes fun f w' hb hp => ?_
                          simp [PreOf, factOf, valOf, Ph.is, Ph.by_, Ph.any, Region.binds] at hp
                          refine ⟨by simp [Gd, valOf, hp], ?_⟩
                          refine mild_val (.slice A b.length c) ?_ rfl
                          simp [execOp, evalF, hp]
                        · -- 18: slot 120 := Op.convert 25 9 t119
                          refine ob_yes fun f w' hb hp => ?_
                          simp [PreOf, factOf, valOf, Ph.is, Ph.by_, Ph.any, Region.binds] at hp
                          refine ⟨by simp [Gd, valOf, hp], ?_⟩
                          refine mild_val (.string (bst (b))) ?_ rfl
                          have hc := conv8 ((Hbr.out).below hb)
                          simp [execOp, evalF, hp, hc]
                        · -- 19: slot 121 := Op.binOp BinOp.neq 9 t118 t120 9
                          refine ob_yes fun f w' hb hp => ?_
                          simp [PreOf, factOf, valOf, Ph.is, Ph.by_, Ph.any, Region.binds] at hp
                          refine ⟨by simp [Gd, valOf, hp], ?_⟩
                          refine mild_val (.bool false) ?_ rfl
                          simp [execOp, evalF, hp, go_sem, bst_toList, Hf.out]
                        · -- 20: slot 122 := Op.pick t115 (const (Value.bool true)) t121
                          refine ob_yes fun f w' hb hp => ?_
                          simp [PreOf, factOf, valOf, Ph.is, Ph.by_, Ph.any, Region.binds] at hp
                          refine ⟨by simp [Gd, valOf, hp], ?_⟩
                          refine mild_val (.bool false) ?_ rfl
                          simp [execOp, evalF, hp, go_sem, bst_toList, Hf.out]
                      · intro f w2 hb2 hp
                        simp only [PostOf, Ph.is, Ph.by_, Ph.any] at hp
                        obtain ⟨h0, h1, h2, h3, h4, h5, h6, h7, h8, h9, h10, h11, h12, h13, h14, h15, h16, h17, h18, h19, h20, _⟩ := hp
                        simp only [fills, List.foldl_cons, List.foldl_nil, Act.put, List.setIfInBounds_toArray, List.set_cons_zero, List.set_cons_succ, h0, h1, h2, h3, h4, h5, h6, h7, h8, h9, h10, h11, h12, h13, h14, h16, h17, h18, h19, h20]
                        clear h0 h1 h2 h3 h4 h5 h6 h7 h8 h9 h10 h11 h12 h13 h14 h16 h17 h18 h19 h20
                        generalize f 117 = v117 at *
                        have Hrw2 := Lib.hid (Hrw.out.below hb2)
                        have Hz2 := Lib.hid hb2.size
                        have Hb02 := Lib.hid (bstep (bstep Hb01.out Hbl.out) hb2)
                        clear hb2
                        go_wp2_with fail
                        go_ret2
                        obtain ⟨h1, h2⟩ := Hok.out
                        exact ⟨Hb02.out, .inl ⟨h1, _, rfl, by rw [h2]; exact Hrw2.out.mono (fun _ h => Nat.lt_of_lt_of_le h Hz2.out) (fun _ h => Nat.lt_of_lt_of_le h Hz2.out)⟩⟩
                    · have hD1 : ¬ (senc out = b) := hD
                      have Hf : Hid ((endR s e != 0) = false ∧ ((out.length : Int) == 0) = false ∧ endR s e = 0 ∧ ¬ ((out.length : Int) = 0) ∧ newE none out = 0 ∧ ¬ (senc out = b)) := Lib.hid ⟨by simp [hA], by simpa using hB1, hA, hB1, hC, hD1⟩
                      have Hns := Lib.hid (Hbad.out fun h => hD h.2.2.2.2.2.2)
                      clear hB hB1 hC hD hD1
                      refine wp_region_typed [some 102, some 103, some 104, some 105, some 106, some 107, some 108, some 109, some 110, some 111, some 112, some 113, some 114, some 115, some 116, some 117, some 118, some 119, some 120, some 121, some 122] [102, 103, 104, 105, 106, 107, 108, 109, 110, 111, 112, 113, 114, 115, 116, 117, 118, 119, 120, 121, 122]
                        [Ph.is (.agg #[.slice As s.length cs, .int .i64 e]),
                          Ph.is (.int .i64 (endR s e)),
                          Ph.is (.bool false),
                          Ph.is (.bool false),
                          Ph.is (.slice Ao out.length co),
                          Ph.is (.int .i64 (out.length : Int)),
                          Ph.is (.bool false),
                          Ph.is (.bool false),
                          Ph.is (.bool false),
                          Ph.is (.slice Ao out.length co),
                          Ph.is (.int .i64 (newE none out)),
                          Ph.is (.bool false),
                          Ph.is (.bool false),
                          Ph.is (.bool false),
                          Ph.is (.slice Ao out.length co),
                          Ph.by_ (senc out),
                          Ph.is (.string (bst (senc out))),
                          Ph.is (.slice A b.length c),
                          Ph.is (.string (bst (b))),
                          Ph.is (.bool true),
                          Ph.is (.bool true)] rfl rfl (by kernel_rfl) (by kernel_rfl) ?_ ?_
                      · refine ⟨?_, ?_, ?_, ?_, ?_, ?_, ?_, ?_, ?_, ?_, ?_, ?_, ?_, ?_, ?_, ?_, ?_, ?_, ?_, ?_, ?_, trivial⟩
                        · -- 0: slot 102 := Op.load 112 t10
                          refine ob_yes fun f w' hb hp => ?_
                          simp [PreOf, factOf, valOf, Ph.is, Ph.by_, Ph.any, Region.binds] at hp
                          refine ⟨by simp [Gd, valOf, hp], ?_⟩
                          refine mild_val (.agg #[.slice As s.length cs, .int .i64 e]) ?_ rfl
                          have hl := run_loadVar_cells w' ⟨w3.heap.size, 0, none⟩ 112 [.slice As s.length cs, .int .i64 e] (Hbx.out.below Hbx.out.lt hb).cells Try.underlying112 rfl (by kernel_rfl)
                          simp only [execOp, evalF, List.contains_eq_mem, Instr.loadAt, Instr.sureAddr, Sem.run_bind, Sem.run_pure, Result.andThen_ok]
                          simp [hp, hl]
                        · -- 1: slot 103 := Op.call   value (Operand.func 58), args := #[t102], argTypes := #[112]  
                          refine ob_yes fun f w' hb hp => ?_
                          simp [PreOf, factOf, valOf, Ph.is, Ph.by_, Ph.any, Region.binds] at hp
                          refine ⟨by simp [Gd, valOf, hp], ?_⟩
                          refine mild_call 58 _ _ Try.f58 Try.func58 (by kernel_rfl) (by kernel_rfl) rfl ?_
                          simp [evalF, hp, Ph.is, Ph.by_, Ph.any]
                          refine (rend_any w' _ s e w1.heap.size (Hvs.out.below (hb.mono hszw))).mono ?_
                          rintro _ w8 ⟨rfl, h2⟩
                          first | exact ⟨_, rfl, h2, rfl⟩ | exact ⟨rfl, h2⟩ | exact ⟨h2, rfl⟩
                        · -- 2: slot 104 := Op.binOp BinOp.neq 3 t103 (const (0:i64)) 3
                          refine ob_yes fun f w' hb hp => ?_
                          simp [PreOf, factOf, valOf, Ph.is, Ph.by_, Ph.any, Region.binds] at hp
                          refine ⟨by simp [Gd, valOf, hp], ?_⟩
                          refine mild_val (.bool false) ?_ rfl
                          simp [execOp, evalF, hp, go_sem, bst_toList, Hf.out]
                        · -- 3: slot 105 := Op.move t104
                          refine ob_yes fun f w' hb hp => ?_
                          simp [PreOf, factOf, valOf, Ph.is, Ph.by_, Ph.any, Region.binds] at hp
                          refine ⟨by simp [Gd, valOf, hp], ?_⟩
                          refine mild_val (.bool false) ?_ rfl
                          simp [execOp, evalF, hp]
                        · -- 4: slot 106 := Op.move t8
                          refine ob_yes fun f w' hb hp => ?_
                          simp [PreOf, factOf, valOf, Ph.is, Ph.by_, Ph.any, Region.binds] at hp
                          refine ⟨by simp [Gd, valOf, hp], ?_⟩
                          refine mild_val (.slice Ao out.length co) ?_ rfl
                          simp [execOp, evalF, hp]
                        · -- 5: slot 107 := Op.call   builtin len, args := #[t106], argTypes := #[22]  
                          refine ob_yes fun f w' hb hp => ?_
                          simp [PreOf, factOf, valOf, Ph.is, Ph.by_, Ph.any, Region.binds] at hp
                          refine ⟨by simp [Gd, valOf, hp], ?_⟩
                          refine mild_val (.int .i64 (out.length : Int)) ?_ rfl
                          simp [execOp, evalF, hp, go_sem, bst_toList, Hf.out]
                        · -- 6: slot 108 := Op.binOp BinOp.eql 3 t107 (const (0:i64)) 3
                          refine ob_yes fun f w' hb hp => ?_
                          simp [PreOf, factOf, valOf, Ph.is, Ph.by_, Ph.any, Region.binds] at hp
                          refine ⟨by simp [Gd, valOf, hp], ?_⟩
                          refine mild_val (.bool false) ?_ rfl
                          simp [execOp, evalF, hp, go_sem, bst_toList, Hf.out]
                        · -- 7: slot 109 := Op.pick t105 (const (Value.bool true)) t108
                          refine ob_yes fun f w' hb hp => ?_
                          simp [PreOf, factOf, valOf, Ph.is, Ph.by_, Ph.any, Region.binds] at hp
                          refine ⟨by simp [Gd, valOf, hp], ?_⟩
                          refine mild_val (.bool false) ?_ rfl
                          simp [execOp, evalF, hp, go_sem, bst_toList, Hf.out]
                        · -- 8: slot 110 := Op.move t109
                          refine ob_yes fun f w' hb hp => ?_
                          simp [PreOf, factOf, valOf, Ph.is, Ph.by_, Ph.any, Region.binds] at hp
                          refine ⟨by simp [Gd, valOf, hp], ?_⟩
                          refine mild_val (.bool false) ?_ rfl
                          simp [execOp, evalF, hp]
                        · -- 9: slot 111 := Op.move t8
                          refine ob_yes fun f w' hb hp => ?_
                          simp [PreOf, factOf, valOf, Ph.is, Ph.by_, Ph.any, Region.binds] at hp
                          refine ⟨by simp [Gd, valOf, hp], ?_⟩
                          refine mild_val (.slice Ao out.length co) ?_ rfl
                          simp [execOp, evalF, hp]
                        · -- 10: slot 112 := Op.call   value (Operand.func 14), args := #[t111], argTypes := #[22]  
                          refine ob_yes fun f w' hb hp => ?_
                          simp [PreOf, factOf, valOf, Ph.is, Ph.by_, Ph.any, Region.binds] at hp
                          refine ⟨by simp [Gd, valOf, hp], ?_⟩
                          refine mild_call 14 _ _ Try.f14 Try.func14 (by kernel_rfl) (by kernel_rfl) rfl ?_
                          simp [evalF, hp, Ph.is, Ph.by_, Ph.any]
                          refine (rnew_any w' wr.heap.size _ out (by have := Hszo.out; omega) (Hrw.out.below hb)).mono ?_
                          rintro _ _ ⟨rfl, q, rfl⟩
                          first | exact ⟨_, rfl, bdrewN (Below.refl _ _) q, rfl⟩ | exact ⟨rfl, bdrewN (Below.refl _ _) q⟩ | exact ⟨bdrewN (Below.refl _ _) q, rfl⟩
                        · -- 11: slot 113 := Op.binOp BinOp.neq 3 t112 (const (0:i64)) 3
                          refine ob_yes fun f w' hb hp => ?_
                          simp [PreOf, factOf, valOf, Ph.is, Ph.by_, Ph.any, Region.binds] at hp
                          refine ⟨by simp [Gd, valOf, hp], ?_⟩
                          refine mild_val (.bool false) ?_ rfl
                          simp [execOp, evalF, hp, go_sem, bst_toList, Hf.out]
                        · -- 12: slot 114 := Op.pick t110 (const (Value.bool true)) t113
                          refine ob_yes fun f w' hb hp => ?_
                          simp [PreOf, factOf, valOf, Ph.is, Ph.by_, Ph.any, Region.binds] at hp
                          refine ⟨by simp [Gd, valOf, hp], ?_⟩
                          refine mild_val (.bool false) ?_ rfl
                          simp [execOp, evalF, hp, go_sem, bst_toList, Hf.out]
                        · -- 13: slot 115 := Op.move t114
                          refine ob_yes fun f w' hb hp => ?_
                          simp [PreOf, factOf, valOf, Ph.is, Ph.by_, Ph.any, Region.binds] at hp
                          refine ⟨by simp [Gd, valOf, hp], ?_⟩
                          refine mild_val (.bool false) ?_ rfl
                          simp [execOp, evalF, hp]
                        · -- 14: slot 116 := Op.move t8
                          refine ob_yes fun f w' hb hp => ?_
                          simp [PreOf, factOf, valOf, Ph.is, Ph.by_, Ph.any, Region.binds] at hp
                          refine ⟨by simp [Gd, valOf, hp], ?_⟩
                          refine mild_val (.slice Ao out.length co) ?_ rfl
                          simp [execOp, evalF, hp]
                        · -- 15: slot 117 := Op.call   value (Operand.func 16), args := #[t116], argTypes := #[22]  
                          refine ob_yes fun f w' hb hp => ?_
                          simp [PreOf, factOf, valOf, Ph.is, Ph.by_, Ph.any, Region.binds] at hp
                          refine ⟨by simp [Gd, valOf, hp], ?_⟩
                          refine mild_call 16 _ _ Try.f16 Try.func16 (by kernel_rfl) (by kernel_rfl) rfl ?_
                          simp [evalF, hp, Ph.is, Ph.by_, Ph.any]
                          exact (rsput_any w' wr.heap.size (.slice Ao out.length co) out (by have := Hszo.out; omega) (Hrw.out.below hb) hb.size Hn.out).mono fun e w7 ⟨v, h1, h2, h3⟩ => ⟨v, h1, h3, h2.by_⟩
                        · -- 16: slot 118 := Op.convert 25 9 t117
                          refine ob_yes fun f w' hb hp => ?_
                          simp [PreOf, factOf, valOf, Ph.is, Ph.by_, Ph.any, Region.binds] at hp
                          refine ⟨by simp [Gd, valOf, hp], ?_⟩
                          refine mild_val (.string (bst (senc out))) ?_ rfl
                          have hc := conv8 (by first | exact hp | exact hp.1 | exact hp.2 | exact hp.1.1 | exact hp.1.2 | exact hp.2.1 | exact hp.2.2)
                          simp [execOp, evalF, hp, hc]
                        · -- 17: slot 119 := Op.move t0
                          refine ob_yes fun f w' hb hp => ?_
                          simp [PreOf, factOf, valOf, Ph.is, Ph.by_, Ph.any, Region.binds] at hp
                          refine ⟨by simp [Gd, valOf, hp], ?_⟩
                          refine mild_val (.slice A b.length c) ?_ rfl
                          simp [execOp, evalF, hp]
                        · -- 18: slot 120 := Op.convert 25 9 t119
                          refine ob_yes fun f w' hb hp => ?_
                          simp [PreOf, factOf, valOf, Ph.is, Ph.by_, Ph.any, Region.binds] at hp
                          refine ⟨by simp [Gd, valOf, hp], ?_⟩
                          refine mild_val (.string (bst (b))) ?_ rfl
                          have hc := conv8 ((Hbr.out).below hb)
                          simp [execOp, evalF, hp, hc]
                        · -- 19: slot 121 := Op.binOp BinOp.neq 9 t118 t120 9
                          refine ob_yes fun f w' hb hp => ?_
                          simp [PreOf, factOf, valOf, Ph.is, Ph.by_, Ph.any, Region.binds] at hp
                          refine ⟨by simp [Gd, valOf, hp], ?_⟩
                          refine mild_val (.bool true) ?_ rfl
                          simp [execOp, evalF, hp, go_sem, bst_toList, Hf.out]
                        · -- 20: slot 122 := Op.pick t115 (const (Value.bool true)) t121
                          refine ob_yes fun f w' hb hp => ?_
                          simp [PreOf, factOf, valOf, Ph.is, Ph.by_, Ph.any, Region.binds] at hp
                          refine ⟨by simp [Gd, valOf, hp], ?_⟩
                          refine mild_val (.bool true) ?_ rfl
                          simp [execOp, evalF, hp, go_sem, bst_toList, Hf.out]
                      · intro f w2 hb2 hp
                        simp only [PostOf, Ph.is, Ph.by_, Ph.any] at hp
                        obtain ⟨h0, h1, h2, h3, h4, h5, h6, h7, h8, h9, h10, h11, h12, h13, h14, h15, h16, h17, h18, h19, h20, _⟩ := hp
                        simp only [fills, List.foldl_cons, List.foldl_nil, Act.put, List.setIfInBounds_toArray, List.set_cons_zero, List.set_cons_succ, h0, h1, h2, h3, h4, h5, h6, h7, h8, h9, h10, h11, h12, h13, h14, h16, h17, h18, h19, h20]
                        clear h0 h1 h2 h3 h4 h5 h6 h7 h8 h9 h10 h11 h12 h13 h14 h16 h17 h18 h19 h20
                        generalize f 117 = v117 at *
                        have Hb02 := Lib.hid (bstep (bstep Hb01.out Hbl.out) hb2)
                        clear hb2
                        go_wp2_with fail
                        go_ret2
                        exact ⟨Hb02.out, .inr ⟨Hns.out, _, rfl⟩⟩
                  · have Hf : Hid ((endR s e != 0) = false ∧ ((out.length : Int) == 0) = false ∧ endR s e = 0 ∧ ¬ ((out.length : Int) = 0) ∧ ¬ (newE none out = 0) ∧ (newE none out == 0) = false) := Lib.hid ⟨by simp [hA], by simpa using hB1, hA, hB1, hC, by simpa using hC⟩
                    have Hns := Lib.hid (Hbad.out fun h => hC h.2.2.2.2.2.1)
                    clear hB hB1 hC
                    refine wp_region_typed [some 102, some 103, some 104, some 105, some 106, some 107, some 108, some 109, some 110, some 111, some 112, some 113, some 114, some 115, some 116, some 117, some 118, some 119, some 120, some 121, some 122] [102, 103, 104, 105, 106, 107, 108, 109, 110, 111, 112, 113, 114, 115, 116, 117, 118, 119, 120, 121, 122]
                      [Ph.is (.agg #[.slice As s.length cs, .int .i64 e]),
                        Ph.is (.int .i64 (endR s e)),
                        Ph.is (.bool false),
                        Ph.is (.bool false),
                        Ph.is (.slice Ao out.length co),
                        Ph.is (.int .i64 (out.length : Int)),
                        Ph.is (.bool false),
                        Ph.is (.bool false),
                        Ph.is (.bool false),
                        Ph.is (.slice Ao out.length co),
                        Ph.is (.int .i64 (newE none out)),
                        Ph.is (.bool true),
                        Ph.is (.bool true),
                        Ph.is (.bool true),
                        Ph.is undef,
                        Ph.is undef,
                        Ph.is undef,
                        Ph.is undef,
                        Ph.is undef,
                        Ph.is undef,
                        Ph.is (.bool true)] rfl rfl (by kernel_rfl) (by kernel_rfl) ?_ ?_
                    · refine ⟨?_, ?_, ?_, ?_, ?_, ?_, ?_, ?_, ?_, ?_, ?_, ?_, ?_, ?_, ?_, ?_, ?_, ?_, ?_, ?_, ?_, trivial⟩
                      · -- 0: slot 102 := Op.load 112 t10
                        refine ob_yes fun f w' hb hp => ?_
                        simp [PreOf, factOf, valOf, Ph.is, Ph.by_, Ph.any, Region.binds] at hp
                        refine ⟨by simp [Gd, valOf, hp], ?_⟩
                        refine mild_val (.agg #[.slice As s.length cs, .int .i64 e]) ?_ rfl
                        have hl := run_loadVar_cells w' ⟨w3.heap.size, 0, none⟩ 112 [.slice As s.length cs, .int .i64 e] (Hbx.out.below Hbx.out.lt hb).cells Try.underlying112 rfl (by kernel_rfl)
                        simp only [execOp, evalF, List.contains_eq_mem, Instr.loadAt, Instr.sureAddr, Sem.run_bind, Sem.run_pure, Result.andThen_ok]
                        simp [hp, hl]
                      · -- 1: slot 103 := Op.call   value (Operand.func 58), args := #[t102], argTypes := #[112]  
                        refine ob_yes fun f w' hb hp => ?_
                        simp [PreOf, factOf, valOf, Ph.is, Ph.by_, Ph.any, Region.binds] at hp
                        refine ⟨by simp [Gd, valOf, hp], ?_⟩
                        refine mild_call 58 _ _ Try.f58 Try.func58 (by kernel_rfl) (by kernel_rfl) rfl ?_
                        simp [evalF, hp, Ph.is, Ph.by_, Ph.any]
                        refine (rend_any w' _ s e w1.heap.size (Hvs.out.below (hb.mono hszw))).mono ?_
                        rintro _ w8 ⟨rfl, h2⟩
                        first | exact ⟨_, rfl, h2, rfl⟩ | exact ⟨rfl, h2⟩ | exact ⟨h2, rfl⟩
                      · -- 2: slot 104 := Op.binOp BinOp.neq 3 t103 (const (0:i64)) 3
                        refine ob_yes fun f w' hb hp => ?_
                        simp [PreOf, factOf, valOf, Ph.is, Ph.by_, Ph.any, Region.binds] at hp
                        refine ⟨by simp [Gd, valOf, hp], ?_⟩
                        refine mild_val (.bool false) ?_ rfl
                        simp [execOp, evalF, hp, go_sem, bst_toList, Hf.out]
                      · -- 3: slot 105 := Op.move t104
                        refine ob_yes fun f w' hb hp => ?_
                        simp [PreOf, factOf, valOf, Ph.is, Ph.by_, Ph.any, Region.binds] at hp
                        refine ⟨by simp [Gd, valOf, hp], ?_⟩
                        refine mild_val (.bool false) ?_ rfl
                        simp [execOp, evalF, hp]
                      · -- 4: slot 106 := Op.move t8
                        refine ob_yes fun f w' hb hp => ?_
                        simp [PreOf, factOf, valOf, Ph.is, Ph.by_, Ph.any, Region.binds] at hp
                        refine ⟨by simp [Gd, valOf, hp], ?_⟩
                        refine mild_val (.slice Ao out.length co) ?_ rfl
                        simp [execOp, evalF, hp]
                      · -- 5: slot 107 := Op.call   builtin len, args := #[t106], argTypes := #[22]  
                        refine ob_yes fun f w' hb hp => ?_
                        simp [PreOf, factOf, valOf, Ph.is, Ph.by_, Ph.any, Region.binds] at hp
                        refine ⟨by simp [Gd, valOf, hp], ?_⟩
                        refine mild_val (.int .i64 (out.length : Int)) ?_ rfl
                        simp [execOp, evalF, hp, go_sem, bst_toList, Hf.out]
                      · -- 6: slot 108 := Op.binOp BinOp.eql 3 t107 (const (0:i64)) 3
                        refine ob_yes fun f w' hb hp => ?_
                        simp [PreOf, factOf, valOf, Ph.is, Ph.by_, Ph.any, Region.binds] at hp
                        refine ⟨by simp [Gd, valOf, hp], ?_⟩
                        refine mild_val (.bool false) ?_ rfl
                        simp [execOp, evalF, hp, go_sem, bst_toList, Hf.out]
                      · -- 7: slot 109 := Op.pick t105 (const (Value.bool true)) t108
                        refine ob_yes fun f w' hb hp => ?_
                        simp [PreOf, factOf, valOf, Ph.is, Ph.by_, Ph.any, Region.binds] at hp
                        refine ⟨by simp [Gd, valOf, hp], ?_⟩
                        refine mild_val (.bool false) ?_ rfl
                        simp [execOp, evalF, hp, go_sem, bst_toList, Hf.out]
                      · -- 8: slot 110 := Op.move t109
                        refine ob_yes fun f w' hb hp => ?_
                        simp [PreOf, factOf, valOf, Ph.is, Ph.by_, Ph.any, Region.binds] at hp
                        refine ⟨by simp [Gd, valOf, hp], ?_⟩
                        refine mild_val (.bool false) ?_ rfl
                        simp [execOp, evalF, hp]
                      · -- 9: slot 111 := Op.move t8
                        refine ob_yes fun f w' hb hp => ?_
                        simp [PreOf, factOf, valOf, Ph.is, Ph.by_, Ph.any, Region.binds] at hp
                        refine ⟨by simp [Gd, valOf, hp], ?_⟩
                        refine mild_val (.slice Ao out.length co) ?_ rfl
                        simp [execOp, evalF, hp]
                      · -- 10: slot 112 := Op.call   value (Operand.func 14), args := #[t111], argTypes := #[22]  
                        refine ob_yes fun f w' hb hp => ?_
                        simp [PreOf, factOf, valOf, Ph.is, Ph.by_, Ph.any, Region.binds] at hp
                        refine ⟨by simp [Gd, valOf, hp], ?_⟩
                        refine mild_call 14 _ _ Try.f14 Try.func14 (by kernel_rfl) (by kernel_rfl) rfl ?_
                        simp [evalF, hp, Ph.is, Ph.by_, Ph.any]
                        refine (rnew_any w' wr.heap.size _ out (by have := Hszo.out; omega) (Hrw.out.below hb)).mono ?_
                        rintro _ _ ⟨rfl, q, rfl⟩
                        first | exact ⟨_, rfl, bdrewN (Below.refl _ _) q, rfl⟩ | exact ⟨rfl, bdrewN (Below.refl _ _) q⟩ | exact ⟨bdrewN (Below.refl _ _) q, rfl⟩
                      · -- 11: slot 113 := Op.binOp BinOp.neq 3 t112 (const (0:i64)) 3
                        refine ob_yes fun f w' hb hp => ?_
                        simp [PreOf, factOf, valOf, Ph.is, Ph.by_, Ph.any, Region.binds] at hp
                        refine ⟨by simp [Gd, valOf, hp], ?_⟩
                        refine mild_val (.bool true) ?_ rfl
                        simp [execOp, evalF, hp, go_sem, bst_toList, Hf.out]
                      · -- 12: slot 114 := Op.pick t110 (const (Value.bool true)) t113
                        refine ob_yes fun f w' hb hp => ?_
                        simp [PreOf, factOf, valOf, Ph.is, Ph.by_, Ph.any, Region.binds] at hp
                        refine ⟨by simp [Gd, valOf, hp], ?_⟩
                        refine mild_val (.bool true) ?_ rfl
                        simp [execOp, evalF, hp, go_sem, bst_toList, Hf.out]
                      · -- 13: slot 115 := Op.move t114
                        refine ob_yes fun f w' hb hp => ?_
                        simp [PreOf, factOf, valOf, Ph.is, Ph.by_, Ph.any, Region.binds] at hp
                        refine ⟨by simp [Gd, valOf, hp], ?_⟩
                        refine mild_val (.bool true) ?_ rfl
                        simp [execOp, evalF, hp]
                      · -- 14: slot 116 := Op.move t8
                        refine ob_no fun f w' hb hp => ?_
                        simp [PreOf, factOf, valOf, Ph.is, Ph.by_, Ph.any, Region.binds] at hp
                        exact ⟨by simp [Gd, valOf, hp], rfl⟩
                      · -- 15: slot 117 := Op.call   value (Operand.func 16), args := #[t116], argTypes := #[22]  
                        refine ob_no fun f w' hb hp => ?_
                        simp [PreOf, factOf, valOf, Ph.is, Ph.by_, Ph.any, Region.binds] at hp
                        exact ⟨by simp [Gd, valOf, hp], rfl⟩
                      · -- 16: slot 118 := Op.convert 25 9 t117
                        refine ob_no fun f w' hb hp => ?_
                        simp [PreOf, factOf, valOf, Ph.is, Ph.by_, Ph.any, Region.binds] at hp
                        exact ⟨by simp [Gd, valOf, hp], rfl⟩
                      · -- 17: slot 119 := Op.move t0
                        refine ob_no fun f w' hb hp => ?_
                        simp [PreOf, factOf, valOf, Ph.is, Ph.by_, Ph.any, Region.binds] at hp
                        exact ⟨by simp [Gd, valOf, hp], rfl⟩
                      · -- 18: slot 120 := Op.convert 25 9 t119
                        refine ob_no fun f w' hb hp => ?_
                        simp [PreOf, factOf, valOf, Ph.is, Ph.by_, Ph.any, Region.binds] at hp
                        exact ⟨by simp [Gd, valOf, hp], rfl⟩
                      · -- 19: slot 121 := Op.binOp BinOp.neq 9 t118 t120 9
                        refine ob_no fun f w' hb hp => ?_
                        simp [PreOf, factOf, valOf, Ph.is, Ph.by_, Ph.any, Region.binds] at hp
                        exact ⟨by simp [Gd, valOf, hp], rfl⟩
                      · -- 20: slot 122 := Op.pick t115 (const (Value.bool true)) t121
                        refine ob_yes fun f w' hb hp => ?_
                        simp [PreOf, factOf, valOf, Ph.is, Ph.by_, Ph.any, Region.binds] at hp
                        refine ⟨by simp [Gd, valOf, hp], ?_⟩
                        refine mild_val (.bool true) ?_ rfl
                        simp [execOp, evalF, hp, go_sem, bst_toList, Hf.out]
                    · intro f w2 hb2 hp
                      simp only [PostOf, Ph.is, Ph.by_, Ph.any] at hp
                      obtain ⟨h0, h1, h2, h3, h4, h5, h6, h7, h8, h9, h10, h11, h12, h13, h14, h15, h16, h17, h18, h19, h20, _⟩ := hp
                      simp only [fills, List.foldl_cons, List.foldl_nil, Act.put, List.setIfInBounds_toArray, List.set_cons_zero, List.set_cons_succ, h0, h1, h2, h3, h4, h5, h6, h7, h8, h9, h10, h11, h12, h13, h14, h15, h16, h17, h18, h19, h20]
                      clear h0 h1 h2 h3 h4 h5 h6 h7 h8 h9 h10 h11 h12 h13 h14 h15 h16 h17 h18 h19 h20
                      have Hb02 := Lib.hid (bstep (bstep Hb01.out Hbl.out) hb2)
                      clear hb2
                      go_wp2_with fail
                      go_ret2
                      exact ⟨Hb02.out, .inr ⟨Hns.out, _, rfl⟩⟩
              · have Hf : Hid ((endR s e != 0) = true ∧ (endR s e == 0) = false ∧ ¬ (endR s e = 0)) := Lib.hid ⟨by simp [hA], by simp [hA], hA⟩
                have Hns := Lib.hid (Hbad.out fun h => by
                  obtain ⟨_, _, _, ⟨s', e', h4, h5⟩, _⟩ := h
                  rw [Hend.out] at h4
                  injection h4 with h4
                  injection h4 with _ h4
                  injection h4 with h4 h6
                  subst h4 h6
                  exact hA h5)
                clear hA
                refine wp_region_typed [some 102, some 103, some 104, some 105, some 106, some 107, some 108, some 109, some 110, some 111, some 112, some 113, some 114, some 115, some 116, some 117, some 118, some 119, some 120, some 121, some 122] [102, 103, 104, 105, 106, 107, 108, 109, 110, 111, 112, 113, 114, 115, 116, 117, 118, 119, 120, 121, 122]
                  [Ph.is (.agg #[.slice As s.length cs, .int .i64 e]),
                    Ph.is (.int .i64 (endR s e)),
                    Ph.is (.bool true),
                    Ph.is (.bool true),
                    Ph.is undef,
                    Ph.is undef,
                    Ph.is undef,
                    Ph.is (.bool true),
                    Ph.is (.bool true),
                    Ph.is undef,
                    Ph.is undef,
                    Ph.is undef,
                    Ph.is (.bool true),
                    Ph.is (.bool true),
                    Ph.is undef,
                    Ph.is undef,
                    Ph.is undef,
                    Ph.is undef,
                    Ph.is undef,
                    Ph.is undef,
                    Ph.is (.bool true)] rfl rfl (by kernel_rfl) (by kernel_rfl) ?_ ?_
                · refine ⟨?_, ?_, ?_, ?_, ?_, ?_, ?_, ?_, ?_, ?_, ?_, ?_, ?_, ?_, ?_, ?_, ?_, ?_, ?_, ?_, ?_, trivial⟩
                  · -- 0: slot 102 := Op.load 112 t10
                    refine ob_yes fun f w' hb hp => ?_
                    simp [PreOf, factOf, valOf, Ph.is, Ph.by_, Ph.any, Region.binds] at hp
                    refine ⟨by simp [Gd, valOf, hp], ?_⟩
                    refine mild_val (.agg #[.slice As s.length cs, .int .i64 e]) ?_ rfl
                    have hl := run_loadVar_cells w' ⟨w3.heap.size, 0, none⟩ 112 [.slice As s.length cs, .int .i64 e] (Hbx.out.below Hbx.out.lt hb).cells Try.underlying112 rfl (by kernel_rfl)
                    simp only [execOp, evalF, List.contains_eq_mem, Instr.loadAt, Instr.sureAddr, Sem.run_bind, Sem.run_pure, Result.andThen_ok]
                    simp [hp, hl]
                  · -- 1: slot 103 := Op.call   value (Operand.func 58), args := #[t102], argTypes := #[112]  
                    refine ob_yes fun f w' hb hp => ?_
                    simp [PreOf, factOf, valOf, Ph.is, Ph.by_, Ph.any, Region.binds] at hp
                    refine ⟨by simp [Gd, valOf, hp], ?_⟩
                    refine mild_call 58 _ _ Try.f58 Try.func58 (by kernel_rfl) (by kernel_rfl) rfl ?_
                    simp [evalF, hp, Ph.is, Ph.by_, Ph.any]
                    refine (rend_any w' _ s e w1.heap.size (Hvs.out.below (hb.mono hszw))).mono ?_
                    rintro _ w8 ⟨rfl, h2⟩
                    first | exact ⟨_, rfl, h2, rfl⟩ | exact ⟨rfl, h2⟩ | exact ⟨h2, rfl⟩
                  · -- 2: slot 104 := Op.binOp BinOp.neq 3 t103 (const (0:i64)) 3
                    refine ob_yes fun f w' hb hp => ?_
                    simp [PreOf, factOf, valOf, Ph.is, Ph.by_, Ph.any, Region.binds] at hp
                    refine ⟨by simp [Gd, valOf, hp], ?_⟩
                    refine mild_val (.bool true) ?_ rfl
                    simp [execOp, evalF, hp, go_sem, bst_toList, Hf.out]
                  · -- 3: slot 105 := Op.move t104
                    refine ob_yes fun f w' hb hp => ?_
                    simp [PreOf, factOf, valOf, Ph.is, Ph.by_, Ph.any, Region.binds] at hp
                    refine ⟨by simp [Gd, valOf, hp], ?_⟩
                    refine mild_val (.bool true) ?_ rfl
                    simp [execOp, evalF, hp]
                  · -- 4: slot 106 := Op.move t8
                    refine ob_no fun f w' hb hp => ?_
                    simp [PreOf, factOf, valOf, Ph.is, Ph.by_, Ph.any, Region.binds] at hp
                    exact ⟨by simp [Gd, valOf, hp], rfl⟩
                  · -- 5: slot 107 := Op.call   builtin len, args := #[t106], argTypes := #[22]  
                    refine ob_no fun f w' hb hp => ?_
                    simp [PreOf, factOf, valOf, Ph.is, Ph.by_, Ph.any, Region.binds] at hp
                    exact ⟨by simp [Gd, valOf, hp], rfl⟩
                  · -- 6: slot 108 := Op.binOp BinOp.eql 3 t107 (const (0:i64)) 3
                    refine ob_no fun f w' hb hp => ?_
                    simp [PreOf, factOf, valOf, Ph.is, Ph.by_, Ph.any, Region.binds] at hp
                    exact ⟨by simp [Gd, valOf, hp], rfl⟩
                  · -- 7: slot 109 := Op.pick t105 (const (Value.bool true)) t108
                    refine ob_yes fun f w' hb hp => ?_
                    simp [PreOf, factOf, valOf, Ph.is, Ph.by_, Ph.any, Region.binds] at hp
                    refine ⟨by simp [Gd, valOf, hp], ?_⟩
                    refine mild_val (.bool true) ?_ rfl
                    simp [execOp, evalF, hp, go_sem, bst_toList, Hf.out]
                  · -- 8: slot 110 := Op.move t109
                    refine ob_yes fun f w' hb hp => ?_
                    simp [PreOf, factOf, valOf, Ph.is, Ph.by_, Ph.any, Region.binds] at hp
                    refine ⟨by simp [Gd, valOf, hp], ?_⟩
                    refine mild_val (.bool true) ?_ rfl
                    simp [execOp, evalF, hp]
                  · -- 9: slot 111 := Op.move t8
                    refine ob_no fun f w' hb hp => ?_
                    simp [PreOf, factOf, valOf, Ph.is, Ph.by_, Ph.any, Region.binds] at hp
                    exact ⟨by simp [Gd, valOf, hp], rfl⟩
                  · -- 10: slot 112 := Op.call   value (Operand.func 14), args := #[t111], argTypes := #[22]  
                    refine ob_no fun f w' hb hp => ?_
                    simp [PreOf, factOf, valOf, Ph.is, Ph.by_, Ph.any, Region.binds] at hp
                    exact ⟨by simp [Gd, valOf, hp], rfl⟩
                  · -- 11: slot 113 := Op.binOp BinOp.neq 3 t112 (const (0:i64)) 3
                    refine ob_no fun f w' hb hp => ?_
                    simp [PreOf, factOf, valOf, Ph.is, Ph.by_, Ph.any, Region.binds] at hp
                    exact ⟨by simp [Gd, valOf, hp], rfl⟩
                  · -- 12: slot 114 := Op.pick t110 (const (Value.bool true)) t113
                    refine ob_yes fun f w' hb hp => ?_
                    simp [PreOf, factOf, valOf, Ph.is, Ph.by_, Ph.any, Region.binds] at hp
                    refine ⟨by simp [Gd, valOf, hp], ?_⟩
                    refine mild_val (.bool true) ?_ rfl
                    simp [execOp, evalF, hp, go_sem, bst_toList, Hf.out]
                  · -- 13: slot 115 := Op.move t114
                    refine ob_yes fun f w' hb hp => ?_
                    simp [PreOf, factOf, valOf, Ph.is, Ph.by_, Ph.any, Region.binds] at hp
                    refine ⟨by simp [Gd, valOf, hp], ?_⟩
                    refine mild_val (.bool true) ?_ rfl
                    simp [execOp, evalF, hp]
                  · -- 14: slot 116 := Op.move t8
                    refine ob_no fun f w' hb hp => ?_
                    simp [PreOf, factOf, valOf, Ph.is, Ph.by_, Ph.any, Region.binds] at hp
                    exact ⟨by simp [Gd, valOf, hp], rfl⟩
                  · -- 15: slot 117 := Op.call   value (Operand.func 16), args := #[t116], argTypes := #[22]  
                    refine ob_no fun f w' hb hp => ?_
                    simp [PreOf, factOf, valOf, Ph.is, Ph.by_, Ph.any, Region.binds] at hp
                    exact ⟨by simp [Gd, valOf, hp], rfl⟩
                  · -- 16: slot 118 := Op.convert 25 9 t117
                    refine ob_no fun f w' hb hp => ?_
                    simp [PreOf, factOf, valOf, Ph.is, Ph.by_, Ph.any, Region.binds] at hp
                    exact ⟨by simp [Gd, valOf, hp], rfl⟩
                  · -- 17: slot 119 := Op.move t0
                    refine ob_no fun f w' hb hp => ?_
                    simp [PreOf, factOf, valOf, Ph.is, Ph.by_, Ph.any, Region.binds] at hp
                    exact ⟨by simp [Gd, valOf, hp], rfl⟩
                  · -- 18: slot 120 := Op.convert 25 9 t119
                    refine ob_no fun f w' hb hp => ?_
                    simp [PreOf, factOf, valOf, Ph.is, Ph.by_, Ph.any, Region.binds] at hp
                    exact ⟨by simp [Gd, valOf, hp], rfl⟩
                  · -- 19: slot 121 := Op.binOp BinOp.neq 9 t118 t120 9
                    refine ob_no fun f w' hb hp => ?_
                    simp [PreOf, factOf, valOf, Ph.is, Ph.by_, Ph.any, Region.binds] at hp
                    exact ⟨by simp [Gd, valOf, hp], rfl⟩
                  · -- 20: slot 122 := Op.pick t115 (const (Value.bool true)) t121
                    refine ob_yes fun f w' hb hp => ?_
                    simp [PreOf, factOf, valOf, Ph.is, Ph.by_, Ph.any, Region.binds] at hp
                    refine ⟨by simp [Gd, valOf, hp], ?_⟩
                    refine mild_val (.bool true) ?_ rfl
                    simp [execOp, evalF, hp, go_sem, bst_toList, Hf.out]
                · intro f w2 hb2 hp
                  simp only [PostOf, Ph.is, Ph.by_, Ph.any] at hp
                  obtain ⟨h0, h1, h2, h3, h4, h5, h6, h7, h8, h9, h10, h11, h12, h13, h14, h15, h16, h17, h18, h19, h20, _⟩ := hp
                  simp only [fills, List.foldl_cons, List.foldl_nil, Act.put, List.setIfInBounds_toArray, List.set_cons_zero, List.set_cons_succ, h0, h1, h2, h3, h4, h5, h6, h7, h8, h9, h10, h11, h12, h13, h14, h15, h16, h17, h18, h19, h20]
                  clear h0 h1 h2 h3 h4 h5 h6 h7 h8 h9 h10 h11 h12 h13 h14 h15 h16 h17 h18 h19 h20
                  have Hb02 := Lib.hid (bstep (bstep Hb01.out Hbl.out) hb2)
                  clear hb2
                  go_wp2_with fail
                  go_ret2
                  exact ⟨Hb02.out, .inr ⟨Hns.out, _, rfl⟩⟩
      · have hK1 : ((sK b).toNat : Int) ≠ 83 := fun e => hK (UInt8.toNat_inj.1 (by show (sK b).toNat = 83; omega))
        have hK2 : (((sK b).toNat : Int) == 83) = false := beq_eq_false_iff_ne.2 hK1
        have Hns := Lib.hid (Hbad.out (.inr (.inr hK)))
        rw [hN]
        clear hN0 hE hN hK hK1
        generalize (sK b).toNat = K at *
        go_wp2_with fail
        go_ret2
        exact ⟨bstep Hb01.out (balloc _ _), .inr ⟨Hns.out, _, rfl⟩⟩
    · have hN1 : ((sN b : Int) == (b.length : Int)) = false := beq_eq_false_iff_ne.2 (by omega)
      have hN2 : (sN b == b.length) = false := beq_eq_false_iff_ne.2 hN
      have Hns := Lib.hid (Hbad.out (.inr (.inl hN)))
      clear hN0 hE hN
      generalize sN b = N at *
      go_wp2_with fail
      go_ret2
      exact ⟨bstep Hb01.out (balloc _ _), .inr ⟨Hns.out, _, rfl⟩⟩
  · have hE1 : (sE b == 0) = false := beq_eq_false_iff_ne.2 hE
    have hE2 : (sE b != 0) = true := bne_iff_ne.2 hE
    have Hns := Lib.hid (Hbad.out (.inl hE))
    generalize sE b = E at *
    clear hE
    go_wp2_with fail
    go_ret2
    exact ⟨bstep Hb01.out (balloc _ _), .inr ⟨Hns.out, _, rfl⟩⟩
end Go.Proofs.Ythfnikdapknohaa

namespace Go.Proofs.Ythfnikdapknohaa.shardReads
open Go.Proofs.Ythfnikdapknohaa
open Go.ChangeShapes Go.WideShapes Go.ChangeAt Go.RowKit
set_option linter.unusedVariables false
set_option linter.unusedSimpArgs false

theorem own : ownKnob Try.prog.godebug = none := by kernel_rfl
theorem laidOut : laidOutB Try.prog = true := by kernel_rfl

set_option maxRecDepth 100000 in
set_option maxHeartbeats 4000000 in
theorem walk (v0 : Value) (w : World) (h0 : InC w 25 [v0]) :
    Calls Try.prog 4 #[v0] w fun e w' => e = .returned (.bool true) ∧ Below w.heap.size w w' := by
  obtain ⟨b, hr⟩ := h0.bytes
  clear h0
  obtain ⟨A, c, rfl, hc1, hc2, _⟩ := id hr
  unfold maxLen at hc2
  by_cases hl : b.length ≤ 2000
  · have hd1 : decide ((2000 : Int) < (b.length : Int)) = false := decide_eq_false (by omega)
    have hd2 : decide (2000 < b.length) = false := decide_eq_false (by omega)
    have hget := shget_any w (.slice A b.length c) b hr (by omega) (by have := plines_len b; omega)
    have Hget := Lib.hid hget
    have H := Lib.hid hr
    clear hget hr
    go_enter Try.func4, Try.ntmps4
    go_wp2_with fail
    refine Hget.out.mono ?_
    rintro _ w3 ⟨hb3, hs3⟩
    have hrg := rsget_any w3 (.slice A b.length c) b (H.out.step hb3) (by omega)
    have Hrg := Lib.hid hrg
    have Hb3 := Lib.hid hb3
    clear hrg hb3 Hget
    rcases hs3 with ⟨hi, g, rfl, hg, hlines⟩ | ⟨hi, rfl⟩
    · have Hl3 := Lib.hid hlines
      have Hi := Lib.hid hi
      clear hlines hi
      go_wp2_with fail
      refine Hrg.out.mono ?_
      rintro _ w4 ⟨hb4, hs4⟩
      have hlr := lrows_any w4 w3.heap.size g (plines b) (Hl3.out.below hb4) hb4.size (by have := plines_len b; omega)
      rcases hs4 with ⟨_, vo, rfl, hvo⟩ | ⟨hn, _⟩
      · have Hlr := Lib.hid hlr
        have Hb4 := Lib.hid (bstep Hb3.out hb4)
        have Hvo := Lib.hid hvo
        clear hlr hb4 hvo Hrg
        go_wp2_with (first
          | (go_at_call 19
             refine Hlr.out.mono ?_
             rintro _ w5 ⟨v5, rfl, hv5, hb5⟩
             have Hv5 := Lib.hid hv5.byR
             have Hb5 := Lib.hid hb5
             clear hv5 hb5)
          | (go_at_call 18
             refine (rsame_any _ _ _ _ _ _ _ Hv5.out (Hvo.out.below Hb5.out)).mono ?_
             rintro _ _ ⟨rfl, q, rfl⟩
             rw [decide_eq_true rfl])
          | (go_at_call 12
             refine (awake23 _).mono ?_
             rintro _ w7 ⟨rfl, hb7⟩))
        go_ret
        exact ⟨rfl, bstep (bdrewN (bstep Hb4.out Hb5.out) _) hb7⟩
      · exact absurd Hi.out hn
    · have Hi := Lib.hid hi
      clear hi
      go_wp2_with fail
      refine Hrg.out.mono ?_
      rintro _ w4 ⟨hb4, hs4⟩
      rcases hs4 with ⟨hn, _⟩ | ⟨_, vo, rfl⟩
      · exact absurd hn Hi.out
      · have Hb4 := Lib.hid (bstep Hb3.out hb4)
        clear hb4 Hrg
        go_wp2_with (go_at_call 12
                     refine (awake23 _).mono ?_
                     rintro _ w7 ⟨rfl, hb7⟩)
        go_ret
        exact ⟨rfl, bstep Hb4.out hb7⟩
  · have hd1 : decide ((2000 : Int) < (b.length : Int)) = true := decide_eq_true (by omega)
    have hd2 : decide (2000 < b.length) = true := decide_eq_true (by omega)
    go_enter Try.func4, Try.ntmps4
    go_wp2_with (go_at_call 12
                 refine (awake23 _).mono ?_
                 rintro _ w7 ⟨rfl, hb7⟩)
    go_ret
    exact ⟨rfl, hb7⟩

set_option maxRecDepth 100000 in
theorem lifted (os : Os) (started : os.Started) (H : Type) (enc : TypeId × Value → H) :
    ReturnsInHanded {} Try.checked os 4 .any (Rows.shardReadsSpec.pre6 enc Try.prog Try.f4 Rows.shardReadsRow.domain false) (Rows.shardReadsSpec.post enc Try.prog Try.f4 false true false false) := by
  refine returnsInHanded_of_change (C := Try.checked) own started (by kernel_rfl) Try.func4
    (ChangeSpec.witness6 (enc := enc) (C := Try.checked) false ⟨#[], #[.slice none 0 0], []⟩ 8 (by kernel_rfl) (by kernel_rfl) (by kernel_rfl) (by kernel_rfl)) ?_
  intro W base args ds gs before hval0 hW hcnd _
  have hval : ∀ (j : Nat) t v, Try.f4.params[j]? = some t → args[j]? = some v → Value.okWide Try.prog W .any base t v := hval0
  have hW' := hW
  obtain ⟨p, q, hA0, hV, rfl, hfz, hnd⟩ := hW
  have hA : DataW.TrodAll enc Try.prog W 0 (fun _ => true) true Try.f4.params.toList args.toList ds p := hA0
  rw [Try.params4] at hA hval
  obtain ⟨v0, vs0, d0, ds0, p0, q0, hargs, rfl, rfl, h0, r0⟩ := trodAll_cons hA
  obtain ⟨rfl, rfl, rfl⟩ := trodAll_nil r0
  obtain rfl : args = #[v0] := by cases args; simp_all
  obtain ⟨rfl, rfl⟩ := trodVars_none hV
  have k0 := h0
  have lt0 : ∀ x ∈ p0, x.block < W.heap.size := by obtain ⟨m, hm⟩ := k0; exact DataW.trod_lt m _ _ _ hm
  have i0 := InC.of h0
  obtain ⟨a0, len0, cap0, rfl⟩ := okWide_slice Try.underlying25 (hval 0 25 v0 rfl rfl)
  have j0 : InC W 25 [_] := i0
  clear hA0 hval0
  refine (walk _ W j0).mono fun e W' ⟨he, bel⟩ => ?_
  subst he
  exact ⟨_, rfl, _, _, _, [], _, [], hW', trodAll_mk1 (shut_bool Try.underlying4 _), (trodAll_cons_mk (Below.trod laidOut (by kernel_rfl) (of_decide_eq_true (by kernel_rfl)) k0 bel lt0) trodAll_mk0), rfl, bel.frame _, fun h => by cases h⟩

theorem over : Rows.shardReadsRow.holds Try.pinned (OpenSpec.ofChange Rows.shardReadsSpec) :=
  OpenClaim.holds_of_wide 4 Try.f4 rfl rfl rfl rfl rfl rfl rfl ⟨rfl, rfl, rfl, rfl, rfl⟩ rfl rfl rfl rfl rfl (by kernel_rfl) Try.func4 (by kernel_rfl)
    (of_decide_eq_true (by kernel_rfl)) (by unfold Func.isWrapper; first | (rw [if_pos (by decide +kernel)]; kernel_rfl) | (rw [if_neg (by decide +kernel)]; exact ⟨rfl, rfl⟩))
    (fun os started H enc _ => lifted os started H enc)

theorem proved : Rows.ShardReadsSaid := over
#print axioms proved
end Go.Proofs.Ythfnikdapknohaa.shardReads
