/- palmerref16.Build -/
import Derived.Test.YteakeefocnjlhaaRFirst
namespace Go.Proofs.Yteakeefocnjlhaa
set_option linter.unusedSimpArgs false
set_option linter.unusedVariables false
open Go.RowKit

/-- a row of cells of one's own, with spare room -/
def CRow (w : World) (base : Nat) (v : Value) (out : List GCell) : Prop :=
  ∃ g c sp, v = .slice (some ⟨g, 0, none⟩) out.length c ∧ base ≤ g ∧ out.length ≤ c ∧ c ≤ maxLen ∧ BoxAt 83 w g (cellsOf out ++ sp) ∧ (cellsOf out ++ sp).length = c * 2
theorem CRow.ofOwn {w : World} {base : Nat} {v : Value} {out : List GCell} (h : OwnF 83 cCell w base v out) (h0 : 0 < out.length) : CRow w base v out := by
  obtain ⟨css, hl, ⟨hlen, hv⟩, h3, _⟩ := h
  have hcs : css = out.map fun a => [Value.int .u64 (a.cut.toNat : Int), .int .u32 (a.oth.toNat : Int)] := by
    apply List.ext_getElem (by simpa using hl)
    intro i h1 h2
    obtain ⟨e, _⟩ := h3 i css[i] out[i] (List.getElem?_eq_getElem h1) (List.getElem?_eq_getElem (by omega))
    rw [e]
    simp
  rcases hv with ⟨rfl, hn⟩ | ⟨g, cap, cur, rfl, hb, hh, h1, h2, hs, ht⟩
  · omega
  · rw [hcs, ← cellsOf_flat] at ht
    have e : cellsOf out ++ cur.toList.drop (out.length * cCell.n) = cur.toList := by rw [← ht]; exact List.take_append_drop _ _
    refine ⟨g, cap, cur.toList.drop (out.length * cCell.n), rfl, hb, h1, h2, ?_, ?_⟩
    · rw [e]; exact hh
    · rw [e]; rw [Array.length_toList]; exact hs
theorem CRow.own {w : World} {base : Nat} {v : Value} {out : List GCell} (h : CRow w base v out) : OwnF 83 cCell w base v out := by
  obtain ⟨g, c, sp, rfl, h1, h2, h3, h4, h5⟩ := h
  refine ⟨out.map fun a => [Value.int .u64 (a.cut.toNat : Int), .int .u32 (a.oth.toNat : Int)], by simp, ⟨?_, .inr ⟨g, c, (cellsOf out ++ sp).toArray, rfl, h1, h4, h2, h3, ?_, ?_⟩⟩, ?_, fun _ h => h.elim⟩
  · rw [← cellsOf_flat, cellsOf_len]; rfl
  · rw [List.size_toArray, h5]; rfl
  · rw [← cellsOf_flat]
    show List.take (out.length * 2) (cellsOf out ++ sp) = cellsOf out
    rw [← cellsOf_len, List.take_left]
  · intro i cs x hc hx
    rw [List.getElem?_map, hx] at hc
    injection hc with hc
    exact ⟨hc.symm, trivial⟩
theorem CRow.blk {w : World} {base : Nat} {v : Value} {out : List GCell} (h : CRow w base v out) : ∃ g, v.ownBlock = some g ∧ base ≤ g ∧ g < w.heap.size := by
  obtain ⟨g, c, sp, rfl, h1, h2, h3, h4, h5⟩ := h
  exact ⟨g, rfl, h1, h4.lt⟩
theorem CRow.form {w : World} {base : Nat} {A : Option Addr} {n c : Nat} {out : List GCell} (h : CRow w base (.slice A n c) out) : ∃ g, A = some ⟨g, 0, none⟩ ∧ n = out.length ∧ out.length ≤ c ∧ c ≤ maxLen := by
  obtain ⟨g, c', sp, e, h1, h2, h3, h4, h5⟩ := h
  injection e with e1 e2 e3
  subst e3
  exact ⟨g, e1, e2, h2, h3⟩
theorem CRow.drew_ {w : World} {base : Nat} {v : Value} {out : List GCell} (h : CRow w base v out) : CRow w.drew base v out := h
theorem CRow.set_ {w : World} {base : Nat} {v : Value} {out : List GCell} (h : CRow w base v out) (p : Addr) (u : Value) (hne : v.ownBlock ≠ some p.block) : CRow (w.setCell p u) base v out := by
  obtain ⟨g, c, sp, rfl, h1, h2, h3, h4, h5⟩ := h
  exact ⟨g, c, sp, rfl, h1, h2, h3, h4.other p u (fun e => hne (by rw [e]; rfl)), h5⟩
theorem CRow.put {w : World} {base g n c : Nat} {out : List GCell} (h : CRow w base (.slice (some ⟨g, 0, none⟩) n c) out) (k : Nat) (x : GCell) (hk : k < out.length) (a b : Int) (ha : a = (x.cut.toNat : Int)) (hb : b = (x.oth.toNat : Int)) :
    CRow ((w.setCell ⟨g, k * 2, none⟩ (.int .u64 a)).setCell ⟨g, k * 2 + 1, none⟩ (.int .u32 b)) base (.slice (some ⟨g, 0, none⟩) n c) (out.set k x) := by
  obtain ⟨g', c', sp, e, h1, h2, h3, h4, h5⟩ := h
  injection e with e1 e2 e3
  injection e1 with e1; injection e1 with e1 _ _
  subst e1; subst e2; subst e3; subst ha; subst hb
  have hb2 := (h4.put (k * 2) (.int .u64 (x.cut.toNat : Int))).put (k * 2 + 1) (.int .u32 (x.oth.toNat : Int))
  have hkl : k * 2 + 1 < (cellsOf out).length := by rw [cellsOf_len]; omega
  rw [List.set_append_left _ _ (by omega), List.set_append_left _ _ (by rw [List.length_set]; omega), cellsOf_set out k x hk] at hb2
  refine ⟨g, c, sp, by rw [List.length_set], h1, by rw [List.length_set]; exact h2, h3, hb2, ?_⟩
  rw [List.length_append, cellsOf_len, List.length_set, ← h5, List.length_append, cellsOf_len]
theorem CRow.get {w : World} {base g n c : Nat} {out : List GCell} (h : CRow w base (.slice (some ⟨g, 0, none⟩) n c) out) (k : Nat) (hk : k < out.length) :
    w.cell? ⟨g, k * 2, none⟩ = some (.int .u64 ((out[k]).cut.toNat : Int)) ∧ w.cell? ⟨g, k * 2 + 1, none⟩ = some (.int .u32 ((out[k]).oth.toNat : Int)) ∧ w.frozen? ⟨g, k * 2, none⟩ = false ∧ w.frozen? ⟨g, k * 2 + 1, none⟩ = false := by
  obtain ⟨g', c', sp, e, h1, h2, h3, h4, h5⟩ := h
  injection e with e1 e2 e3
  injection e1 with e1; injection e1 with e1 _ _
  subst e1
  obtain ⟨hq0, hq1⟩ := cellsOf_get2 out k _ (List.getElem?_eq_getElem hk)
  have hkl : k * 2 + 1 < (cellsOf out).length := by rw [cellsOf_len]; omega
  exact ⟨h4.cell _ _ (by rw [List.getElem?_append_left (by omega)]; exact hq0), h4.cell _ _ (by rw [List.getElem?_append_left (by omega)]; exact hq1), h4.frozen _, h4.frozen _⟩
theorem lefts_get (l : List GArc) (k : Nat) (hk : k < l.length) : ∃ p : UInt64, lefts l (k + 1) = lefts l k ++ [p] ∧ p = UInt64.ofNat (left0 l k) := ⟨_, lefts_succ l k, rfl⟩
theorem infoCell2 : (Try.prog.info? 83).map (fun i => (i.zero, i.size, i.bytes)) = some (some (.agg #[.int .u64 0, .int .u32 0]), cCell.n, 16) := by kernel_rfl

set_option maxRecDepth 100000 in
set_option maxHeartbeats 3200000 in
theorem rbuild_any (w : World) (B : Nat) (v : Value) (l : List GArc) (hl : l.length ≤ 1048576) (h : ByA w B v l) (hB : B ≤ w.heap.size) (hn : nbrs l = true) :
    Calls Try.prog 62 #[v] w fun e w' => ∃ vo, e = .returned vo ∧ OwnF 83 cCell w' w.heap.size vo (btab l) ∧ Below w.heap.size w w' := by
  obtain ⟨A, c, rfl, hc1, hc2⟩ := h.form
  unfold maxLen at hc2
  unfold nbrs at hn
  rw [Bool.and_eq_true, decide_eq_true_eq] at hn
  obtain ⟨h0, hgm⟩ := hn
  have hsum := gmay_sum hgm
  have hrs := rgsum_any w B (.slice A l.length c) l (by omega) h
  have hinv := brun_inv l hl hsum
  have hl64 := lefts_nat l hl
  have hat := btab_at l
  have hls := lefts_succ l
  have hll := lefts_len l
  have Hrs := Lib.hid hrs
  have Hinv := Lib.hid hinv
  have Hl64 := Lib.hid hl64
  have Hat := Lib.hid hat
  have Hls := Lib.hid hls
  have Hll := Lib.hid hll
  clear hrs hinv hl64 hat hgm hls hll
  go_enter Try.func62, Try.ntmps62
  go_wp2_with fail
  refine Hrs.out.mono ?_
  rintro _ _ ⟨rfl, rfl⟩
  go_wp2_with fail
  have hoa0 := OwnR.new_ (E := 26) (C := c64) (S := fun _ => False) w (xs := []) [] rfl (by simp [maxLen]) (fun i cs x hc hx => by simp at hc) (fun _ h => h.elim)
  have hob0 := OwnR.new_ (E := 83) (C := cCell) (S := fun _ => False) (w.alloc (.cells #[] 26)) (xs := []) [] rfl (by simp [maxLen]) (fun i cs x hc hx => by simp at hc) (fun _ h => h.elim)
  have hoa1 := hoa0.alloc (.cells #[] 83)
  have hob1 : OwnF 83 cCell ((w.alloc (.cells #[] 26)).alloc (.cells #[] 83)) w.heap.size (.slice (some ⟨w.heap.size + 1, 0, none⟩) 0 0) [] := by
    have := hob0.more (base' := w.heap.size) (by simp)
    rw [World.size_alloc] at this
    exact this
  have hb0 := bstep (balloc w (.cells #[] 26)) (balloc (w.alloc (.cells #[] 26)) (.cells #[] 83))
  have Hoa1 := Lib.hid hoa1
  have Hob1 := Lib.hid hob1
  have Hb0 := Lib.hid hb0
  clear hoa0 hob0 hoa1 hob1 hb0
  go_loopw [4, 5, 18] (fun a b i wr => ∃ k : Nat, k ≤ l.length ∧ i = .int .i64 k ∧ OwnF 26 c64 wr w.heap.size a (lefts l k) ∧ OwnF 83 cCell wr w.heap.size b ((List.range k).map (mkC (gsum l))) ∧ Apart a b ∧ Below w.heap.size w wr) (fun _ _ i _ => l.length - (intOf i).toNat)
  case atStart => exact ⟨0, by omega, rfl, Hoa1.out, Hob1.out, fun q hq e => by simp [Value.ownBlock] at hq e; omega, Hb0.out⟩
  case round =>
    clear Hoa1 Hob1 Hb0
    obtain ⟨k, hk, rfl, hoa, hob, hap, hbl⟩ := hrel
    obtain ⟨Aa, ca, rfl, ha1, ha2, hz1⟩ := hoa.form'
    obtain ⟨Ab, cb, rfl, hb1, hb2, hz2⟩ := hob.form'
    clear hz1 hz2
    have elen : ((List.range k).map (mkC (gsum l))).length = k := by simp
    rw [elen] at hb1 hob hap
    have Helen := Lib.hid elen
    clear elen
    rw [Hll.out] at ha1
    have hsz := hbl.size
    have Hoa := Lib.hid hoa
    have Hob := Lib.hid hob
    have Hap := Lib.hid hap
    have Hbl := Lib.hid hbl
    by_cases hlt : k < l.length
    · obtain ⟨ad, rfl, hab, hx0, hx1⟩ := (h.below (hbl.mono hB)).cells k hlt
      have hwt := u32_lt (l[k]).wt
      have hl0 : left0 l k = l.length * (l[k]).wt.toNat := by unfold left0; rw [List.getElem?_eq_getElem hlt]; rfl
      have hm2 : l.length * (l[k]).wt.toNat ≤ 1048576 * 4294967295 := Nat.mul_le_mul (by omega) (by omega)
      have hmul : IntKind.u64.wrap ((l.length : Int) * ((l[k]).wt.toNat : Int)) = ((l.length * (l[k]).wt.toNat : Nat) : Int) := by
        rw [← Int.natCast_mul, wrap_u64]; omega
      have hlsk := Hls.out k
      rw [hl0] at hlsk
      have hwk : IntKind.u32.wrap (k : Int) = (k : Int) := by rw [IntKind.wrap_u32']; omega
      have Hlsk := Lib.hid hlsk
      clear hl0 hlsk hoa hob hap hbl
      generalize (l[k]).to.toNat = to at *
      generalize (l[k]).wt.toNat = wt at *
      generalize hP : l.length * wt = p at *
      clear hP
      have hp64 : (UInt64.ofNat p).toNat = p := by rw [UInt64.toNat_ofNat']; omega
      have Hp64 := Lib.hid hp64
      clear hp64
      go_wp2_with (first
                   | (at_builtin
                      refine wpList_app1R rfl (.tmp 21) (.tmp 32) 81 rfl Try.underlying81 info64' rfl (by decide) (by decide) (y := UInt64.ofNat p) [.int .u64 (p : Int)] Hoa.out ⟨by simp only [Hp64.out], trivial⟩ rfl rfl (by rw [Hll.out]; omega) (by omega) ?_
                      intro v4 w4 hown4 hext4
                      have Hob4 := Lib.hid (Hob.out.keep hext4.gr Hap.out.symm.ne (fun _ h => h.elim))
                      have Hap4 := Lib.hid (Hap.out.symm.ext hext4 (fun q hq => (Hob.out.blk q hq).2))
                      have Hb4 := Lib.hid (hext4.below (B := w.heap.size) (by omega) fun q hq => (Hoa.out.blk q hq).1)
                      have hs4 := hext4.gr.size
                      obtain ⟨A4, c4, rfl, _, _, _⟩ := hown4.form'
                      have Hown4 := Lib.hid hown4
                      clear hown4 hext4 Hoa)
                   | (at_builtin
                      refine wpList_app1R rfl (.tmp 34) (.tmp 39) 67 rfl Try.underlying67 infoCell2 rfl (by decide) (by decide) (y := mkC (gsum l) k) [.int .u64 (gsum l : Nat), .int .u32 (k : Int)] Hob4.out ⟨by show _ = [Value.int .u64 ((mkC (gsum l) k).cut.toNat : Int), .int .u32 ((mkC (gsum l) k).oth.toNat : Int)]; rw [mkC_cut _ _ (by omega), mkC_oth _ _ (by omega)], trivial⟩ rfl rfl (by rw [Helen.out]; omega) (by omega) ?_
                      intro v5 w5 hown5 hext5))
      have hoa5 := Hown4.out.keep hext5.gr Hap4.out.symm.ne (fun _ h => h.elim)
      have hap5 := (Hap4.out.symm.ext hext5 (fun q hq => (Hown4.out.blk q hq).2))
      have hb5 := hext5.below (B := w.heap.size) (by omega) fun q hq => (Hob4.out.blk q hq).1
      obtain ⟨A5, c5, rfl, _, _, _⟩ := hown5.form'
      have e4 : (lefts l k ++ [UInt64.ofNat p]).length = (lefts l k).length + 1 := by simp
      rw [e4] at hoa5 hap5
      go_roundw
      case rel => exact ⟨k + 1, by omega, by go_num, by rw [Hlsk.out]; exact hoa5, by rw [List.range_succ, List.map_append]; exact hown5, hap5, (Hbl.out.trans Hb4.out).trans hb5⟩
      case measure => simp [intOf]; omega
    · obtain rfl : k = l.length := by omega
      have hra := RwAt.ofOwn64 hoa Hl64.out
      have hrb := CRow.ofOwn hob (by simp; omega)
      have hra' : RwAt 26 .u64 wr w.heap.size (.slice Aa (lefts l l.length).length ca) (bst0 l).left := hra
      have hrb' : CRow wr w.heap.size (.slice Ab l.length cb) (bst0 l).out := hrb
      have Hra := Lib.hid hra'
      have Hrb := Lib.hid hrb'
      clear hra hrb hra' hrb' hoa hob hap hbl Hoa Hob
      rw [Hll.out] at Hra Hap ⊢
      rw [show ((List.range l.length).map (mkC (gsum l))).length = l.length from by simp]
      obtain ⟨g, rfl, hq9, hcb1, hcb2⟩ := Hrb.out.form
      rw [← hq9] at hcb1
      clear hq9
      unfold maxLen at hcb2
      go_wp2_with fail
      go_loopw [7] (fun i wt => ∃ k : Nat, k ≤ l.length + 1 ∧ i = .int .i64 k ∧ RwAt 26 .u64 wt w.heap.size (.slice Aa l.length ca) (brun (gsum l) k (bst0 l)).left ∧ CRow wt w.heap.size (.slice (some ⟨g, 0, none⟩) l.length cb) (brun (gsum l) k (bst0 l)).out ∧ Below w.heap.size w wt) (fun i _ => l.length + 1 - (intOf i).toNat)
      case atStart => exact ⟨0, by omega, rfl, Hra.out, Hrb.out, Hbl.out⟩
      case round =>
        clear Hra Hrb
        obtain ⟨k, hk, rfl, hra, hrb, hbw⟩ := hrel
        have Hra := Lib.hid hra
        have Hrb := Lib.hid hrb
        have Hbw := Lib.hid hbw
        have hI := Hinv.out k
        by_cases hk1 : k ≤ l.length
        · have hdk : decide (k ≤ l.length) = true := decide_eq_true hk1
          have hf1 := rfirst_any wr w.heap.size _ _ (gsum l) false (by rw [hI.ll]; omega) hra
          have hf2 := rfirst_any wr w.heap.size _ _ (gsum l) true (by rw [hI.ll]; omega) hra
          rcases hI.turn with ⟨hp0, hst⟩ | ⟨i, j, r, hp, hi, hj, hiW, hjW, hst, hjk⟩
          · have e1 : fst1 (gsum l) false (brun (gsum l) k (bst0 l)).left = none := by unfold fst1; exact poor_none _ _ hp0
            rw [e1] at hf1
            simp only [fstV] at hf1
            have hout := Hat.out k (by omega) hst
            have hown := hrb.own
            rw [hout] at hown
            have Hown := Lib.hid hown
            generalize fst1 (gsum l) true (brun (gsum l) k (bst0 l)).left = F2 at *
            clear hra hrb hbw hI hp0 hst e1 hout hown Hra Hrb
            cases F2
            all_goals
              simp only [fstV] at hf2
              have Hf2 := Lib.hid hf2
              clear hf2
              go_wp2_with fail
              refine hf1.mono ?_
              rintro _ _ ⟨rfl, rfl⟩
              go_wp2_with fail
              refine Hf2.out.mono ?_
              rintro _ _ ⟨rfl, rfl⟩
              go_wp2_with fail
              go_ret
              exact ⟨_, rfl, Hown.out, Hbw.out⟩
          · have e1 : fst1 (gsum l) false (brun (gsum l) k (bst0 l)).left = some i := by unfold fst1; exact (poor_head _ _ i r hp).1
            have e2 : fst1 (gsum l) true (brun (gsum l) k (bst0 l)).left = some j := by unfold fst1; exact rich_at _ _ j (by rw [hI.ll]; exact hj) hjW hjk
            rw [e1] at hf1
            rw [e2] at hf2
            simp only [fstV] at hf1 hf2
            have hnx := brun_succ _ k _ _ hst
            have hll := hI.ll
            have hol := hI.ol
            have hmx := hI.mx j hj
            have hmi := hI.mx i hi
            have Hnx := Lib.hid hnx
            have Hf2 := Lib.hid hf2
            obtain ⟨hz8, b, off, rfl, hb1, hb2, hxj, hxf⟩ := hra.at_ j ((brun (gsum l) k (bst0 l)).left.getD j 0) (by rw [getD_get _ _ (by omega)]; exact List.getElem?_eq_getElem _)
            obtain ⟨hz9, b', off', e, _, _, hxi, hxfi⟩ := hra.at_ i ((brun (gsum l) k (bst0 l)).left.getD i 0) (by rw [getD_get _ _ (by omega)]; exact List.getElem?_eq_getElem _)
            injection e with e; injection e with e1' e2' _
            subst e1'; subst e2'
            have hbg : b ≠ g := fun e => Hap.out b rfl (by rw [e]; rfl)
            obtain ⟨hy0, hy1, hg0, hg1⟩ := hrb.get i (by omega)
            have hij : i ≠ j := fun e => by subst e; omega
            generalize ((brun (gsum l) k (bst0 l)).out[i]).cut.toNat = c0 at *
            generalize ((brun (gsum l) k (bst0 l)).out[i]).oth.toNat = c1 at *
            clear hra hrb hbw hI hp hst e1 e2 hjk hf2 hnx
            generalize hS : brun (gsum l) k (bst0 l) = s at *
            generalize hLI : s.left.getD i 0 = li at *
            generalize hLJ : s.left.getD j 0 = lj at *
            have HLI := Lib.hid hLI
            have HLJ := Lib.hid hLJ
            have hwj : IntKind.u32.wrap (j : Int) = (j : Int) := by rw [IntKind.wrap_u32']; omega
            have hs1 : IntKind.u64.wrap ((gsum l : Int) - (li : Int)) = ((gsum l - li : Nat) : Int) := by rw [wrap_u64]; omega
            have hs2 : IntKind.u64.wrap ((lj : Int) - ((gsum l - li : Nat) : Int)) = ((lj - (gsum l - li) : Nat) : Int) := by rw [wrap_u64]; omega
            have hs3 : IntKind.u64.wrap ((lj : Int) - IntKind.u64.wrap ((gsum l : Int) - (li : Int))) = ((lj - (gsum l - li) : Nat) : Int) := by rw [hs1, hs2]
            clear hS hLI hLJ hz8 hz9
            go_wp2_with fail
            refine hf1.mono ?_
            rintro _ _ ⟨rfl, rfl⟩
            go_wp2_with fail
            refine Hf2.out.mono ?_
            rintro _ _ ⟨rfl, rfl⟩
            go_wp2_with fail
            have hgw : w.heap.size ≤ g := by
              obtain ⟨q, e, h1, _⟩ := Hrb.out.blk
              have e : g = q := Option.some.inj e
              omega
            have hbw1 := (Hbw.out.setCell (p := ⟨g, i * 2, none⟩) hgw (.int .u64 (li : Int))).setCell (p := ⟨g, i * 2 + 1, none⟩) hgw (.int .u32 (j : Int))
            have hrb1 := Hrb.out.put i (mkC li j) (by omega) (li : Int) (j : Int) (by rw [mkC_cut _ _ (by omega)]) (by rw [mkC_oth _ _ (by omega)])
            have hra1 := (Hra.out.set_ ⟨g, i * 2, none⟩ (.int .u64 (li : Int)) (fun e => hbg (by injection e))).set_ ⟨g, i * 2 + 1, none⟩ (.int .u32 (j : Int)) (fun e => hbg (by injection e))
            have Hbw1 := Lib.hid hbw1
            have Hrb1 := Lib.hid hrb1
            have Hra1 := Lib.hid hra1
            clear hbw1 hrb1 hra1 hxi hxfi hxj hxf hy0 hy1 hg0 hg1 Hra Hrb Hbw hb2
            generalize ((wr.setCell ⟨g, i * 2, none⟩ (.int .u64 (li : Int))).setCell ⟨g, i * 2 + 1, none⟩ (.int .u32 (j : Int))) = w1 at *
            obtain ⟨hz8, b', off', e, _, hb2, hxj, hxf⟩ := Hra1.out.at_ j lj (by rw [List.getElem?_eq_getElem (by omega), ← HLJ.out, getD_get _ _ (by omega)])
            injection e with e; injection e with e1' e2' _
            subst e1'; subst e2'
            obtain ⟨hz9, b', off', e, _, _, hxi, hxfi⟩ := Hra1.out.at_ i li (by rw [List.getElem?_eq_getElem (by omega), ← HLI.out, getD_get _ _ (by omega)])
            injection e with e; injection e with e1' e2' _
            subst e1'; subst e2'
            clear hz8 hz9
            go_region
            have hra2 := (Hra1.out.put j (lj - (gsum l - li)) (by omega)).drew_
            have hrb2 := (Hrb1.out.set_ ⟨b, off + j, none⟩ (.int .u64 ((lj - (gsum l - li) : Nat) : Int)) (fun e => hbg (Option.some.inj e).symm)).drew_
            have hbw2 := (Hbw1.out.setCell (p := ⟨b, off + j, none⟩) hb1 (.int .u64 ((lj - (gsum l - li) : Nat) : Int))).drew
            have Hra2 := Lib.hid hra2
            have Hrb2 := Lib.hid hrb2
            have Hbw2 := Lib.hid hbw2
            clear hra2 hrb2 hbw2 hxi hxfi hxj hxf Hra1 Hrb1 Hbw1 hb2 hs1 hs2 hs3
            generalize (w1.setCell ⟨b, off + j, none⟩ (.int .u64 ((lj - (gsum l - li) : Nat) : Int))).drew = w2 at *
            obtain ⟨hz9, b', off', e, _, _, hxi, hxfi⟩ := Hra2.out.at_ i li (by rw [List.getElem?_set, if_neg (fun e => hij e.symm), List.getElem?_eq_getElem (by omega), ← HLI.out, getD_get _ _ (by omega)])
            injection e with e; injection e with e1' e2' _
            subst e1'; subst e2'
            clear hz9
            go_wp2_with fail
            go_roundw
            case rel =>
              refine ⟨k + 1, by omega, by go_num, ?_, ?_, Hbw2.out.setCell (p := ⟨b, off + i, none⟩) hb1 _⟩
              · rw [Hnx.out]
                have := Hra2.out.put i (gsum l) (by rw [List.length_set]; omega)
                have hpay : (s.left.set j (lj - (gsum l - li))).set i (gsum l) = pay (gsum l) s.left i j := by unfold pay; rw [HLI.out, HLJ.out]
                rw [hpay] at this
                exact this
              · rw [Hnx.out]
                exact Hrb2.out.set_ ⟨b, off + i, none⟩ _ (fun e => hbg (Option.some.inj e).symm)
            case measure => simp [intOf]; omega
        · have hdk : decide (k ≤ l.length) = false := decide_eq_false hk1
          obtain rfl : k = l.length + 1 := by omega
          have hown : OwnF 83 cCell wr w.heap.size _ (btab l) := hrb.own
          have Hown := Lib.hid hown
          clear hra hrb hbw hI hown Hra Hrb
          go_wp2_with fail
          go_ret
          exact ⟨_, rfl, Hown.out, Hbw.out⟩
end Go.Proofs.Yteakeefocnjlhaa
