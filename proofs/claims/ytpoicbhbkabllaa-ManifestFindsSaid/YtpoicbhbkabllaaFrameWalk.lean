/- frame.Put, frame.Get compute what the plain functions say -/
import Derived.Test.YtpoicbhbkabllaaFramePure
import Derived.Test.YtpoicbhbkabllaaEqual8
import Derived.Test.YtpoicbhbkabllaaZeros
import Derived.Test.YtpoicbhbkabllaaSec
namespace Go.Proofs.Ytpoicbhbkabllaa
set_option linter.unusedSimpArgs false
set_option linter.unusedVariables false
open Go.RowKit

set_option maxRecDepth 100000 in
set_option maxHeartbeats 800000 in
theorem fput_any (w : World) (base : Nat) (v0 : Value) (l0 : List UInt8) (hown : Ow w base v0 l0) (k : UInt8) (v : Value) (l : List UInt8) (hby : By w base v l) (hsz : l.length ≤ 1048576) (hsz0 : l0.length ≤ 1099511627776)
    (hbase : base ≤ w.heap.size) :
    Calls Try.prog 77 #[v0, .agg #[.int .u8 (k.toNat : Int), v]] w fun e w' => ∃ v', e = .returned (.tuple #[v', .int .i64 0]) ∧ Ow w' base v' (l0 ++ frameOf k l) ∧ Ext w w' v0 v' := by
  have hby0 := hby
  obtain ⟨A, c, rfl, hc1, hc2, hrd⟩ := hby
  obtain ⟨A0, c0, rfl, hd1, hd2, hf0⟩ := hown.form_
  unfold maxLen at hc2 hd2
  have hx : (UInt32.ofNat l.length).toNat = l.length := by rw [UInt32.toNat_ofNat']; omega
  have h0 := fourAt0 (UInt32.ofNat l.length)
  have h1 := fourAt1 (UInt32.ofNat l.length)
  have h2 := fourAt2 (UInt32.ofNat l.length)
  have h3 := fourAt3 (UInt32.ofNat l.length)
  rw [hx] at h0 h1 h2 h3
  have h2' : (l.length : Int) / 65536 = ((fourAt (UInt32.ofNat l.length) 2).toNat : Int) := by omega
  have h3' : (l.length : Int) / 16777216 = ((fourAt (UInt32.ofNat l.length) 3).toNat : Int) := by omega
  clear h2 h3
  have hg : (UInt32.ofNat l.length).toNat < 4294967296 := u32_lt _
  have hcl : (k :: four (UInt32.ofNat l.length)).length = 5 := rfl
  have HF : Hid (frameOf k l = markOf (k :: four (UInt32.ofNat l.length)) ++ markOf l) := by unfold Hid; rfl
  have hby := By.new_ (w.alloc (.cells #[.int .u8 (k.toNat : Int), .slice A l.length c] 108)) (k :: four (UInt32.ofNat l.length)) (by simp [four_length, maxLen])
  have hv : (b8s (k :: four (UInt32.ofNat l.length))).toArray = #[.int .u8 (k.toNat : Int), .int .u8 ((fourAt (UInt32.ofNat l.length) 0).toNat : Int), .int .u8 ((fourAt (UInt32.ofNat l.length) 1).toNat : Int), .int .u8 ((fourAt (UInt32.ofNat l.length) 2).toNat : Int), .int .u8 ((fourAt (UInt32.ofNat l.length) 3).toNat : Int)] := rfl
  rw [hv] at hby
  clear hv
  have g0 := u8_lt (fourAt (UInt32.ofNat l.length) 0)
  have g1 := u8_lt (fourAt (UInt32.ofNat l.length) 1)
  generalize fourAt (UInt32.ofNat l.length) 0 = b0 at *
  generalize fourAt (UInt32.ofNat l.length) 1 = b1 at *
  generalize fourAt (UInt32.ofNat l.length) 2 = b2 at *
  generalize fourAt (UInt32.ofNat l.length) 3 = b3 at *
  generalize k :: four (UInt32.ofNat l.length) = hd at *
  have hml : (markOf hd).length = 9 := by rw [markOf_length]; omega
  rw [hcl] at hby
  clear hx hg
  go_enter Try.func77, Try.ntmps77
  go_wp2_with fail
  have hby1 := hby.more (B' := (w.heap.size + 1 + 1)) (by simp)
  refine (mark_any _ _ hd (by simpa using hby1) (by rw [hcl]; decide)).mono ?_
  rintro e w1 ⟨v1, rfl, hown1, hb1⟩
  have hb01 := bstep (bstep (balloc w _) (balloc _ _)) hb1
  have hown01 : Ow w1 base (.slice A0 l0.length c0) l0 := ((hown.alloc _).alloc _).below_ hb1
  have hbox1 : w1.cell? ⟨w.heap.size, 1, none⟩ = some (.slice A l.length c) := by
    rw [hb1.cell (by simp; omega), World.cell?_alloc_lt _ _ _ (by simp)]
    rw [World.cell?_alloc_new]; rfl
  have hb1v : By w1 base (.slice A l.length c) l := hby0.below (hb01.mono hbase)
  have hs1 := hb01.size
  have hne0 : ∀ k, (Value.slice A0 l0.length c0).ownBlock = some k → base ≤ k ∧ k < w.heap.size := hown.blk
  have hlt1 : w.heap.size < w1.heap.size := by have := hb1.size; simp at this; omega
  have hstep : ∀ (w2 : World) (v2 : Value), Ext w1 w2 (.slice A0 l0.length c0) v2 → w2.cell? { block := w.heap.size, off := 1 } = some (.slice A l.length c) ∧ By w2 base (.slice A l.length c) l := by
    intro w2 v2 hext2
    refine ⟨?_, hb1v.below (hext2.below (Nat.le_trans hbase hs1) fun k hk => (hne0 k hk).1)⟩
    rw [hext2.gr.cell_far _ hlt1 (fun e => absurd (show w.heap.size < w.heap.size from (hne0 _ e.symm).2) (by omega))]
    exact hbox1
  have Hstep := Lib.hid hstep
  clear hstep
  clear hne0 hf0 h0 h1 h2' h3' g0 g1 hby hby1 hrd
  go_wp2_with (
               at_builtin
               refine wpList_app8 rfl (.tmp 13) (.tmp 28) rfl hown01 hown1.by_ rfl rfl (by omega) (Nat.le_trans hbase hs1) ?_
               intro v2 w2 hown2 hext2
               have hs2 := hext2.gr.size
               have hbox2 := (Hstep.out w2 v2 hext2).1)
  have hb2v := (Hstep.out w2 v2 hext2).2
  refine (mark_any _ _ l (hb2v.more (Nat.le_trans (Nat.le_trans hbase hs1) hs2)) (by omega)).mono ?_
  rintro e w3 ⟨v3, rfl, hown3, hb3⟩
  have hown23 := hown2.below_ hb3
  have hml2 : (markOf l).length = l.length + 4 := markOf_length _
  have hs3 := hb3.size
  have hx1 := hext2.after hb01 _ rfl
  have hx3 := hx1.then_ hb3
  have hal : (l0 ++ markOf hd).length = l0.length + 9 := by rw [List.length_append, hml]
  go_wp2_with (
               at_builtin
               refine wpList_app8 rfl (.tmp 30) (.tmp 33) rfl hown23 hown3.by_ rfl rfl (by omega) (Nat.le_trans hbase hx3.gr.size) ?_
               intro v4 w4 hown4 hext4)
  go_ret2
  refine ⟨_, rfl, ?_, hx3.trans hext4⟩
  rw [HF.out, ← List.append_assoc]
  exact hown4

/-- too long a body isn't put -/
theorem fput_long (w : World) (v0 : Value) (k : UInt8) (A : Option Addr) (n c : Nat) (hn : 1048576 < n) (hc1 : n ≤ c) (hc2 : c ≤ maxLen) :
    Calls Try.prog 77 #[v0, .agg #[.int .u8 (k.toNat : Int), .slice A n c]] w fun e w' => e = .returned (.tuple #[v0, .int .i64 4]) ∧ Below w.heap.size w w' := by
  unfold maxLen at hc2
  go_enter Try.func77, Try.ntmps77
  go_wp2_with fail
  go_ret2
  exact ⟨rfl, balloc _ _⟩

set_option maxRecDepth 100000 in
set_option maxHeartbeats 1600000 in
theorem fget_any (w : World) (v : Value) (l : List UInt8) (hby : By w w.heap.size v l) (hsz : l.length ≤ 1099511627776) :
    Calls Try.prog 58 #[v] w fun e w' => ∃ v', e = .returned (.tuple #[.agg #[.int .u8 ((sK l).toNat : Int), v'], .int .i64 ((sN l : Nat) : Int), .int .i64 (sE l)]) ∧ Ow w' w.heap.size v' (sL l) ∧ Below w.heap.size w w' := by
  have hby0 := hby
  obtain ⟨A, c, rfl, hc1, hc2, hrd⟩ := hby
  unfold maxLen at hc2
  by_cases h9 : l.length < 9
  · have hE : sE l = 2 := by simp [sE, h9]
    have hL : sL l = [] := by simp [sL, hE]
    have hN : sN l = 0 := by simp [sN, hE]
    have hK : sK l = 0 := by simp [sK, hE]
    rw [hE, hL, hN, hK]
    clear hE hL hN hK
    go_enter Try.func58, Try.ntmps58
    go_wp2_with fail
    refine bodyPost_ret (v := .tuple #[.agg #[.int .u8 0, .slice none 0 0], .int .i64 0, .int .i64 2]) (by simp [results, Try.results58, go_sem]) rfl ?_
    exact ⟨_, rfl, Ow.nil_ _ _, balloc _ _⟩
  · have hcut : By w w.heap.size (.slice A 9 c) (l.take 9) := hby0.front_ (by omega)
    have ht9 : (l.take 9).length = 9 := by simp; omega
    cases hf : fitsB (l.take 9) with
    | false =>
      have hE : sE l = 5 := by simp [sE, h9, hf]
      have hL : sL l = [] := by simp [sL, hE]
      have hN : sN l = 0 := by simp [sN, hE]
      have hK : sK l = 0 := by simp [sK, hE]
      have hE9 : fitsE (l.take 9) = 5 := by unfold fitsE; rw [hf, ht9]; rfl
      have hL9 : fitsL (l.take 9) = [] := by unfold fitsL; rw [hf]; rfl
      rw [hE, hL, hN, hK]
      clear hE hL hN hK hrd
      generalize l.take 9 = t9 at *
      go_enter Try.func58, Try.ntmps58
      go_wp2_with fail
      refine (fits_any _ _ t9 ((hcut.alloc (Nat.le_refl _) _).more (by simp)) (by omega)).mono ?_
      rw [hE9, hL9]
      rintro e w1 ⟨v1, rfl, hown1, hb1⟩
      have hb01 := bstep (balloc w _) hb1
      have hs1 : SecAt w1 w.heap.size (.int .u8 0) (.slice none 0 0) := (SecAt.new_ w _ _).below (by simp) hb1
      go_wp2_with (refine wpList_store_sec rfl (.tmp 2) _ rfl w.heap.size _ _ (.int .u8 0) (.slice none 0 0) rfl rfl hs1 rfl rfl ?_
                   intro hs2)
      refine bodyPost_ret (results_sec rfl _ _ _ _ _ rfl hs2) rfl ?_
      exact ⟨_, rfl, Ow.nil_ _ _, bsetRow hb01 (Nat.le_refl _) _⟩
    | true =>
      obtain ⟨ad, rfl, _, _⟩ := hrd.ad (by omega)
      have hL9 : fitsL (l.take 9) = l.take 5 := by unfold fitsL; rw [hf, ht9]; simp [List.take_take]
      have hE9 : fitsE (l.take 9) = 0 := by unfold fitsE; rw [hf, ht9]; rfl
      have hle : sLen l = (l.getD 1 0).toNat + 256 * (l.getD 2 0).toNat + 65536 * (l.getD 3 0).toNat + 16777216 * (l.getD 4 0).toNat := rfl
      have hlt := sLen_lt l
      have hE : sE l = if 1048576 < sLen l then 4 else if l.length < sLen l + 13 then 2 else if fitsB ((l.drop 9).take (sLen l + 4)) then 0 else 5 := by
        unfold sE; rw [if_neg h9, hf, if_neg (by simp)]
      have hN : sN l = if sE l = 0 then sLen l + 13 else 0 := rfl
      have hL : sL l = if sE l = 0 then (l.drop 9).take (sLen l) else [] := rfl
      have hK : sK l = if sE l = 0 then l.getD 0 0 else 0 := rfl
      have hlen5 : (l.take 5).length = 5 := by simp; omega
      have hg : ∀ i, i < 5 → (l.take 5)[i]? = some (l.getD i 0) := by
        intro i hi
        rw [List.getElem?_take, if_pos hi]
        exact getD_get l i (by omega)
      have hcut2 : ∀ k, k ≤ l.length - 9 → By w w.heap.size (.slice (if c = 9 then some ad else some { block := ad.block, off := ad.off + 9 }) k (c - 9)) ((l.drop 9).take k) := fun k hk =>
        (hby0.back_ (k := 9) (by omega)).front_ (by simp; omega)
      have HE := Lib.hid hE
      have HN := Lib.hid hN
      have HL := Lib.hid hL
      have HK := Lib.hid hK
      have Hg := Lib.hid hg
      have Hle := Lib.hid hle
      have Hcut2 := Lib.hid hcut2
      clear hE hN hL hK hg hle hcut2 hrd
      generalize sE l = E at *
      generalize sN l = N at *
      generalize sL l = L at *
      generalize sK l = K0 at *
      generalize l.take 9 = t9 at *
      generalize l.take 5 = t5 at *
      go_enter Try.func58, Try.ntmps58
      go_wp2_with fail
      refine (fits_any _ _ t9 ((hcut.alloc (Nat.le_refl _) _).more (by simp)) (by omega)).mono ?_
      rw [hE9, hL9]
      rintro e w1 ⟨v1, rfl, hown1, hb1⟩
      have hb01 := bstep (balloc w _) hb1
      have hs1 : SecAt w1 w.heap.size (.int .u8 0) (.slice none 0 0) := (SecAt.new_ w _ _).below (by simp) hb1
      obtain ⟨A1, c1, rfl, hd1, hd2, hf1⟩ := hown1.form_
      obtain ⟨g1, rfl, hg1, hg2⟩ := hf1 (by omega)
      have hx0 := hown1.cell_ rfl 0 _ (Hg.out 0 (by omega))
      have hx1 := hown1.cell_ rfl 1 _ (Hg.out 1 (by omega))
      have hx2 := hown1.cell_ rfl 2 _ (Hg.out 2 (by omega))
      have hx3 := hown1.cell_ rfl 3 _ (Hg.out 3 (by omega))
      have hx4 := hown1.cell_ rfl 4 _ (Hg.out 4 (by omega))
      rw [hlen5] at hd1 hown1
      unfold maxLen at hd2
      generalize l.getD 0 0 = x0 at *
      generalize l.getD 1 0 = x1 at *
      generalize l.getD 2 0 = x2 at *
      generalize l.getD 3 0 = x3 at *
      generalize l.getD 4 0 = x4 at *
      have hhead := head_or x1 x2 x3 x4
      rw [← Hle.out] at hhead
      have b1 := u8_lt x1
      have b2 := u8_lt x2
      have b3 := u8_lt x3
      have b4 := u8_lt x4
      rw [hlen5]
      go_wp2_with fail
      go_quiet (fail)
      clear hx1 hx2 hx3 hx4 hhead
      generalize sLen l = n at *
      have hs2 : SecAt (w1.drewN nq) w.heap.size (.int .u8 0) (.slice none 0 0) := hs1
      have hb2 : Below w.heap.size w (w1.drewN nq) := bdrewN hb01 nq
      have hx2 : (w1.drewN nq).cell? { block := g1, off := 0 } = some (.int .u8 (x0.toNat : Int)) := hx0
      have hown2 : Ow (w1.drewN nq) (w.heap.size + 1) (.slice (some ⟨g1, 0, none⟩) 5 c1) t5 := by simpa using (show Ow (w1.drewN nq) _ _ _ from hown1)
      clear hs1 hb01 hx0 hb1 hown1
      generalize w1.drewN nq = W at *
      by_cases hbig : 1048576 < n
      · have e1 : E = 4 := by rw [HE.out, if_pos hbig]
        have e2 : N = 0 := by rw [HN.out, e1]; rfl
        have e3 : L = [] := by rw [HL.out, e1]; rfl
        have e4 : K0 = 0 := by rw [HK.out, e1]; rfl
        subst e1
        subst e2
        subst e3
        subst e4
        clear HE HN HL HK Hcut2 Hle
        go_wp2_with (refine wpList_store_sec rfl (.tmp 2) _ rfl w.heap.size _ _ (.int .u8 0) (.slice none 0 0) rfl rfl hs2 rfl rfl ?_
                     intro hs3)
        refine bodyPost_ret (results_sec rfl _ _ _ _ _ rfl hs3) rfl ?_
        exact ⟨_, rfl, Ow.nil_ _ _, bsetRow hb2 (Nat.le_refl _) _⟩
      · by_cases hsh : l.length < n + 13
        · have e1 : E = 2 := by rw [HE.out, if_neg hbig, if_pos hsh]
          have e2 : N = 0 := by rw [HN.out, e1]; rfl
          have e3 : L = [] := by rw [HL.out, e1]; rfl
          have e4 : K0 = 0 := by rw [HK.out, e1]; rfl
          subst e1
          subst e2
          subst e3
          subst e4
          clear HE HN HL HK Hcut2 Hle
          go_wp2_with (refine wpList_store_sec rfl (.tmp 2) _ rfl w.heap.size _ _ (.int .u8 0) (.slice none 0 0) rfl rfl hs2 rfl rfl ?_
                       intro hs3)
          refine bodyPost_ret (results_sec rfl _ _ _ _ _ rfl hs3) rfl ?_
          exact ⟨_, rfl, Ow.nil_ _ _, bsetRow hb2 (Nat.le_refl _) _⟩
        · have hc3 := Hcut2.out (n + 4) (by omega)
          have hlen3 : ((l.drop 9).take (n + 4)).length = n + 4 := by simp; omega
          have htk : ((l.drop 9).take (n + 4)).take (((l.drop 9).take (n + 4)).length - 4) = (l.drop 9).take n := by
            rw [hlen3, List.take_take]; congr 1; omega
          have hc9 : ¬ c = 9 := by omega
          rw [if_neg hc9] at hc3
          have HtL : Hid (fitsL ((l.drop 9).take (n + 4)) = if fitsB ((l.drop 9).take (n + 4)) then (l.drop 9).take n else []) := by
            unfold Hid fitsL; rw [htk]
          have HtE : Hid (fitsE ((l.drop 9).take (n + 4)) = if fitsB ((l.drop 9).take (n + 4)) then 0 else 5) := by
            unfold Hid fitsE; rw [if_neg (by omega)]
          clear htk Hcut2
          rw [if_neg hbig, if_neg hsh] at HE
          generalize (l.drop 9).take (n + 4) = tn at *
          generalize (l.drop 9).take n = own at *
          go_wp2_with fail
          rw [show 9 + n - 5 = n + 4 from by omega]
          refine (fits_any _ _ tn (hc3.step hb2) (by omega)).mono ?_
          rw [HtE.out, HtL.out]
          cases hfb : fitsB tn with
          | false =>
            have e1 : E = 5 := by rw [HE.out, hfb]; rfl
            have e2 : N = 0 := by rw [HN.out, e1]; rfl
            have e3 : L = [] := by rw [HL.out, e1]; rfl
            have e4 : K0 = 0 := by rw [HK.out, e1]; rfl
            subst e1
            subst e2
            subst e3
            subst e4
            clear HE HN HL HK Hle HtE HtL
            rintro e w3 ⟨v3, rfl, hown3, hb3⟩
            have hb23 := bstep hb2 hb3
            have hs3 := hs2.below hs2.lt hb3
            go_wp2_with (refine wpList_store_sec rfl (.tmp 2) _ rfl w.heap.size _ _ (.int .u8 0) (.slice none 0 0) rfl rfl hs3 rfl rfl ?_
                         intro hs4)
            refine bodyPost_ret (results_sec rfl _ _ _ _ _ rfl hs4) rfl ?_
            exact ⟨_, rfl, Ow.nil_ _ _, bsetRow hb23 (Nat.le_refl _) _⟩
          | true =>
            have e1 : E = 0 := by rw [HE.out, hfb]; rfl
            have e2 : N = n + 13 := by rw [HN.out, e1]; rfl
            have e3 : L = own := by rw [HL.out, e1]; rfl
            have e4 : K0 = x0 := by rw [HK.out, e1]; rfl
            subst e1
            subst e2
            subst e3
            subst e4
            clear HE HN HL HK Hle HtE HtL
            rintro e w3 ⟨v3, rfl, hown3, hb3⟩
            have hb23 := bstep hb2 hb3
            have hs3 := hs2.below hs2.lt hb3
            have hx3 : w3.cell? { block := g1, off := 0 } = some (.int .u8 (K0.toNat : Int)) := (hb3.cell (hown2.blk g1 rfl).2).trans hx2
            rw [if_pos rfl] at hown3
            obtain ⟨A3, c3, rfl, hd31, hd32, hf3⟩ := hown3.form_
            have hgs := hs2.lt
            go_wp2_with (refine wpList_store_sec rfl (.tmp 2) _ rfl w.heap.size _ _ (.int .u8 (K0.toNat : Int)) (.slice A3 L.length c3) rfl rfl hs3 rfl rfl ?_
                         intro hs4)
            have hown4 := (hown3.setRow_ hgs #[.int .u8 (K0.toNat : Int), .slice A3 L.length c3]).mono (Nat.le_of_lt hgs)
            refine bodyPost_ret (results_sec rfl _ _ _ _ _ rfl hs4) rfl ?_
            refine ⟨_, ?_, hown4, bsetRow hb23 (Nat.le_refl _) _⟩
            simp; omega

end Go.Proofs.Ytpoicbhbkabllaa
