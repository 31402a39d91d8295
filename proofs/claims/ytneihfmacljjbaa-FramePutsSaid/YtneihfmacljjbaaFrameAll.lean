/- frame.All and palmerref05.All compute what the plain function says -/
import Derived.Test.YtneihfmacljjbaaSecRow
namespace Go.Proofs.Ytneihfmacljjbaa
set_option linter.unusedSimpArgs false
set_option linter.unusedVariables false
open Go.RowKit

theorem OwS.new_ (w : World) : OwS (w.alloc (.cells #[] 46)) w.heap.size (.slice (some ⟨w.heap.size, 0, none⟩) 0 0) [] :=
  ⟨[], rfl, ⟨rfl, .inr ⟨w.heap.size, 0, #[], rfl, Nat.le_refl _, heap_alloc_new w _, Nat.le_refl _, Nat.zero_le _, rfl, rfl⟩⟩, fun i u s h => by simp at h⟩
theorem OwS.mono {w : World} {base base' : Nat} {v : Value} {ss : List Sect} (h : OwS w base v ss) (hb : base' ≤ base) : OwS w base' v ss := by
  obtain ⟨vs, h1, h2, h3⟩ := h
  exact ⟨vs, h1, ⟨h2.1, h2.2.imp id fun ⟨g, cap, cur, e, h4, h5⟩ => ⟨g, cap, cur, e, Nat.le_trans hb h4, h5⟩⟩, fun i u s hu hs => ⟨(h3 i u s hu hs).1.mono hb, (h3 i u s hu hs).2⟩⟩

set_option maxRecDepth 100000 in
set_option maxHeartbeats 1600000 in
theorem fall_any (w : World) (v : Value) (l : List UInt8) (hby : By w w.heap.size v l) (hsz : l.length ≤ 1099511627776) :
    Calls Try.prog 34 #[v] w fun e w' => ∃ v', e = .returned (.tuple #[v', .int .i64 (allOf l).2]) ∧ OwS w' w.heap.size v' (allOf l).1 ∧ Below w.heap.size w w' := by
  have hby0 := hby
  obtain ⟨A, c, rfl, hc1, hc2, hrd⟩ := hby
  clear hrd hc1 hc2
  go_enter Try.func34, Try.ntmps34
  go_wp2_with fail
  go_loopw [0, 4] (fun vb vo wr => ∃ (b : List UInt8) (acc : List Sect), By wr w.heap.size vb b ∧ OwS wr w.heap.size vo acc ∧ b.length ≤ l.length ∧ acc.length + b.length ≤ l.length ∧ allA b.length b acc = allOf l ∧ Below w.heap.size w wr) (fun vb _ _ => match vb with | .slice _ n _ => n | _ => 0)
  case atStart => exact ⟨l, [], hby0, OwS.nil_ _ _, Nat.le_refl _, by simp, rfl, Below.refl _ _⟩
  case round =>
    obtain ⟨b, acc, hb, hown, hbl, hacc, hR, hbw⟩ := hrel
    obtain ⟨A, c, rfl, hc1, hc2, hrd⟩ := id hb
    unfold maxLen at hc2
    have hsw := hbw.size
    by_cases hnil : b = []
    · subst hnil
      have hR2 : allOf l = (acc, 0) := by rw [← hR]; exact allA_nil _ _
      have HR := Lib.hid hR2
      clear hR hR2 hrd
      go_wp2_with fail
      go_ret2
      exact ⟨u4, by rw [HR.out]; rfl, by rw [HR.out]; exact hown, hbw⟩
    · have hpos : 0 < b.length := List.length_pos_iff.2 hnil
      by_cases hE : sE b = 0
      · have hp := sN_pos b hE
        have hR2 := allA_step b acc hnil hE
        rw [hR] at hR2
        have HR := Lib.hid hR2
        clear hR hR2 hrd
        have hcon := fget_any wr _ b (hb.more hsw) (by omega)
        rw [hE] at hcon
        have hdrop : b.drop (sN b) = b.drop (sN b) := rfl
        have hcut := hb.back_ (k := sN b) hp.2
        clear hdrop hE
        generalize sN b = n at *
        generalize sK b = k at *
        generalize sL b = own at *
        go_wp2_with fail
        refine hcon.mono ?_
        rintro e w1 ⟨v1, rfl, hown1, hb1⟩
        clear hcon
        obtain ⟨A1, c1, rfl, hd1, hd2, hf1⟩ := hown1.form_
        unfold maxLen at hd2
        obtain ⟨W2, hW2, hs2, hb12, hsz2⟩ : ∃ W2, (w1.alloc (.cells #[.int .u8 0, .slice none 0 0] 46)).setRow w1.heap.size #[.int .u8 (k.toNat : Int), .slice A1 own.length c1] = W2 ∧ SecAt W2 w1.heap.size (.int .u8 (k.toNat : Int)) (.slice A1 own.length c1) ∧ Below w1.heap.size w1 W2 ∧ W2.heap.size = w1.heap.size + 1 :=
          ⟨_, rfl, (SecAt.new_ w1 _ _).put _ _, bsetRow (balloc _ _) (Nat.le_refl _) _, by simp⟩
        have hne : (Value.slice A1 own.length c1).ownBlock = none ∨ (Value.slice A1 own.length c1).ownBlock ≠ u4.ownBlock := by
          cases h : (Value.slice A1 own.length c1).ownBlock with
          | none => exact .inl rfl
          | some q =>
            have h1 := (hown1.blk q h).1
            exact .inr fun e => by have := (hown.blk q e.symm).2; omega
        have hs1 := hb1.size
        have hbW3 := bstep (bstep (bstep hbw hb1) hb12) (balloc W2 (.cells #[.int .u8 (k.toNat : Int), .slice A1 own.length c1] 46))
        have hownW3 := ((hown.below_ hb1).below_ hb12).below_ (balloc W2 (.cells #[.int .u8 (k.toNat : Int), .slice A1 own.length c1] 46))
        have huW3 := ((hown1.mono hsw).below_ hb12).below_ (balloc W2 (.cells #[.int .u8 (k.toNat : Int), .slice A1 own.length c1] 46))
        have hg3 : SecAt (W2.alloc (.cells #[.int .u8 (k.toNat : Int), .slice A1 own.length c1] 46)) (w1.heap.size + 1) (.int .u8 (k.toNat : Int)) (.slice A1 own.length c1) := hsz2 ▸ SecAt.new_ W2 _ _
        go_wp2_with (first
          | (refine wpList_store_sec rfl (.tmp 5) _ rfl w1.heap.size _ _ (.int .u8 (k.toNat : Int)) (.slice A1 own.length c1) rfl rfl (SecAt.new_ w1 (.int .u8 0) (.slice none 0 0)) rfl rfl ?_
             rw [hW2]
             intro _)
          | (refine wpList_load_sec rfl (.tmp 5) rfl w1.heap.size _ _ rfl hs2 ?_)
          | (at_builtin
             refine wpList_appS rfl (.tmp 20) (.tmp 22) rfl hownW3 huW3 hne (w1.heap.size + 1) 1 hg3 rfl rfl rfl (by omega) hbW3.size ?_
             intro v3 w3 hown3 hext3
             have hb3 := hbW3.trans (hext3.below hbW3.size fun q hq => (hownW3.blk q hq).1)
             have hbr3 := ((bstep (bstep hb1 hb12) (balloc W2 _)).mono hsw).trans (hext3.below hbW3.size fun q hq => (hownW3.blk q hq).1)))
        go_roundw
        case rel =>
          rename_i dummy
          refine ⟨b.drop n, acc ++ [(k, own)], ?_, hown3, by simp; omega, by simp; omega, HR.out.symm, hb3⟩
          exact hcut.below hbr3
        case measure => simp; omega
      · have hR2 := allA_err b acc hnil hE
        rw [hR] at hR2
        have HR := Lib.hid hR2
        clear hR hR2 hrd
        have hcon := fget_any wr _ b (hb.more hsw) (by omega)
        generalize sN b = n at *
        generalize sK b = k at *
        generalize sL b = own at *
        generalize sE b = E at *
        go_wp2_with fail
        refine hcon.mono ?_
        rintro e w1 ⟨v1, rfl, hown1, hb1⟩
        clear hcon
        obtain ⟨A1, c1, rfl, hd1, hd2, hf1⟩ := hown1.form_
        have hEb : (E == 0) = false := by simpa using hE
        obtain ⟨W2, hW2, hs2, hb12⟩ : ∃ W2, (w1.alloc (.cells #[.int .u8 0, .slice none 0 0] 46)).setRow w1.heap.size #[.int .u8 (k.toNat : Int), .slice A1 own.length c1] = W2 ∧ SecAt W2 w1.heap.size (.int .u8 (k.toNat : Int)) (.slice A1 own.length c1) ∧ Below w1.heap.size w1 W2 :=
          ⟨_, rfl, (SecAt.new_ w1 _ _).put _ _, bsetRow (balloc _ _) (Nat.le_refl _) _⟩
        go_wp2_with (first
          | (refine wpList_store_sec rfl (.tmp 5) _ rfl w1.heap.size _ _ (.int .u8 (k.toNat : Int)) (.slice A1 own.length c1) rfl rfl (SecAt.new_ w1 (.int .u8 0) (.slice none 0 0)) rfl rfl ?_
             rw [hW2]
             intro _))
        go_ret2
        exact ⟨.slice none 0 0, by rw [HR.out]; rfl, by rw [HR.out]; exact OwS.nil_ _ _, bstep (bstep hbw hb1) hb12⟩
set_option maxRecDepth 100000 in
set_option maxHeartbeats 1600000 in
theorem rfall_any (w : World) (v : Value) (l : List UInt8) (hby : By w w.heap.size v l) (hsz : l.length ≤ 1099511627776) :
    Calls Try.prog 37 #[v] w fun e w' => ∃ v', e = .returned (.tuple #[v', .int .i64 (allOf l).2]) ∧ OwS w' w.heap.size v' (allOf l).1 ∧ Below w.heap.size w w' := by
  have hby0 := hby
  obtain ⟨A, c, rfl, hc1, hc2, hrd⟩ := hby
  clear hrd hc1 hc2
  have hb00 := balloc w (.cells #[] 46)
  have ho0 : OwS (w.alloc (.cells #[] 46)) w.heap.size (.slice (some ⟨w.heap.size, 0, none⟩) 0 0) [] := OwS.new_ w
  go_enter Try.func37, Try.ntmps37
  go_wp2_with fail
  go_loopw [0, 4] (fun vb vo wr => ∃ (b : List UInt8) (acc : List Sect), By wr w.heap.size vb b ∧ OwS wr w.heap.size vo acc ∧ b.length ≤ l.length ∧ acc.length + b.length ≤ l.length ∧ allA b.length b acc = allOf l ∧ Below w.heap.size w wr) (fun vb _ _ => match vb with | .slice _ n _ => n | _ => 0)
  case atStart => exact ⟨l, [], hby0.below hb00, ho0, Nat.le_refl _, by simp, rfl, hb00⟩
  case round =>
    obtain ⟨b, acc, hb, hown, hbl, hacc, hR, hbw⟩ := hrel
    obtain ⟨A, c, rfl, hc1, hc2, hrd⟩ := id hb
    unfold maxLen at hc2
    have hsw := hbw.size
    by_cases hnil : b = []
    · subst hnil
      have hR2 : allOf l = (acc, 0) := by rw [← hR]; exact allA_nil _ _
      have HR := Lib.hid hR2
      clear hR hR2 hrd
      go_wp2_with fail
      go_ret2
      exact ⟨u4, by rw [HR.out]; rfl, by rw [HR.out]; exact hown, hbw⟩
    · have hpos : 0 < b.length := List.length_pos_iff.2 hnil
      by_cases hE : sE b = 0
      · have hp := sN_pos b hE
        have hR2 := allA_step b acc hnil hE
        rw [hR] at hR2
        have HR := Lib.hid hR2
        clear hR hR2 hrd
        have hcon := rfget_any wr _ b (hb.more hsw) (by omega)
        rw [hE] at hcon
        have hdrop : b.drop (sN b) = b.drop (sN b) := rfl
        have hcut := hb.back_ (k := sN b) hp.2
        clear hdrop hE
        generalize sN b = n at *
        generalize sK b = k at *
        generalize sL b = own at *
        go_wp2_with fail
        refine hcon.mono ?_
        rintro e w1 ⟨v1, rfl, hown1, hb1⟩
        clear hcon
        obtain ⟨A1, c1, rfl, hd1, hd2, hf1⟩ := hown1.form_
        unfold maxLen at hd2
        obtain ⟨W2, hW2, hs2, hb12, hsz2⟩ : ∃ W2, (w1.alloc (.cells #[.int .u8 0, .slice none 0 0] 46)).setRow w1.heap.size #[.int .u8 (k.toNat : Int), .slice A1 own.length c1] = W2 ∧ SecAt W2 w1.heap.size (.int .u8 (k.toNat : Int)) (.slice A1 own.length c1) ∧ Below w1.heap.size w1 W2 ∧ W2.heap.size = w1.heap.size + 1 :=
          ⟨_, rfl, (SecAt.new_ w1 _ _).put _ _, bsetRow (balloc _ _) (Nat.le_refl _) _, by simp⟩
        have hne : (Value.slice A1 own.length c1).ownBlock = none ∨ (Value.slice A1 own.length c1).ownBlock ≠ u4.ownBlock := by
          cases h : (Value.slice A1 own.length c1).ownBlock with
          | none => exact .inl rfl
          | some q =>
            have h1 := (hown1.blk q h).1
            exact .inr fun e => by have := (hown.blk q e.symm).2; omega
        have hs1 := hb1.size
        have hbW3 := bstep (bstep (bstep hbw hb1) hb12) (balloc W2 (.cells #[.int .u8 (k.toNat : Int), .slice A1 own.length c1] 46))
        have hownW3 := ((hown.below_ hb1).below_ hb12).below_ (balloc W2 (.cells #[.int .u8 (k.toNat : Int), .slice A1 own.length c1] 46))
        have huW3 := ((hown1.mono hsw).below_ hb12).below_ (balloc W2 (.cells #[.int .u8 (k.toNat : Int), .slice A1 own.length c1] 46))
        have hg3 : SecAt (W2.alloc (.cells #[.int .u8 (k.toNat : Int), .slice A1 own.length c1] 46)) (w1.heap.size + 1) (.int .u8 (k.toNat : Int)) (.slice A1 own.length c1) := hsz2 ▸ SecAt.new_ W2 _ _
        go_wp2_with (first
          | (refine wpList_store_sec rfl (.tmp 5) _ rfl w1.heap.size _ _ (.int .u8 (k.toNat : Int)) (.slice A1 own.length c1) rfl rfl (SecAt.new_ w1 (.int .u8 0) (.slice none 0 0)) rfl rfl ?_
             rw [hW2]
             intro _)
          | (refine wpList_load_sec rfl (.tmp 5) rfl w1.heap.size _ _ rfl hs2 ?_)
          | (at_builtin
             refine wpList_appS rfl (.tmp 22) (.tmp 24) rfl hownW3 huW3 hne (w1.heap.size + 1) 1 hg3 rfl rfl rfl (by omega) hbW3.size ?_
             intro v3 w3 hown3 hext3
             have hb3 := hbW3.trans (hext3.below hbW3.size fun q hq => (hownW3.blk q hq).1)
             have hbr3 := ((bstep (bstep hb1 hb12) (balloc W2 _)).mono hsw).trans (hext3.below hbW3.size fun q hq => (hownW3.blk q hq).1)))
        go_roundw
        case rel =>
          rename_i dummy
          refine ⟨b.drop n, acc ++ [(k, own)], ?_, hown3, by simp; omega, by simp; omega, HR.out.symm, hb3⟩
          exact hcut.below hbr3
        case measure => simp; omega
      · have hR2 := allA_err b acc hnil hE
        rw [hR] at hR2
        have HR := Lib.hid hR2
        clear hR hR2 hrd
        have hcon := rfget_any wr _ b (hb.more hsw) (by omega)
        generalize sN b = n at *
        generalize sK b = k at *
        generalize sL b = own at *
        generalize sE b = E at *
        go_wp2_with fail
        refine hcon.mono ?_
        rintro e w1 ⟨v1, rfl, hown1, hb1⟩
        clear hcon
        obtain ⟨A1, c1, rfl, hd1, hd2, hf1⟩ := hown1.form_
        have hEb : (E == 0) = false := by simpa using hE
        obtain ⟨W2, hW2, hs2, hb12⟩ : ∃ W2, (w1.alloc (.cells #[.int .u8 0, .slice none 0 0] 46)).setRow w1.heap.size #[.int .u8 (k.toNat : Int), .slice A1 own.length c1] = W2 ∧ SecAt W2 w1.heap.size (.int .u8 (k.toNat : Int)) (.slice A1 own.length c1) ∧ Below w1.heap.size w1 W2 :=
          ⟨_, rfl, (SecAt.new_ w1 _ _).put _ _, bsetRow (balloc _ _) (Nat.le_refl _) _⟩
        go_wp2_with (first
          | (refine wpList_store_sec rfl (.tmp 5) _ rfl w1.heap.size _ _ (.int .u8 (k.toNat : Int)) (.slice A1 own.length c1) rfl rfl (SecAt.new_ w1 (.int .u8 0) (.slice none 0 0)) rfl rfl ?_
             rw [hW2]
             intro _))
        go_ret2
        exact ⟨.slice (some ⟨W2.heap.size, 0, none⟩) 0 0, by rw [HR.out]; rfl, by rw [HR.out]; exact (OwS.new_ W2).mono (bstep (bstep hbw hb1) hb12).size, bstep (bstep (bstep hbw hb1) hb12) (balloc W2 _)⟩
end Go.Proofs.Ytneihfmacljjbaa
