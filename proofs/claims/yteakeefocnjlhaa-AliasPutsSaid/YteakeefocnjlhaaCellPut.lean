/- palmerref16.Put -/
import Derived.Test.YteakeefocnjlhaaCell
import Derived.Test.YteakeefocnjlhaaVarRefMore
namespace Go.Proofs.Yteakeefocnjlhaa
set_option linter.unusedSimpArgs false
set_option linter.unusedVariables false
open Go.RowKit

def cput1 (c : GCell) : List UInt8 := vput c.cut.toNat ++ vput c.oth.toNat
def cput (l : List GCell) : List UInt8 := (l.map cput1).flatten
theorem cput_snoc (l : List GCell) (k : Nat) (hk : k < l.length) : cput (l.take (k + 1)) = cput (l.take k) ++ vput (l[k]).cut.toNat ++ vput (l[k]).oth.toNat := by
  unfold cput
  rw [List.take_add_one, List.map_append, List.flatten_append, List.getElem?_eq_getElem hk]
  simp [cput1]
theorem cput_len : ∀ l : List GCell, (cput l).length ≤ 22 * l.length
  | [] => by simp [cput]
  | a :: t => by
    have h1 := vput_len64 a.cut.toNat (u64_lt a.cut)
    have h2 := vput_len64 a.oth.toNat (by have := u32_lt a.oth; omega)
    have h3 := cput_len t
    simp only [cput, List.map_cons, List.flatten_cons, List.length_append, List.length_cons, cput1] at *
    omega

set_option maxRecDepth 100000 in
set_option maxHeartbeats 3200000 in
theorem rcput_any (w : World) (B : Nat) (v : Value) (l : List GCell) (hl : l.length ≤ 1073741824) (h : ByC w B v l) (hB : B ≤ w.heap.size) :
    Calls Try.prog 66 #[v] w fun e w' => ∃ v', e = .returned v' ∧ Ow w' w.heap.size v' (cput l) ∧ Below w.heap.size w w' := by
  obtain ⟨A, c, rfl, hc1, hc2⟩ := h.form
  unfold maxLen at hc2
  go_enter Try.func66, Try.ntmps66
  go_wp2_with fail
  have hown1 := Ow.new_ w [] (Nat.zero_le _)
  have hb1 := balloc w (.cells #[] 5)
  go_loopw [3, 8] (fun b i wr => ∃ k : Nat, k ≤ l.length ∧ i = .int .i64 k ∧ Ow wr w.heap.size b (cput (l.take k)) ∧ Below w.heap.size w wr ∧ ByC wr B (.slice A l.length c) l) (fun _ i _ => l.length - (intOf i).toNat)
  case atStart => exact ⟨0, by omega, rfl, (by rw [List.take_zero]; exact hown1), hb1, ByC.below h (hb1.mono hB)⟩
  case round =>
    obtain ⟨k, hk, rfl, hob, hbl, hrow⟩ := hrel
    have hsz := hbl.size
    by_cases hlt : k < l.length
    · obtain ⟨ad, rfl, hab, hx0, hx1⟩ := ByC.cells hrow k hlt
      have hgl := cput_len (l.take k)
      have htk : (l.take k).length ≤ 1073741824 := by simp; omega
      have hbl0 : (cput (l.take k)).length ≤ 30000000000 := by omega
      have hsn := cput_snoc l k hlt
      have hcu := u64_lt (l[k]).cut
      have hot := u32_lt (l[k]).oth
      have Hsn := Lib.hid hsn
      have hlc := vput_len64 (l[k]).cut.toNat hcu
      have hBr : B ≤ wr.heap.size := Nat.le_trans hB hsz
      generalize hpp : cput (l.take k) = pre at *
      generalize hal : l[k] = a at *
      have Hak := Lib.hid hal
      clear hal hpp hsn
      have hlc2 := vput_len64 a.cut.toNat (u64_lt a.cut)
      have hlen2 : (pre ++ vput a.cut.toNat).length ≤ 40000000000 := by rw [List.length_append]; omega
      have Hlen2 := Lib.hid hlen2
      clear hlen2
      go_wp2_with fail
      refine (refnum_any a.cut.toNat wr hcu).mono ?_
      rintro _ w3 ⟨v3, rfl, how3, hb3⟩
      have hs3 := hb3.size
      have hrow3 := ByC.below hrow (hb3.mono hBr)
      go_wp2_with (at_builtin
                   refine wpList_app8 rfl (.tmp 11) (.tmp 17) rfl (hob.below_ hb3) how3.by_ rfl rfl (by omega) (Nat.le_trans hsz hs3) ?_
                   intro v4 w4 hown4 hext4
                   have hb34 := hext4.below (B := w.heap.size) (Nat.le_trans hsz hs3) fun q hq => (hob.blk q hq).1
                   have hrow4 := ByC.below hrow3 (hb34.mono hB)
                   have hx1' := (ByC.cells hrow4 k hlt)
                   obtain ⟨ad4, e4, _, _, hx1'⟩ := hx1'
                   injection e4 with e4
                   subst e4
                   rw [Hak.out] at hx1')
      have hs4 := hext4.gr.size
      have hbr4 : Below w.heap.size wr w4 := (hb3.mono hsz).trans hb34
      refine (refnum_any a.oth.toNat w4 (by omega)).mono ?_
      rintro _ w5 ⟨v5, rfl, how5, hb5⟩
      have hs5 := hb5.size
      have hs04 : w.heap.size ≤ w4.heap.size := Nat.le_trans hsz hbr4.size
      go_wp2_with (at_builtin
                   go_loud (refine wpList_app8 rfl (.tmp 19) (.tmp 26) rfl (hown4.below_ hb5) how5.by_ rfl rfl (by have := Hlen2.out; have := vput_len64 a.oth.toNat (by omega); omega) (Nat.le_trans hs04 hs5) ?_)
                   intro v6 w6 hown6 hext6)
      have hb46 : Below w.heap.size w4 w6 := (hb5.mono hs04).trans (hext6.below (B := w.heap.size) (Nat.le_trans hs04 hs5) fun q hq => (hown4.blk q hq).1)
      go_roundw
      case rel => exact ⟨k + 1, by omega, by go_num, by rw [Hsn.out]; exact hown6, hbl.trans (hbr4.trans hb46), ByC.below hrow4 (hb46.mono hB)⟩
      case measure => simp [intOf]; omega
    · obtain rfl : k = l.length := by omega
      rw [List.take_length] at hob
      go_wp2_with fail
      go_ret
      exact ⟨_, rfl, hob, hbl⟩
end Go.Proofs.Yteakeefocnjlhaa
