/- []byte(s): a conversion of a string to bytes. -/
import Derived.Test.YtpoicbhbkabllaaPuts
import Derived.Lib.ConvBytes
namespace Go.Proofs.Ytpoicbhbkabllaa
set_option linter.unusedSimpArgs false
set_option linter.unusedVariables false
open Go.RowKit

/-- what '[]byte(s)' leaves -/
structure SB (w w' : World) (c : Nat) (l : List UInt8) : Prop where
  by_ : By w' w'.heap.size (.slice (some ⟨w.heap.size, 0, none⟩) l.length c) l
  free : ∀ j, j < l.length → w'.frozen? ⟨w.heap.size, j, none⟩ = false
  below : Below w.heap.size w w'
  size : w'.heap.size = w.heap.size + 1
theorem sb_of (w : World) (l : List UInt8) (hl : l.length ≤ 281474976710656) : SB w (Lib.bytesWorld w 5 (bst l)) (grownCap w (bst l).size 0 5) l := by
  have hG := grownCap_ge w (bst l).size 0 5
  have hG63 := grownCap_le_maxLen w (bst l).size 0 5 (by show l.length ≤ _; unfold maxLen; omega)
  refine ⟨⟨_, _, rfl, hG, hG63, ?_⟩, fun j hj => ?_, ?_, Lib.bytesWorld_size _ _ _⟩
  · refine ⟨by simp [b8s], fun hn => ⟨_, rfl, by rw [Lib.bytesWorld_size]; exact Nat.lt_succ_self _, fun j u hu => ?_⟩⟩
    have hj : j < l.length := by have := (List.getElem?_eq_some_iff.1 hu).1; rwa [b8s_length] at this
    rw [b8s_get l j hj] at hu
    have := Lib.bytesWorld_cell w 5 (bst l) j hj
    rw [Addr.add_lit, Nat.zero_add, this, ← hu]
    have e : (bst l).data.toList = l := by simp [bst]
    rw [e, List.getD_eq_getElem?_getD, List.getElem?_eq_getElem hj]
    rfl
  · have h := Lib.bytesWorld_at_new w 5 (bst l)
    have hs : l.length ≤ (Lib.bytesCells w 5 (bst l)).size := by simp [Lib.bytesCells, bst]
    simp only [World.frozen?, h]
    simp
    omega
  · exact ⟨rfl, rfl, rfl, by rw [Lib.bytesWorld_size]; exact Nat.le_succ _, fun k hk => Lib.bytesWorld_at_old w _ _ k hk⟩
theorem wpList_conv_sb {ops : Array Oper} {rest : List Oper} {o : Oper} {a : Act} {w : World} {Q : Exit → Act → World → Prop} (hgd : o.guard = none) (x : Operand) (ho : o.op = .convert 9 30 x) (l : List UInt8) (hx : a.eval x = .string (bst l)) (hl : l.length ≤ 281474976710656)
    (h : ∀ c w', SB w w' c l → wpList Try.prog ops Q rest (a.put o.dst (.slice (some ⟨w.heap.size, 0, none⟩) l.length c)) w') : wpList Try.prog ops Q (o :: rest) a w :=
  wpList_plain hgd fun K hK => by
    have hr := Lib.run_convert_string_bytes (P := Try.prog) w 9 30 5 (bst l) Try.underlying9 Try.underlying30 Try.underlying5
    unfold Oper.wp execOp
    simp only [ho, hx, Sem.run_bind, hr, Result.andThen_ok]
    exact hK _ _ (h _ _ (sb_of w l hl))
/-- a byte of it is written -/
theorem By.set_ {w : World} {B g k n c : Nat} {l : List UInt8} (h : By w B (.slice (some ⟨g, 0, none⟩) n c) l) (hk : k < l.length) (b : UInt8) : By (w.setCell ⟨g, k, none⟩ (.int .u8 (b.toNat : Int))) B (.slice (some ⟨g, 0, none⟩) n c) (l.set k b) := by
  obtain ⟨A, c', e, h1, h2, h3, h4⟩ := h
  injection e with e1 e2 e3
  subst e1; subst e2; subst e3
  obtain ⟨ad, e, hb, hc⟩ := h4 (by omega)
  injection e with e
  subst e
  refine ⟨_, _, by rw [List.length_set], by rw [List.length_set]; exact h1, h2, by simp [b8s], fun hn => ⟨_, rfl, hb, fun j u hu => ?_⟩⟩
  have e : b8s (l.set k b) = (b8s l).set k (b8 b) := by unfold b8s; rw [List.map_set]
  rw [e, List.getElem?_set] at hu
  rw [Addr.add_lit, Nat.zero_add]
  have hck := hc k _ (b8s_get l k hk)
  rw [Addr.add_lit, Nat.zero_add] at hck
  by_cases hkj : k = j
  · subst hkj
    rw [if_pos rfl, if_pos (by rw [b8s_length]; exact hk)] at hu
    rw [World.cell?_setCell_same _ _ _ hck, ← hu]
    rfl
  · rw [if_neg hkj] at hu
    have := hc j u hu
    rw [Addr.add_lit, Nat.zero_add] at this
    rw [World.cell?_setCell_other _ _ _ _ (by intro e; injection e with _ e _; omega), this]
end Go.Proofs.Ytpoicbhbkabllaa
