/- The law 'ShardFinds' returns true for every input, and each argument reads behind the call as it read before. No condition. -/
import Derived.Test.YthfnikdapknohaaZShardPuts5
import Derived.Test.YthfnikdapknohaaRows
import Derived.WalkKit
import Derived.ProofKit
import Derived.OpenShut
import Derived.ShutString
import Derived.ChangeOld
import Derived.Below
namespace Go.Proofs.Ythfnikdapknohaa
set_option linter.unusedSimpArgs false
set_option linter.unusedVariables false
open Go.RowKit

/-! ### a section that is read is just its bytes -/
theorem four_inv (a b c d : UInt8) : four (UInt32.ofNat (a.toNat + 256 * b.toNat + 65536 * c.toNat + 16777216 * d.toNat)) = [a, b, c, d] := by
  have h1 := u8_lt a
  have h2 := u8_lt b
  have h3 := u8_lt c
  have h4 := u8_lt d
  unfold four
  have e : (UInt32.ofNat (a.toNat + 256 * b.toNat + 65536 * c.toNat + 16777216 * d.toNat)).toNat = a.toNat + 256 * b.toNat + 65536 * c.toNat + 16777216 * d.toNat := by rw [UInt32.toNat_ofNat']; omega
  generalize UInt32.ofNat (a.toNat + 256 * b.toNat + 65536 * c.toNat + 16777216 * d.toNat) = x at *
  have s8 : (x >>> 8).toNat = x.toNat / 256 := by rw [UInt32.toNat_shiftRight]; simp [Nat.shiftRight_eq_div_pow]
  have s16 : (x >>> 16).toNat = x.toNat / 65536 := by rw [UInt32.toNat_shiftRight]; simp [Nat.shiftRight_eq_div_pow]
  have s24 : (x >>> 24).toNat = x.toNat / 16777216 := by rw [UInt32.toNat_shiftRight]; simp [Nat.shiftRight_eq_div_pow]
  simp only [List.cons.injEq, and_true]
  refine ⟨?_, ?_, ?_, ?_⟩ <;> rw [← UInt8.toNat_inj, UInt32.toNat_toUInt8]
  · omega
  · rw [s8]; omega
  · rw [s16]; omega
  · rw [s24]; omega
theorem fits_mark {l : List UInt8} (h : fitsB l = true) : markOf (l.take (l.length - 4)) = l := by
  unfold fitsB at h
  exact (of_decide_eq_true h).2
theorem sec_inv (b : List UInt8) (h : sE b = 0) (hn : sN b = b.length) : b = frameOf (sK b) (sL b) := by
  have hN : sN b = sLen b + 13 := by unfold sN; rw [if_pos h]
  have hL : sL b = (b.drop 9).take (sLen b) := by unfold sL; rw [if_pos h]
  have hK : sK b = b.getD 0 0 := by unfold sK; rw [if_pos h]
  rw [hN] at hn
  unfold sE at h
  rw [if_neg (by omega)] at h
  split at h
  · simp at h
  · rename_i h1
    have h1 : fitsB (b.take 9) = true := by simpa using h1
    split at h
    · simp at h
    · rename_i h2
      rw [if_neg (by omega)] at h
      split at h
      · rename_i h3
        have m1 := fits_mark h1
        have m2 := fits_mark h3
        have e1 : (b.take 9).length - 4 = 5 := by simp; omega
        have e2 : ((b.drop 9).take (sLen b + 4)).length - 4 = sLen b := by simp; omega
        rw [e1, List.take_take, show min 5 9 = 5 from rfl] at m1
        rw [e2, List.take_take, show min (sLen b) (sLen b + 4) = sLen b from by omega] at m2
        have e3 : (b.drop 9).take (sLen b + 4) = b.drop 9 := List.take_of_length_le (by simp; omega)
        rw [e3] at m2
        have hlen : ((b.drop 9).take (sLen b)).length = sLen b := by simp; omega
        have h5 : b.take 5 = sK b :: four (UInt32.ofNat (sLen b)) := by
          rw [hK]
          unfold sLen
          rw [four_inv]
          match b, hn with
          | b0 :: b1 :: b2 :: b3 :: b4 :: t, _ => rfl
          | [], hn => simp at hn
          | [_], hn => simp at hn
          | [_, _], hn => simp at hn
          | [_, _, _], hn => simp at hn
          | [_, _, _, _], hn => simp at hn
        have : b = b.take 9 ++ b.drop 9 := (List.take_append_drop 9 b).symm
        rw [frameOf, hL, hlen, m2, ← h5, m1, List.take_append_drop]
      · simp at h

/-! ### an index -/
structure GSpan where
  low : UInt32
  rows : UInt32
  size : UInt32
deriving DecidableEq
def idxOk : Option UInt32 → List GSpan → Bool
  | _, [] => true
  | p, s :: t => decide (lowP p ≤ s.low.toNat) && (s.rows != 0) && (s.size != 0) && idxOk (some s.low) t
def span1 (next : Nat) (s : GSpan) : List UInt8 := vput (s.low.toNat - next) ++ vput s.rows.toNat ++ vput s.size.toNat
def spansB : Nat → List GSpan → List UInt8
  | _, [] => []
  | n, s :: t => span1 n s ++ spansB (s.low.toNat + 1) t
def ibody (l : List GSpan) : List UInt8 := vput l.length ++ spansB 0 l
def ienc (l : List GSpan) : List UInt8 := frameOf 73 (ibody l)
def nxtS (n : Nat) (l : List GSpan) : Nat := match l.getLast? with | none => n | some r => r.low.toNat + 1
theorem nxtS_snoc (n : Nat) (l : List GSpan) (r : GSpan) : nxtS n (l ++ [r]) = r.low.toNat + 1 := by simp [nxtS]
theorem nxtS_cons (n : Nat) (a : GSpan) (t : List GSpan) : nxtS n (a :: t) = nxtS (a.low.toNat + 1) t := by
  cases t with
  | nil => simp [nxtS]
  | cons b t =>
    simp only [nxtS, List.getLast?_cons_cons]
    cases h : (b :: t).getLast? with
    | none => simp at h
    | some r => rfl
theorem nxtS_le (l : List GSpan) : nxtS 0 l ≤ 4294967296 := by
  unfold nxtS
  split
  · omega
  · rename_i r _; have := u32_lt r.low; omega
theorem spansB_snoc : ∀ (l : List GSpan) (n : Nat) (r : GSpan), spansB n (l ++ [r]) = spansB n l ++ span1 (nxtS n l) r
  | [], n, r => by simp [spansB, nxtS]
  | a :: t, n, r => by
    rw [List.cons_append, spansB, spansB, spansB_snoc t, nxtS_cons, List.append_assoc]
theorem idxOk_snoc : ∀ (l : List GSpan) (p : Option UInt32) (r : GSpan), idxOk p (l ++ [r]) = (idxOk p l && (decide (nxtS (lowP p) l ≤ r.low.toNat) && (r.rows != 0) && (r.size != 0)))
  | [], p, r => by simp [idxOk, nxtS]; rfl
  | a :: t, p, r => by
    rw [List.cons_append, idxOk, idxOk, idxOk_snoc t, nxtS_cons]
    simp only [Bool.and_assoc]
    rfl
theorem idxOk_false : ∀ (l m : List GSpan) (p : Option UInt32), idxOk p l = false → idxOk p (l ++ m) = false
  | [], m, p, h => by simp [idxOk] at h
  | a :: t, m, p, h => by
    rw [List.cons_append, idxOk]
    rw [idxOk] at h
    rw [Bool.and_eq_false_iff] at h ⊢
    rcases h with h | h
    · exact .inl h
    · exact .inr (idxOk_false t m _ h)
theorem idxOk_take (l : List GSpan) (k : Nat) (h : idxOk none l = true) : idxOk none (l.take k) = true := by
  cases h1 : idxOk none (l.take k) with
  | true => rfl
  | false =>
    have := idxOk_false (l.take k) (l.drop k) none h1
    rw [List.take_append_drop, h] at this
    cases this
theorem idxOk_at (l : List GSpan) (k : Nat) (hk : k < l.length) (h0 : idxOk none (l.take k) = true) :
    idxOk none (l.take (k + 1)) = (decide (nxtS 0 (l.take k) ≤ (l[k]).low.toNat) && ((l[k]).rows != 0) && ((l[k]).size != 0)) := by
  rw [List.take_add_one, List.getElem?_eq_getElem hk]
  show idxOk none (l.take k ++ [l[k]]) = _
  rw [idxOk_snoc, h0]
  rfl
theorem idxOk_stop (l : List GSpan) (k : Nat) (h0 : idxOk none (l.take k) = false) : idxOk none l = false := by
  have := idxOk_false (l.take k) (l.drop k) none h0
  rwa [List.take_append_drop] at this
theorem span1_len (n : Nat) (s : GSpan) : (span1 n s).length ≤ 33 ∧ 1 ≤ (span1 n s).length := by
  have h1 := vput_len64 (s.low.toNat - n) (by have := u32_lt s.low; omega)
  have h2 := vput_len64 s.rows.toNat (by have := u32_lt s.rows; omega)
  have h3 := vput_len64 s.size.toNat (by have := u32_lt s.size; omega)
  simp only [span1, List.length_append]
  omega
theorem spansB_len : ∀ (l : List GSpan) (n : Nat), (spansB n l).length ≤ 33 * l.length ∧ l.length ≤ (spansB n l).length
  | [], _ => by simp [spansB]
  | r :: t, n => by
    have h4 := span1_len n r
    have h5 := spansB_len t (r.low.toNat + 1)
    rw [spansB, List.length_append, List.length_cons]
    omega
theorem ibody_len (l : List GSpan) (hs : l.length ≤ 20000) : (ibody l).length ≤ 1000000 ∧ l.length ≤ (ibody l).length := by
  have h1 := spansB_len l 0
  have h2 := vput_len64 l.length (by omega)
  rw [ibody, List.length_append]
  omega

/-! ### reading -/
def spN (next : Nat) (s : List UInt8) (e : Int) : Nat × List UInt8 × Int := numS (4294967295 - next) s e
def spR (a : Nat × List UInt8 × Int) : Nat × List UInt8 × Int := numS 4294967295 a.2.1 a.2.2
def sp2 (next : Nat) (s : List UInt8) (e : Int) : Nat × List UInt8 × Int := spR (spN next s e)
def sp3 (next : Nat) (s : List UInt8) (e : Int) : Nat × List UInt8 × Int := spR (sp2 next s e)
def spL (next : Nat) (s : List UInt8) (e : Int) : GSpan := ⟨UInt32.ofNat (next + (spN next s e).1), UInt32.ofNat (sp2 next s e).1, UInt32.ofNat (sp3 next s e).1⟩
def pspans : Nat → Nat → List GSpan → List UInt8 → Int → List GSpan × List UInt8 × Int
  | 0, _, acc, s, e => (acc, s, e)
  | n + 1, next, acc, s, e => if e ≠ 0 ∨ 4294967295 < next then (acc, s, e)
    else pspans n (next + (spN next s e).1 + 1) (acc ++ [spL next s e]) (sp3 next s e).2.1 (sp3 next s e).2.2
def pidx (b : List UInt8) : List GSpan := (pspans (numS b.length (sL b) 0).1 0 [] (numS b.length (sL b) 0).2.1 (numS b.length (sL b) 0).2.2).1
theorem span1_tail (next : Nat) (r : GSpan) (t : List UInt8) : span1 next r ++ t = vput (r.low.toNat - next) ++ (vput r.rows.toNat ++ (vput r.size.toNat ++ t)) := by simp [span1]
theorem numS_u32 (x : UInt32) (t : List UInt8) : numS 4294967295 (vput x.toNat ++ t) 0 = (x.toNat, t, 0) := by
  have := u32_lt x
  rw [numS_zero, numR_vput _ _ _ (by omega) (by omega)]
theorem span_ok (next : Nat) (r : GSpan) (t : List UInt8) (h1 : next ≤ r.low.toNat) :
    (spN next (span1 next r ++ t) 0).1 = r.low.toNat - next ∧ spL next (span1 next r ++ t) 0 = r ∧ (sp3 next (span1 next r ++ t) 0).2 = (t, 0) := by
  have hf := u32_lt r.low
  have e1 : spN next (span1 next r ++ t) 0 = (r.low.toNat - next, vput r.rows.toNat ++ (vput r.size.toNat ++ t), 0) := by
    unfold spN
    rw [numS_zero, span1_tail, numR_vput _ _ _ (by omega) (by omega)]
  have e2 : sp2 next (span1 next r ++ t) 0 = (r.rows.toNat, vput r.size.toNat ++ t, 0) := by
    unfold sp2
    rw [e1]
    exact numS_u32 _ _
  have e3 : sp3 next (span1 next r ++ t) 0 = (r.size.toNat, t, 0) := by
    unfold sp3
    rw [e2]
    exact numS_u32 _ _
  refine ⟨by rw [e1], ?_, by rw [e3]⟩
  unfold spL
  rw [e1, e2, e3]
  simp only
  rw [show next + (r.low.toNat - next) = r.low.toNat from by omega, UInt32.ofNat_toNat, UInt32.ofNat_toNat, UInt32.ofNat_toNat]
theorem idxOk_cons {p : Option UInt32} {r : GSpan} {t : List GSpan} (h : idxOk p (r :: t) = true) : lowP p ≤ r.low.toNat ∧ r.rows ≠ 0 ∧ r.size ≠ 0 ∧ idxOk (some r.low) t = true := by
  rw [idxOk] at h
  simp only [Bool.and_eq_true, decide_eq_true_eq, bne_iff_ne] at h
  exact ⟨h.1.1.1, h.1.1.2, h.1.2, h.2⟩
theorem pspans_ok : ∀ (l : List GSpan) (p : Option UInt32) (acc : List GSpan) (t : List UInt8), idxOk p l = true →
    pspans l.length (lowP p) acc (spansB (lowP p) l ++ t) 0 = (acc ++ l, t, 0)
  | [], p, acc, t, _ => by simp [pspans, spansB]
  | r :: l, p, acc, t, h => by
    obtain ⟨h2, _, _, h3⟩ := idxOk_cons h
    have hf := u32_lt r.low
    obtain ⟨e1, e2, e3⟩ := span_ok (lowP p) r (spansB (r.low.toNat + 1) l ++ t) h2
    rw [List.length_cons, pspans, if_neg (by omega), spansB, List.append_assoc, e1, e2, e3]
    simp only
    have := pspans_ok l (some r.low) (acc ++ [r]) t h3
    simp only [lowP] at this
    rw [show lowP p + (r.low.toNat - lowP p) + 1 = r.low.toNat + 1 from by omega, this]
    simp
/-- these bytes are an index' -/
def isIdx (b : List UInt8) : Prop := sE b = 0 ∧ sK b = 73 ∧ idxOk none (pidx b) = true ∧ ienc (pidx b) = b
theorem idx_read (l : List GSpan) (hs : l.length ≤ 20000) :
    sE (ienc l) = 0 ∧ sN (ienc l) = (ienc l).length ∧ sK (ienc l) = 73 ∧ sL (ienc l) = ibody l := by
  have hb := ibody_len l hs
  have h1 := sE_frame 73 (ibody l) [] (by omega)
  have h2 := sN_frame 73 (ibody l) [] (by omega)
  have h3 := sK_frame 73 (ibody l) [] (by omega)
  have h4 := sL_frame 73 (ibody l) [] (by omega)
  rw [List.append_nil] at h1 h2 h3 h4
  exact ⟨h1, by rw [ienc, h2, frameOf_length], h3, h4⟩
theorem pidx_ok (l : List GSpan) (h : idxOk none l = true) (hs : l.length ≤ 20000) : pidx (ienc l) = l := by
  obtain ⟨_, _, _, h4⟩ := idx_read l hs
  have hn : l.length ≤ (ienc l).length := by
    rw [ienc, frameOf_length]
    have := ibody_len l hs
    omega
  unfold pidx
  rw [h4, numS_zero, ibody, numR_vput _ _ _ (by omega) hn]
  have := pspans_ok l none [] [] h
  simp only [lowP, List.append_nil, List.nil_append] at this
  simp only
  rw [this]
theorem isIdx_enc (l : List GSpan) (h : idxOk none l = true) (hs : l.length ≤ 20000) : isIdx (ienc l) := by
  obtain ⟨h1, h2, h3, _⟩ := idx_read l hs
  refine ⟨h1, h3, ?_⟩
  rw [pidx_ok l h hs]
  exact ⟨h, rfl⟩

/-! ### the document's reader -/
def rspN (s : List UInt8) (e : Int) : Nat × List UInt8 × Int := numS 4294967295 s e
def rsp2 (s : List UInt8) (e : Int) : Nat × List UInt8 × Int := spR (rspN s e)
def rsp3 (s : List UInt8) (e : Int) : Nat × List UInt8 × Int := spR (rsp2 s e)
def rspL (p : Option UInt32) (s : List UInt8) (e : Int) : GSpan := ⟨UInt32.ofNat (rfrom p (rspN s e).1), UInt32.ofNat (rsp2 s e).1, UInt32.ofNat (rsp3 s e).1⟩
def rspans : Nat → Option UInt32 → List GSpan → List UInt8 → Int → Option (List GSpan × List UInt8 × Int)
  | 0, _, acc, s, e => some (acc, s, e)
  | n + 1, p, acc, s, e => if e ≠ 0 then some (acc, s, e)
    else if 4294967295 < rfrom p (rspN s e).1 then none
    else rspans n (some (UInt32.ofNat (rfrom p (rspN s e).1))) (acc ++ [rspL p s e]) (rsp3 s e).2.1 (rsp3 s e).2.2
def ridx (b : List UInt8) : Option (List GSpan × List UInt8 × Int) := rspans (numS 18446744073709551615 (sL b) 0).1 none [] (numS 18446744073709551615 (sL b) 0).2.1 (numS 18446744073709551615 (sL b) 0).2.2
theorem rspan_ok (p : Option UInt32) (r : GSpan) (t : List UInt8) (h1 : lowP p ≤ r.low.toNat) :
    rfrom p (rspN (span1 (lowP p) r ++ t) 0).1 = r.low.toNat ∧ rspL p (span1 (lowP p) r ++ t) 0 = r ∧ (rsp3 (span1 (lowP p) r ++ t) 0).2 = (t, 0) := by
  have hf := u32_lt r.low
  have e1 : rspN (span1 (lowP p) r ++ t) 0 = (r.low.toNat - lowP p, vput r.rows.toNat ++ (vput r.size.toNat ++ t), 0) := by
    unfold rspN
    rw [numS_zero, span1_tail, numR_vput _ _ _ (by omega) (by omega)]
  have e2 : rsp2 (span1 (lowP p) r ++ t) 0 = (r.rows.toNat, vput r.size.toNat ++ t, 0) := by
    unfold rsp2
    rw [e1]
    exact numS_u32 _ _
  have e3 : rsp3 (span1 (lowP p) r ++ t) 0 = (r.size.toNat, t, 0) := by
    unfold rsp3
    rw [e2]
    exact numS_u32 _ _
  have e4 : rfrom p (rspN (span1 (lowP p) r ++ t) 0).1 = r.low.toNat := by
    rw [e1]
    cases p with
    | none => simp [rfrom, lowP]
    | some q => simp only [rfrom, lowP] at *; omega
  refine ⟨e4, ?_, by rw [e3]⟩
  unfold rspL
  rw [e4, e2, e3]
  simp only
  rw [UInt32.ofNat_toNat, UInt32.ofNat_toNat, UInt32.ofNat_toNat]
theorem rspans_ok : ∀ (l : List GSpan) (p : Option UInt32) (acc : List GSpan) (t : List UInt8), idxOk p l = true →
    rspans l.length p acc (spansB (lowP p) l ++ t) 0 = some (acc ++ l, t, 0)
  | [], p, acc, t, _ => by simp [rspans, spansB]
  | r :: l, p, acc, t, h => by
    obtain ⟨h2, _, _, h3⟩ := idxOk_cons h
    have hf := u32_lt r.low
    obtain ⟨e1, e2, e3⟩ := rspan_ok p r (spansB (r.low.toNat + 1) l ++ t) h2
    rw [List.length_cons, rspans, if_neg (by simp), spansB, List.append_assoc, e1, if_neg (by omega), e2, e3, UInt32.ofNat_toNat]
    have := rspans_ok l (some r.low) (acc ++ [r]) t h3
    simp only [lowP] at this
    rw [this]
    simp
theorem ridx_ok (l : List GSpan) (h : idxOk none l = true) (hs : l.length ≤ 20000) : ridx (ienc l) = some (l, [], 0) := by
  obtain ⟨_, _, _, h4⟩ := idx_read l hs
  unfold ridx
  rw [h4, numS_zero, ibody, numR_vput _ _ _ (by omega) (by omega)]
  have := rspans_ok l none [] [] h
  simp only [lowP, List.append_nil, List.nil_append] at this
  exact this

/-! ### what is read to the end is just its bytes -/
theorem numS_ok (most : Nat) (s : List UInt8) (e : Int) (h : (numS most s e).2.2 = 0) : e = 0 ∧ s = vput (numS most s e).1 ++ (numS most s e).2.1 ∧ (numS most s e).1 ≤ most := by
  have h0 : e = 0 := by
    rcases Decidable.em (e = 0) with h0 | h0
    · exact h0
    · exfalso
      unfold numS at h
      rw [if_pos h0] at h
      exact h0 h
  subst h0
  refine ⟨rfl, ?_, (numS_lt most s 0).2⟩
  rw [numS_zero] at h ⊢
  exact numR_one most s _ _ (by rw [← h])
theorem rspans_inv : ∀ (n : Nat) (p : Option UInt32) (acc : List GSpan) (s : List UInt8) (e : Int) (out : List GSpan) (s' : List UInt8),
    rspans n p acc s e = some (out, s', 0) → e = 0 ∧ ∃ l, out = acc ++ l ∧ l.length = n ∧ s = spansB (lowP p) l ++ s'
  | 0, p, acc, s, e, out, s', h => by
    simp only [rspans, Option.some.injEq, Prod.mk.injEq] at h
    obtain ⟨rfl, rfl, rfl⟩ := h
    exact ⟨rfl, [], by simp, rfl, by simp [spansB]⟩
  | n + 1, p, acc, s, e, out, s', h => by
    rw [rspans] at h
    split at h
    · rename_i h0
      simp only [Option.some.injEq, Prod.mk.injEq] at h
      exact absurd h.2.2 h0
    · rename_i h0
      split at h
      · cases h
      · rename_i h1
        obtain ⟨he, l, h2, h3, h4⟩ := rspans_inv n _ _ _ _ _ _ h
        obtain ⟨he2, k3, m3⟩ := numS_ok _ _ _ he
        obtain ⟨he1, k2, m2⟩ := numS_ok _ _ _ he2
        obtain ⟨he0, k1, m1⟩ := numS_ok _ _ _ he1
        refine ⟨he0, rspL p s e :: l, by rw [h2]; simp, by simp [h3], ?_⟩
        have hlow : (rspL p s e).low.toNat = rfrom p (rspN s e).1 := by
          show (UInt32.ofNat _).toNat = _
          rw [UInt32.toNat_ofNat']; omega
        have hrows : (rspL p s e).rows.toNat = (rsp2 s e).1 := by
          show (UInt32.ofNat _).toNat = _
          have : (rsp2 s e).1 ≤ 4294967295 := m2
          rw [UInt32.toNat_ofNat']; omega
        have hsize : (rspL p s e).size.toNat = (rsp3 s e).1 := by
          show (UInt32.ofNat _).toNat = _
          have : (rsp3 s e).1 ≤ 4294967295 := m3
          rw [UInt32.toNat_ofNat']; omega
        have hgap : (rspL p s e).low.toNat - lowP p = (rspN s e).1 := by
          rw [hlow]
          cases p with
          | none => simp [rfrom, lowP]
          | some q => simp only [rfrom, lowP]; omega
        have hlow' : lowP (some (UInt32.ofNat (rfrom p (rspN s e).1))) = (rspL p s e).low.toNat + 1 := rfl
        rw [hlow'] at h4
        rw [spansB, List.append_assoc, ← h4, span1_tail, hgap, hrows, hsize]
        refine k1.trans ?_
        congr 1
        refine k2.trans ?_
        congr 1
theorem ridx_inv (b : List UInt8) (out : List GSpan) (h1 : sE b = 0) (h2 : sN b = b.length) (h3 : sK b = 73) (h4 : ridx b = some (out, [], 0)) : ienc out = b := by
  unfold ridx at h4
  obtain ⟨he, l, e1, e2, e3⟩ := rspans_inv _ _ _ _ _ _ _ h4
  obtain ⟨_, k, _⟩ := numS_ok _ _ _ he
  rw [List.nil_append] at e1
  subst e1
  have hb := sec_inv b h1 h2
  have hL : sL b = ibody out := by
    rw [k, e3, ibody, e2]
    simp [lowP]
  rw [ienc, ← hL, ← h3]
  exact hb.symm
end Go.Proofs.Ythfnikdapknohaa

namespace Go.Proofs.Ythfnikdapknohaa
set_option linter.unusedSimpArgs false
set_option linter.unusedVariables false
open Go.RowKit

def cSpan : Cdc GSpan := Cdc.flat 3 (fun a => [.int .u32 (a.low.toNat : Int), .int .u32 (a.rows.toNat : Int), .int .u32 (a.size.toNat : Int)]) (fun _ => True) (fun _ => rfl) (fun x u hu => by
  simp at hu
  rcases hu with rfl | rfl | rfl <;> rfl)
theorem infoSpan : (Try.prog.info? 59).map (fun i => (i.zero, i.size, i.bytes)) = some (some (.agg #[.int .u32 0, .int .u32 0, .int .u32 0]), cSpan.n, 12) := by kernel_rfl
theorem InC.spans' {w : World} {cs : List Value} (h : InC w 41 cs) : ∃ v xs, cs = [v] ∧ RowOn cSpan w (fun k => k < w.heap.size) (fun k => k < w.heap.size) v xs :=
  h.row (C := cSpan) Try.underlying41 (by kernel_rfl) (by decide) fun cs hc => by
    obtain ⟨hl, hf⟩ := hc.fields Try.underlying59 (by kernel_rfl) (by kernel_rfl)
    obtain ⟨u0, h0, g0⟩ := hf 0 _ rfl
    obtain ⟨u1, h1, g1⟩ := hf 1 _ rfl
    obtain ⟨u2, h2, g2⟩ := hf 2 _ rfl
    obtain ⟨n0, e0, k0⟩ := InC.u32 (S := fun _ => True) Try.underlying51 g0
    obtain ⟨n1, e1, k1⟩ := InC.u32 (S := fun _ => True) Try.underlying51 g1
    obtain ⟨n2, e2, k2⟩ := InC.u32 (S := fun _ => True) Try.underlying51 g2
    simp at e0 e1 e2
    subst e0; subst e1; subst e2
    match cs, hl with
    | [c0, c1, c2], _ =>
      injection h0 with h0
      injection h1 with h1
      injection h2 with h2
      subst h0; subst h1; subst h2
      exact ⟨⟨n0, n1, n2⟩, rfl, trivial⟩
/-- the value reads as these spans, in blocks below B -/
abbrev ByS (w : World) (B : Nat) (v : Value) (l : List GSpan) : Prop := RowOn cSpan w (fun k => k < B) (fun _ => True) v l
theorem ByS.below {w w' : World} {B : Nat} {v : Value} {l : List GSpan} (h : ByS w B v l) (hb : Below B w w') : ByS w' B v l := by
  obtain ⟨A, c, h1, h2, h3, h4⟩ := h
  refine ⟨A, c, h1, h2, h3, fun hn => ?_⟩
  obtain ⟨ad, e, hb', hc⟩ := h4 hn
  refine ⟨ad, e, hb', fun i x hx => ?_⟩
  obtain ⟨cs, ha, hcs⟩ := hc i x hx
  exact ⟨cs, ha, fun j u hu => (hb.cell (by rw [add_block]; exact hb')).trans (hcs j u hu)⟩
theorem ByS.more {w : World} {B B' : Nat} {v : Value} {l : List GSpan} (h : ByS w B v l) (hB : B ≤ B') : ByS w B' v l := h.mono (fun _ hk => by omega) fun _ hk => hk
theorem ByS.step {w w' : World} {v : Value} {l : List GSpan} (h : ByS w w.heap.size v l) (hb : Below w.heap.size w w') : ByS w' w'.heap.size v l := (h.below hb).more hb.size
theorem InC.spans {w : World} {v : Value} (h : InC w 41 [v]) : ∃ l, ByS w w.heap.size v l := by
  obtain ⟨v', xs, e, hr⟩ := h.spans'
  injection e with e
  subst e
  exact ⟨xs, hr.mono (fun _ hk => hk) (fun _ _ => trivial)⟩
/-- the three cells of the k-th span -/
theorem ByS.cells {w : World} {B : Nat} {A : Option Addr} {n c : Nat} {l : List GSpan} (h : ByS w B (.slice A n c) l) (k : Nat) (hk : k < l.length) :
    ∃ ad, A = some ad ∧ ad.block < B ∧ w.cell? (ad.add (k * 3)) = some (.int .u32 ((l[k]).low.toNat : Int)) ∧ w.cell? { block := (ad.add (k * 3)).block, off := (ad.add (k * 3)).off + 1 } = some (.int .u32 ((l[k]).rows.toNat : Int)) ∧ w.cell? { block := (ad.add (k * 3)).block, off := (ad.add (k * 3)).off + 2 } = some (.int .u32 ((l[k]).size.toNat : Int)) := by
  obtain ⟨ad, cs, e, hb, ⟨rfl, _⟩, hc⟩ := h.at_ k l[k] (List.getElem?_eq_getElem hk)
  refine ⟨ad, e, hb, hc 0 _ rfl, ?_, ?_⟩
  · have := hc 1 _ rfl
    rw [← add_add] at this
    have e2 : (ad.add (k * cSpan.n)).add 1 = { block := (ad.add (k * 3)).block, off := (ad.add (k * 3)).off + 1 } := by simp [Addr.add, cSpan, Cdc.flat]
    rw [← e2]
    exact this
  · have := hc 2 _ rfl
    rw [← add_add] at this
    have e2 : (ad.add (k * cSpan.n)).add 2 = { block := (ad.add (k * 3)).block, off := (ad.add (k * 3)).off + 2 } := by simp [Addr.add, cSpan, Cdc.flat]
    rw [← e2]
    exact this
end Go.Proofs.Ythfnikdapknohaa

namespace Go.Proofs.Ythfnikdapknohaa
set_option linter.unusedSimpArgs false
set_option linter.unusedVariables false
open Go.RowKit

set_option maxRecDepth 100000 in
set_option maxHeartbeats 800000 in
theorem isnan32 (w : World) (a : Nat) (ha : a < 4294967296) : Calls Try.prog 88 #[.int .u32 (a : Int)] w fun e w' => e = .returned (.bool false) ∧ w = w' := by
  go_enter Try.func88, Try.ntmps88
  go_wp2_with fail
  go_ret
  exact ⟨rfl, rfl⟩
def cmp3 (a b : Nat) : Int := if a < b then -1 else if b < a then 1 else 0
set_option maxRecDepth 100000 in
set_option maxHeartbeats 800000 in
theorem compare32 (w : World) (a b : Nat) (ha : a < 4294967296) (hb : b < 4294967296) : Calls Try.prog 66 #[.int .u32 (a : Int), .int .u32 (b : Int)] w fun e w' => e = .returned (.int .i64 (cmp3 a b)) ∧ w = w' := by
  have hc : cmp3 a b = if a < b then -1 else if b < a then 1 else 0 := rfl
  by_cases h1 : a < b
  · rw [if_pos h1] at hc
    rw [hc]
    clear hc
    go_enter Try.func66, Try.ntmps66
    go_wp2_with fail
    refine (isnan32 w a ha).mono ?_
    rintro _ _ ⟨rfl, rfl⟩
    go_wp2_with fail
    refine (isnan32 w b hb).mono ?_
    rintro _ _ ⟨rfl, rfl⟩
    go_wp2_with fail
    go_ret
    exact ⟨rfl, rfl⟩
  · rw [if_neg h1] at hc
    have hd1 : decide ((a : Int) < (b : Int)) = false := by simp; omega
    have hd1' : decide (a < b) = false := by simp; omega
    by_cases h2 : b < a
    · rw [if_pos h2] at hc
      rw [hc]
      clear hc h1
      go_enter Try.func66, Try.ntmps66
      go_wp2_with fail
      refine (isnan32 w a ha).mono ?_
      rintro _ _ ⟨rfl, rfl⟩
      go_wp2_with fail
      refine (isnan32 w b hb).mono ?_
      rintro _ _ ⟨rfl, rfl⟩
      go_wp2_with fail
      go_ret
      exact ⟨rfl, rfl⟩
    · rw [if_neg h2] at hc
      rw [hc]
      have hd2 : decide ((b : Int) < (a : Int)) = false := by simp; omega
      have hd2' : decide (b < a) = false := by simp; omega
      clear hc h1 h2
      go_enter Try.func66, Try.ntmps66
      go_wp2_with fail
      refine (isnan32 w a ha).mono ?_
      rintro _ _ ⟨rfl, rfl⟩
      go_wp2_with fail
      refine (isnan32 w b hb).mono ?_
      rintro _ _ ⟨rfl, rfl⟩
      go_wp2_with fail
      go_ret
      exact ⟨rfl, rfl⟩
/-- where an end stands among rising ones -/
def FoundAt (l : List GArc) (t : Nat) (i : Nat) (b : Bool) : Prop :=
  i ≤ l.length ∧ (∀ j, (h : j < l.length) → j < i → (l[j]).to.toNat < t) ∧ (∀ j, (h : j < l.length) → i ≤ j → t ≤ (l[j]).to.toNat) ∧ b = decide (∃ h : i < l.length, (l[i]).to.toNat = t)
theorem rise_lt (l : List GArc) (hr : rise none l = true) : ∀ i j, (hi : i < j) → (hj : j < l.length) → (l[i]'(by omega)).to.toNat < (l[j]).to.toNat := by
  intro i j hi hj
  induction j with
  | zero => omega
  | succ j ih =>
    have h1 := nextOf_le l (j + 1) hj hr
    rw [nextOf_succ l j (by omega)] at h1
    rcases Nat.lt_or_ge i j with h | h
    · have := ih h (by omega); omega
    · obtain rfl : i = j := by omega
      omega
end Go.Proofs.Ythfnikdapknohaa

namespace Go.Proofs.Ythfnikdapknohaa
set_option linter.unusedSimpArgs false
set_option linter.unusedVariables false
open Go.RowKit

set_option maxRecDepth 100000 in
set_option maxHeartbeats 800000 in
theorem sfind1_any (w : World) (a x y b : Nat) (ha : a < 4294967296) (hb : b < 4294967296) : Calls Try.prog 65 #[.agg #[.int .u32 (a : Int), .int .u32 (x : Int), .int .u32 (y : Int)], .int .u32 (b : Int)] w fun e w' => e = .returned (.int .i64 (cmp3 a b)) ∧ Below w.heap.size w w' := by
  have hc := fun W => compare32 W a b ha hb
  have Hc := Lib.hid hc
  clear hc
  generalize cmp3 a b = c at *
  go_enter Try.func65, Try.ntmps65
  go_wp2_with fail
  refine (Hc.out _).mono ?_
  rintro _ _ ⟨rfl, rfl⟩
  go_wp2_with fail
  go_ret
  exact ⟨rfl, balloc _ _⟩
/-- where an end stands among rising ones -/
def FoundS (l : List GSpan) (t : Nat) (i : Nat) (b : Bool) : Prop :=
  i ≤ l.length ∧ (∀ j, (h : j < l.length) → j < i → (l[j]).low.toNat < t) ∧ (∀ j, (h : j < l.length) → i ≤ j → t ≤ (l[j]).low.toNat) ∧ b = decide (∃ h : i < l.length, (l[i]).low.toNat = t)
set_option maxRecDepth 100000 in
set_option maxHeartbeats 1600000 in
theorem sbsf_any (w : World) (B : Nat) (v : Value) (l : List GSpan) (hl : l.length ≤ 4294967296) (t : Nat) (ht : t < 4294967296) (h : ByS w B v l) (hB : B ≤ w.heap.size) (hs : ∀ i j, (hi : i < j) → (hj : j < l.length) → (l[i]'(by omega)).low.toNat < (l[j]).low.toNat) :
    Calls Try.prog 64 #[v, .int .u32 (t : Int), .func (.func 65) #[] #[]] w fun e w' => ∃ i b, e = .returned (.tuple #[.int .i64 (i : Nat), .bool b]) ∧ FoundS l t i b ∧ Below w.heap.size w w' := by
  obtain ⟨A, c, rfl, hc1, hc2⟩ := h.form
  unfold maxLen at hc2
  have Hs := Lib.hid hs
  clear hs
  go_enter Try.func64, Try.ntmps64
  go_wp2_with fail
  go_loopw [9, 10] (fun lo hi wr => ∃ a b : Nat, lo = .int .i64 a ∧ hi = .int .i64 b ∧ a ≤ b ∧ b ≤ l.length ∧ (∀ j, (h : j < l.length) → j < a → (l[j]).low.toNat < t) ∧ (∀ j, (h : j < l.length) → b ≤ j → t ≤ (l[j]).low.toNat) ∧ Below w.heap.size w wr) (fun lo hi _ => (intOf hi).toNat - (intOf lo).toNat)
  case atStart => exact ⟨0, l.length, rfl, rfl, by omega, by omega, fun j _ hj => by omega, fun j hj1 hj2 => by omega, Below.refl _ _⟩
  case round =>
    obtain ⟨a, b, rfl, rfl, hab, hbn, hlo, hhi, hbl⟩ := hrel
    have hsz := hbl.size
    have Hlo := Lib.hid hlo
    have Hhi := Lib.hid hhi
    clear hlo hhi
    by_cases hlt : a < b
    · obtain ⟨m, hm⟩ : ∃ m, m = (a + b) / 2 := ⟨_, rfl⟩
      have hmi : ((a : Int) + (b : Int)) / 2 = ((m : Nat) : Int) := by omega
      have hml : m < l.length := by omega
      obtain ⟨ad, rfl, hadb, hx0, hx1, hx2⟩ := (h.below (hbl.mono hB)).cells m hml
      have hto := u32_lt (l[m]).low
      have hf := fun W => sfind1_any W (l[m]).low.toNat (l[m]).rows.toNat (l[m]).size.toNat t hto ht
      have Hf := Lib.hid hf
      have hcm : cmp3 (l[m]).low.toNat t = if (l[m]).low.toNat < t then -1 else if t < (l[m]).low.toNat then 1 else 0 := rfl
      have hlow : (l[m]).low.toNat < t → ∀ j, (h : j < l.length) → j < m + 1 → (l[j]).low.toNat < t := fun hl j hj hjm => by
        rcases Nat.lt_or_ge j m with h | h
        · have := Hs.out j m h hml; omega
        · obtain rfl : j = m := by omega
          exact hl
      have hhigh : ¬ (l[m]).low.toNat < t → ∀ j, (h : j < l.length) → m ≤ j → t ≤ (l[j]).low.toNat := fun hl j hj hjm => by
        rcases Nat.lt_or_ge m j with h | h
        · have := Hs.out m j h hj; omega
        · obtain rfl : j = m := by omega
          omega
      have Hlow := Lib.hid hlow
      have Hhigh := Lib.hid hhigh
      have Hcm := Lib.hid hcm
      have Hm := Lib.hid hm
      clear hf hlow hhigh hcm hm
      generalize cmp3 (l[m]).low.toNat t = C at *
      generalize (l[m]).rows.toNat = wx at *
      generalize (l[m]).size.toNat = wy at *
      generalize (l[m]).low.toNat = x at *
      by_cases hcase : x < t
      · have hC : C = -1 := by rw [Hcm.out, if_pos hcase]
        subst hC
        have hlow := Hlow.out hcase
        have Hlow2 := Lib.hid hlow
        clear hlow hcase Hcm Hhigh Hlow
        go_wp2_with (go_at_call 65; refine (Hf.out _).mono ?_; rintro _ w1 ⟨rfl, hb1⟩)
        go_roundw
        case rel => exact ⟨m + 1, b, by go_num, rfl, by have := Hm.out; omega, hbn, Hlow2.out, Hhi.out, bstep hbl hb1⟩
        case measure => have := Hm.out; simp [intOf]; omega
      · have hC : C = 0 ∨ C = 1 := by
          rw [Hcm.out, if_neg hcase]
          split
          · right; rfl
          · left; rfl
        have hhigh := Hhigh.out hcase
        have Hhigh2 := Lib.hid hhigh
        clear hhigh hcase Hcm Hhigh Hlow
        rcases hC with rfl | rfl
        all_goals
          go_wp2_with (go_at_call 65; refine (Hf.out _).mono ?_; rintro _ w1 ⟨rfl, hb1⟩)
          go_roundw
          case rel => exact ⟨a, m, rfl, by go_num, by have := Hm.out; omega, by omega, Hlo.out, Hhigh2.out, bstep hbl hb1⟩
          case measure => have := Hm.out; simp [intOf]; omega
    · obtain rfl : b = a := by omega
      by_cases hbl2 : b < l.length
      · obtain ⟨ad, rfl, hadb, hx0, hx1, hx2⟩ := (h.below (hbl.mono hB)).cells b hbl2
        have hto := u32_lt (l[b]).low
        have hf := fun W => sfind1_any W (l[b]).low.toNat (l[b]).rows.toNat (l[b]).size.toNat t hto ht
        have Hf := Lib.hid hf
        have hcm : cmp3 (l[b]).low.toNat t = if (l[b]).low.toNat < t then -1 else if t < (l[b]).low.toNat then 1 else 0 := rfl
        have hge := Hhi.out b hbl2 (Nat.le_refl _)
        have hfd : FoundS l t b (decide (∃ h : b < l.length, (l[b]).low.toNat = t)) := ⟨hbn, Hlo.out, Hhi.out, rfl⟩
        rw [if_neg (by omega)] at hcm
        have hdec : decide (∃ h : b < l.length, (l[b]).low.toNat = t) = decide ((l[b]).low.toNat = t) := decide_eq_decide.2 ⟨fun ⟨_, h⟩ => h, fun h => ⟨hbl2, h⟩⟩
        rw [hdec] at hfd
        have Hfd := Lib.hid hfd
        clear hf hdec hfd
        generalize cmp3 (l[b]).low.toNat t = C at *
        generalize (l[b]).rows.toNat = wx at *
        generalize (l[b]).size.toNat = wy at *
        generalize (l[b]).low.toNat = x at *
        by_cases hcase : t < x
        · rw [if_pos hcase] at hcm
          subst hcm
          have hD : decide (x = t) = false := by simp; omega
          rw [hD] at Hfd
          clear hcase hD hge
          go_wp2_with (go_at_call 65; refine (Hf.out _).mono ?_; rintro _ w1 ⟨rfl, hb1⟩)
          go_ret2
          exact ⟨b, _, rfl, Hfd.out, bstep hbl hb1⟩
        · rw [if_neg hcase] at hcm
          subst hcm
          have hD : decide (x = t) = true := by simp; omega
          rw [hD] at Hfd
          clear hcase hD hge
          go_wp2_with (go_at_call 65; refine (Hf.out _).mono ?_; rintro _ w1 ⟨rfl, hb1⟩)
          go_ret2
          exact ⟨b, _, rfl, Hfd.out, bstep hbl hb1⟩
      · have hfd : FoundS l t b (decide (∃ h : b < l.length, (l[b]).low.toNat = t)) := ⟨hbn, Hlo.out, Hhi.out, rfl⟩
        rw [decide_eq_false (fun ⟨h, _⟩ => hbl2 h)] at hfd
        have Hfd := Lib.hid hfd
        have hd : decide (b < l.length) = false := by simpa using hbl2
        clear hfd
        go_wp2_with fail
        go_ret2
        exact ⟨b, _, rfl, Hfd.out, hbl⟩


/-- where the vertex is: the last span whose Low is not above it -/
def FindS (l : List GSpan) (v : Nat) (at_ : Nat) : Prop := (at_ < l.length ∨ (at_ = 0 ∧ l = [])) ∧ (∀ j, (h : j < l.length) → at_ < j → v < (l[j]).low.toNat) ∧ (∀ h : at_ < l.length, 0 < at_ → (l[at_]).low.toNat ≤ v)
set_option maxRecDepth 100000 in
set_option maxHeartbeats 800000 in
theorem sfind_any (w : World) (B : Nat) (v : Value) (l : List GSpan) (hl : l.length ≤ 4294967296) (t : Nat) (ht : t < 4294967296) (h : ByS w B v l) (hB : B ≤ w.heap.size) (hs : ∀ i j, (hi : i < j) → (hj : j < l.length) → (l[i]'(by omega)).low.toNat < (l[j]).low.toNat) :
    Calls Try.prog 30 #[v, .int .u32 (t : Int)] w fun e w' => ∃ i, e = .returned (.tuple #[.int .i64 (i : Nat), .bool (decide (0 < l.length))]) ∧ FindS l t i ∧ Below w.heap.size w w' := by
  have hs0 := hs
  have hs := sbsf_any w B v l hl t ht h hB hs
  have Hs := Lib.hid hs
  obtain ⟨A, c, rfl, hc1, hc2⟩ := h.form
  clear hs h
  go_enter Try.func30, Try.ntmps30
  go_wp2_with fail
  refine Hs.out.mono ?_
  rintro _ w1 ⟨i, b, rfl, hf, hb1⟩
  obtain ⟨f1, f2, f3, f4⟩ := hf
  unfold maxLen at hc2
  cases b with
  | true =>
    obtain ⟨hi, he⟩ := of_decide_eq_true f4.symm
    have hfin : Hid (FindS l t i) := Lib.hid ⟨.inl hi, fun j hj hij => by have := hs0 i j hij hj; omega, fun _ _ => by omega⟩
    clear f2 f3 f4 he
    go_wp2_with fail
    go_ret2
    exact ⟨i, rfl, hfin.out, hb1⟩
  | false =>
    by_cases hi0 : i = 0
    · subst hi0
      have hfin : Hid (FindS l t 0) := Lib.hid ⟨by cases l with | nil => exact .inr ⟨rfl, rfl⟩ | cons => exact .inl (by simp), fun j hj hij => by
        have h1 := f3 j hj (by omega)
        have h2 : (l[0]'(by omega)).low.toNat < (l[j]).low.toNat := hs0 0 j hij hj
        have h3 := f3 0 (by omega) (by omega)
        omega, fun _ h => by omega⟩
      clear f2 f3 f4
      have hmx : max (0 : Int) (-1) = 0 := by decide
      go_wp2_with fail
      go_ret2
      exact ⟨0, rfl, hfin.out, hb1⟩
    · obtain ⟨k, rfl⟩ : ∃ k, i = k + 1 := ⟨i - 1, by omega⟩
      have hfin : Hid (FindS l t k) := Lib.hid ⟨.inl (by omega), fun j hj hij => by
        have h1 := f3 j hj (by omega)
        have h0 : (l[j]).low.toNat ≠ t := fun e => by
          rcases Nat.lt_or_ge (k + 1) j with h | h
          · have h2 : (l[k + 1]'(by omega)).low.toNat < (l[j]).low.toNat := hs0 (k + 1) j h hj
            have h3 := f3 (k + 1) (by omega) (by omega)
            omega
          · obtain rfl : j = k + 1 := by omega
            have := decide_eq_true (p := ∃ h : k + 1 < l.length, (l[k + 1]).low.toNat = t) ⟨hj, e⟩
            rw [this] at f4
            cases f4
        omega, fun h _ => by have := f2 k h (by omega); omega⟩
      clear f2 f3 f4
      have hmx : max (0 : Int) (k : Int) = (k : Int) := by omega
      have hk1 : ((k + 1 : Nat) : Int) - 1 = (k : Int) := by omega
      have hk2 : (k : Int) + 1 - 1 = (k : Int) := by omega
      go_wp2_with fail
      go_ret2
      exact ⟨k, rfl, hfin.out, hb1⟩
theorem findS_uniq {l : List GSpan} {v a b : Nat} (ha : FindS l v a) (hb : FindS l v b) : a = b := by
  obtain ⟨a1, a2, a3⟩ := ha
  obtain ⟨b1, b2, b3⟩ := hb
  rcases a1 with a1 | ⟨rfl, rfl⟩
  · rcases b1 with b1 | ⟨rfl, rfl⟩
    · rcases Nat.lt_trichotomy a b with h | h | h
      · have h1 := a2 b b1 h
        have h2 := b3 b1 (by omega)
        omega
      · exact h
      · have h1 := b2 a a1 h
        have h2 := a3 a1 (by omega)
        omega
    · simp at a1
  · rcases b1 with b1 | ⟨rfl, _⟩
    · simp at b1
    · rfl
set_option maxRecDepth 100000 in
set_option maxHeartbeats 800000 in
theorem rfind_any (w : World) (B : Nat) (v : Value) (l : List GSpan) (hl : l.length ≤ 4294967296) (t : Nat) (ht : t < 4294967296) (h : ByS w B v l) (hB : B ≤ w.heap.size) (hs : ∀ i j, (hi : i < j) → (hj : j < l.length) → (l[i]'(by omega)).low.toNat < (l[j]).low.toNat) :
    Calls Try.prog 31 #[v, .int .u32 (t : Int)] w fun e w' => ∃ i, e = .returned (.tuple #[.int .i64 (i : Nat), .bool (decide (0 < l.length))]) ∧ FindS l t i ∧ Below w.heap.size w w' := by
  obtain ⟨A, c, rfl, hc1, hc2⟩ := h.form
  unfold maxLen at hc2
  have Hs := Lib.hid hs
  clear hs
  go_enter Try.func31, Try.ntmps31
  go_wp2_with fail
  go_loopw [6, 10] (fun at_ i wr => ∃ k a : Nat, k ≤ l.length ∧ i = .int .i64 k ∧ at_ = .int .i64 a ∧ (a < k ∨ (a = 0 ∧ k = 0)) ∧ (∀ j, (h : j < l.length) → a < j → j < k → t < (l[j]).low.toNat) ∧ (∀ h : a < l.length, 0 < a → (l[a]).low.toNat ≤ t) ∧ ∃ q, wr = w.drewN q) (fun _ i _ => l.length - (intOf i).toNat)
  case atStart => exact ⟨0, 0, by omega, rfl, rfl, .inr ⟨rfl, rfl⟩, fun j _ h1 h2 => by omega, fun _ h => by omega, 0, rfl⟩
  case round =>
    obtain ⟨k, a, hk, rfl, rfl, ha, h1, h2, q, rfl⟩ := hrel
    by_cases hlt : k < l.length
    · obtain ⟨ad, rfl, hab, hx0, hx1, hx2⟩ := (show ByS (w.drewN q) B (.slice A l.length c) l from h).cells k hlt
      have hlo := u32_lt (l[k]).low
      have hlow : (l[k]).low.toNat ≤ t → ∀ j, (h : j < l.length) → j < k → (l[j]).low.toNat ≤ t := fun hh j hj hjk => by have := Hs.out j k hjk hlt; omega
      by_cases hle : (l[k]).low.toNat ≤ t
      · have H1 : Hid ((∀ j, (h : j < l.length) → k < j → j < k + 1 → t < (l[j]).low.toNat) ∧ (∀ h : k < l.length, 0 < k → (l[k]).low.toNat ≤ t)) := Lib.hid ⟨fun j _ _ _ => by omega, fun _ _ => hle⟩
        clear h1 h2 hlow
        generalize (l[k]).low.toNat = y at *
        have hd1 : decide (y ≤ t) = true := decide_eq_true hle
        have hd2 : decide ((y : Int) ≤ (t : Int)) = true := decide_eq_true (by omega)
        go_wp2_with fail
        go_roundw
        case rel => exact ⟨k + 1, k, by omega, by go_num, rfl, .inl (by omega), H1.out.1, H1.out.2, q, rfl⟩
        case measure => simp [intOf]; omega
      · have H1 : Hid ((∀ j, (h : j < l.length) → a < j → j < k + 1 → t < (l[j]).low.toNat) ∧ (∀ h : a < l.length, 0 < a → (l[a]).low.toNat ≤ t)) := Lib.hid ⟨fun j hj hj1 hj2 => by
          rcases Nat.lt_or_ge j k with h | h
          · exact h1 j hj hj1 h
          · obtain rfl : j = k := by omega
            omega, h2⟩
        clear h1 h2 hlow
        generalize (l[k]).low.toNat = y at *
        have hd1 : decide (y ≤ t) = false := decide_eq_false hle
        have hd2 : decide ((y : Int) ≤ (t : Int)) = false := decide_eq_false (by omega)
        go_wp2_with fail
        go_roundw
        case rel => exact ⟨k + 1, a, by omega, by go_num, rfl, ha.elim (fun h => .inl (by omega)) (fun h => .inl (by omega)), H1.out.1, H1.out.2, q, rfl⟩
        case measure => simp [intOf]; omega
    · obtain rfl : k = l.length := by omega
      have hfin : Hid (FindS l t a) := Lib.hid ⟨ha.imp id fun h => ⟨h.1, List.length_eq_zero_iff.1 h.2⟩, fun j hj hj1 => h1 j hj hj1 hj, h2⟩
      clear h1 h2
      go_wp2_with fail
      go_ret2
      exact ⟨a, rfl, hfin.out, by first | exact bdrewN (Below.refl _ _) _ | exact Below.refl _ _⟩
end Go.Proofs.Ythfnikdapknohaa

namespace Go.Proofs.Ythfnikdapknohaa.shardFinds
open Go.Proofs.Ythfnikdapknohaa
open Go.ChangeShapes Go.WideShapes Go.ChangeAt Go.RowKit
set_option linter.unusedVariables false
set_option linter.unusedSimpArgs false

theorem own : ownKnob Try.prog.godebug = none := by kernel_rfl
theorem laidOut : laidOutB Try.prog = true := by kernel_rfl

set_option maxRecDepth 100000 in
set_option maxHeartbeats 4000000 in
theorem walk0 (v0 : Value) (l : List GSpan) (t : UInt32) (w : World) (hr : ByS w w.heap.size v0 l) :
    Calls Try.prog 8 #[v0, .int .u32 (t.toNat : Int)] w fun e w' => e = .returned (.bool true) ∧ Below w.heap.size w w' := by
  obtain ⟨A, c, rfl, hc1, hc2⟩ := hr.form
  unfold maxLen at hc2
  have ht := u32_lt t
  generalize t.toNat = t at *
  by_cases hl : l.length ≤ 100
  · have hd1 : decide ((100 : Int) < (l.length : Int)) = false := decide_eq_false (by omega)
    have hd2 : decide (100 < l.length) = false := decide_eq_false (by omega)
    have H := Lib.hid hr
    clear hr
    go_enter Try.func8, Try.ntmps8
    go_wp2_with fail
    go_loopw [5] (fun i wr => ∃ k : Nat, k ≤ l.length ∧ i = .int .i64 ((k + 1 : Nat) : Int) ∧ (∀ i j, (hi : i < j) → (hj : j < l.length) → j ≤ k → (l[i]'(by omega)).low.toNat < (l[j]).low.toNat) ∧ Below w.heap.size w wr) (fun i _ => l.length + 2 - (intOf i).toNat)
    case atStart => exact ⟨0, by omega, rfl, fun i j h1 h2 h3 => by omega, Below.refl _ _⟩
    case round =>
      obtain ⟨k, hk, rfl, hs, hbl⟩ := hrel
      have Hbl := Lib.hid hbl
      by_cases hlt : k + 1 < l.length
      · have hsz := hbl.size
        obtain ⟨ad, rfl, hab, hx0, hx1, hx2⟩ := (H.out.below hbl).cells (k + 1) hlt
        obtain ⟨ad', e, hab', hy0, hy1, hy2⟩ := (H.out.below hbl).cells k (by omega)
        injection e with e
        subst e
        have hlo := u32_lt (l[k]).low
        have hlo1 := u32_lt (l[k + 1]).low
        have hnx : (l[k]).low.toNat < (l[k + 1]).low.toNat → ∀ i j, (hi : i < j) → (hj : j < l.length) → j ≤ k + 1 → (l[i]'(by omega)).low.toNat < (l[j]).low.toNat := fun hh i j hi hj hjk => by
          rcases Nat.lt_or_ge j (k + 1) with h | h
          · exact hs i j hi hj (by omega)
          · obtain rfl : j = k + 1 := by omega
            rcases Nat.lt_or_ge i k with h | h
            · have := hs i k h (by omega) (by omega)
              omega
            · obtain rfl : i = k := by omega
              exact hh
        have hi3 : k + 1 < l.length := hlt
        have hi4 : k < l.length := by omega
        by_cases hle : (l[k]).low.toNat < (l[k + 1]).low.toNat
        · have Hnx := Lib.hid (hnx hle)
          clear hs hnx
          generalize (l[k]).low.toNat = y at *
          generalize (l[k + 1]).low.toNat = z at *
          go_wp2_with fail
          refine wp_region_typed [some 20, some 21, some 22, some 23, some 24, some 25, some 26, some 27, some 28, some 29, some 30, some 31] [20, 21, 22, 23, 24, 25, 26, 27, 28, 29, 30, 31]
            [Ph.is (.slice (some ad) l.length c),
              Ph.is (.int .i64 ((k + 1 : Nat) : Int)),
              Ph.is (.pointer (some (ad.add ((k + 1) * 3)))),
              Ph.is (.pointer (some (ad.add ((k + 1) * 3)))),
              Ph.is (.int .u32 (z : Int)),
              Ph.is (.slice (some ad) l.length c),
              Ph.is (.int .i64 ((k + 1 : Nat) : Int)),
              Ph.is (.int .i64 (k : Int)),
              Ph.is (.pointer (some (ad.add (k * 3)))),
              Ph.is (.pointer (some (ad.add (k * 3)))),
              Ph.is (.int .u32 (y : Int)),
              Ph.is (.bool false)] rfl rfl (by kernel_rfl) (by kernel_rfl) ?_ ?_
          · refine ⟨?_, ?_, ?_, ?_, ?_, ?_, ?_, ?_, ?_, ?_, ?_, ?_, trivial⟩
            · -- 0: slot 20 := Op.move t0
              refine ob_yes fun f w' hb hp => ?_
              simp [PreOf, factOf, valOf, Ph.is, Ph.by_, Ph.any, Region.binds] at hp
              refine ⟨by simp [Gd, valOf, hp], ?_⟩
              refine mild_val (.slice (some ad) l.length c) ?_ rfl
              simp [execOp, evalF, hp]
            · -- 1: slot 21 := Op.move t5
              refine ob_yes fun f w' hb hp => ?_
              simp [PreOf, factOf, valOf, Ph.is, Ph.by_, Ph.any, Region.binds] at hp
              refine ⟨by simp [Gd, valOf, hp], ?_⟩
              refine mild_val (.int .i64 ((k + 1 : Nat) : Int)) ?_ rfl
              simp [execOp, evalF, hp]
            · -- 2: slot 22 := Op.indexAddr 41 t20 t21
              refine ob_yes fun f w' hb hp => ?_
              simp [PreOf, factOf, valOf, Ph.is, Ph.by_, Ph.any, Region.binds] at hp
              refine ⟨by simp [Gd, valOf, hp], ?_⟩
              refine mild_val (.pointer (some (ad.add ((k + 1) * 3)))) ?_ rfl
              simp [execOp, evalF, hp, go_sem, hi3]
              exact fun h => absurd (h (by omega)) (by omega)
            · -- 3: slot 23 := Op.fieldAddr 59 t22 0
              refine ob_yes fun f w' hb hp => ?_
              simp [PreOf, factOf, valOf, Ph.is, Ph.by_, Ph.any, Region.binds] at hp
              refine ⟨by simp [Gd, valOf, hp], ?_⟩
              refine mild_val (.pointer (some (ad.add ((k + 1) * 3)))) ?_ rfl
              simp [execOp, evalF, hp, go_sem]
            · -- 4: slot 24 := Op.load 51 t23
              refine ob_yes fun f w' hb hp => ?_
              simp [PreOf, factOf, valOf, Ph.is, Ph.by_, Ph.any, Region.binds] at hp
              refine ⟨by simp [Gd, valOf, hp], ?_⟩
              have hc := (hb.cell (p := ad.add ((k + 1) * 3)) (by rw [add_block]; exact Nat.lt_of_lt_of_le hab hsz)).trans hx0
              refine mild_val (.int .u32 (z : Int)) ?_ rfl
              simp [execOp, evalF, hp, go_sem, hc]
            · -- 5: slot 25 := Op.move t0
              refine ob_yes fun f w' hb hp => ?_
              simp [PreOf, factOf, valOf, Ph.is, Ph.by_, Ph.any, Region.binds] at hp
              refine ⟨by simp [Gd, valOf, hp], ?_⟩
              refine mild_val (.slice (some ad) l.length c) ?_ rfl
              simp [execOp, evalF, hp]
            · -- 6: slot 26 := Op.move t5
              refine ob_yes fun f w' hb hp => ?_
              simp [PreOf, factOf, valOf, Ph.is, Ph.by_, Ph.any, Region.binds] at hp
              refine ⟨by simp [Gd, valOf, hp], ?_⟩
              refine mild_val (.int .i64 ((k + 1 : Nat) : Int)) ?_ rfl
              simp [execOp, evalF, hp]
            · -- 7: slot 27 := Op.binOp BinOp.sub 3 t26 (const (1:i64)) 3
              refine ob_yes fun f w' hb hp => ?_
              simp [PreOf, factOf, valOf, Ph.is, Ph.by_, Ph.any, Region.binds] at hp
              refine ⟨by simp [Gd, valOf, hp], ?_⟩
              refine mild_val (.int .i64 (k : Int)) ?_ rfl
              simp [execOp, evalF, hp, go_sem]
              rw [wrap_i64]; omega
            · -- 8: slot 28 := Op.indexAddr 41 t25 t27
              refine ob_yes fun f w' hb hp => ?_
              simp [PreOf, factOf, valOf, Ph.is, Ph.by_, Ph.any, Region.binds] at hp
              refine ⟨by simp [Gd, valOf, hp], ?_⟩
              refine mild_val (.pointer (some (ad.add (k * 3)))) ?_ rfl
              simp [execOp, evalF, hp, go_sem, hi4]
            · -- 9: slot 29 := Op.fieldAddr 59 t28 0
              refine ob_yes fun f w' hb hp => ?_
              simp [PreOf, factOf, valOf, Ph.is, Ph.by_, Ph.any, Region.binds] at hp
              refine ⟨by simp [Gd, valOf, hp], ?_⟩
              refine mild_val (.pointer (some (ad.add (k * 3)))) ?_ rfl
              simp [execOp, evalF, hp, go_sem]
            · -- 10: slot 30 := Op.load 51 t29
              refine ob_yes fun f w' hb hp => ?_
              simp [PreOf, factOf, valOf, Ph.is, Ph.by_, Ph.any, Region.binds] at hp
              refine ⟨by simp [Gd, valOf, hp], ?_⟩
              have hc := (hb.cell (p := ad.add (k * 3)) (by rw [add_block]; exact Nat.lt_of_lt_of_le hab hsz)).trans hy0
              refine mild_val (.int .u32 (y : Int)) ?_ rfl
              simp [execOp, evalF, hp, go_sem, hc]
            · -- 11: slot 31 := Op.binOp BinOp.leq 51 t24 t30 51
              refine ob_yes fun f w' hb hp => ?_
              simp [PreOf, factOf, valOf, Ph.is, Ph.by_, Ph.any, Region.binds] at hp
              refine ⟨by simp [Gd, valOf, hp], ?_⟩
              refine mild_val (.bool false) ?_ rfl
              simp [execOp, evalF, hp, go_sem]
              try omega
          · intro f w2 hb2 hp
            simp only [PostOf, Ph.is, Ph.by_, Ph.any] at hp
            obtain ⟨h0, h1, h2, h3, h4, h5, h6, h7, h8, h9, h10, h11, _⟩ := hp
            simp only [fills, List.foldl_cons, List.foldl_nil, Act.put, List.setIfInBounds_toArray, List.set_cons_zero, List.set_cons_succ, h0, h1, h2, h3, h4, h5, h6, h7, h8, h9, h10, h11]
            clear h0 h1 h2 h3 h4 h5 h6 h7 h8 h9 h10 h11
            have Hb2 := Lib.hid hb2
            clear hb2
            go_wp2_with fail
            go_roundw
            case rel => exact ⟨k + 1, by omega, by go_num, Hnx.out, bstep Hbl.out Hb2.out⟩
            case measure => simp [intOf]; omega
        · clear hs hnx
          generalize (l[k]).low.toNat = y at *
          generalize (l[k + 1]).low.toNat = z at *
          go_wp2_with fail
          refine wp_region_typed [some 20, some 21, some 22, some 23, some 24, some 25, some 26, some 27, some 28, some 29, some 30, some 31] [20, 21, 22, 23, 24, 25, 26, 27, 28, 29, 30, 31]
            [Ph.is (.slice (some ad) l.length c),
              Ph.is (.int .i64 ((k + 1 : Nat) : Int)),
              Ph.is (.pointer (some (ad.add ((k + 1) * 3)))),
              Ph.is (.pointer (some (ad.add ((k + 1) * 3)))),
              Ph.is (.int .u32 (z : Int)),
              Ph.is (.slice (some ad) l.length c),
              Ph.is (.int .i64 ((k + 1 : Nat) : Int)),
              Ph.is (.int .i64 (k : Int)),
              Ph.is (.pointer (some (ad.add (k * 3)))),
              Ph.is (.pointer (some (ad.add (k * 3)))),
              Ph.is (.int .u32 (y : Int)),
              Ph.is (.bool true)] rfl rfl (by kernel_rfl) (by kernel_rfl) ?_ ?_
          · refine ⟨?_, ?_, ?_, ?_, ?_, ?_, ?_, ?_, ?_, ?_, ?_, ?_, trivial⟩
            · -- 0: slot 20 := Op.move t0
              refine ob_yes fun f w' hb hp => ?_
              simp [PreOf, factOf, valOf, Ph.is, Ph.by_, Ph.any, Region.binds] at hp
              refine ⟨by simp [Gd, valOf, hp], ?_⟩
              refine mild_val (.slice (some ad) l.length c) ?_ rfl
              simp [execOp, evalF, hp]
            · -- 1: slot 21 := Op.move t5
              refine ob_yes fun f w' hb hp => ?_
              simp [PreOf, factOf, valOf, Ph.is, Ph.by_, Ph.any, Region.binds] at hp
              refine ⟨by simp [Gd, valOf, hp], ?_⟩
              refine mild_val (.int .i64 ((k + 1 : Nat) : Int)) ?_ rfl
              simp [execOp, evalF, hp]
            · -- 2: slot 22 := Op.indexAddr 41 t20 t21
              refine ob_yes fun f w' hb hp => ?_
              simp [PreOf, factOf, valOf, Ph.is, Ph.by_, Ph.any, Region.binds] at hp
              refine ⟨by simp [Gd, valOf, hp], ?_⟩
              refine mild_val (.pointer (some (ad.add ((k + 1) * 3)))) ?_ rfl
              simp [execOp, evalF, hp, go_sem, hi3]
              exact fun h => absurd (h (by omega)) (by omega)
            · -- 3: slot 23 := Op.fieldAddr 59 t22 0
              refine ob_yes fun f w' hb hp => ?_
              simp [PreOf, factOf, valOf, Ph.is, Ph.by_, Ph.any, Region.binds] at hp
              refine ⟨by simp [Gd, valOf, hp], ?_⟩
              refine mild_val (.pointer (some (ad.add ((k + 1) * 3)))) ?_ rfl
              simp [execOp, evalF, hp, go_sem]
            · -- 4: slot 24 := Op.load 51 t23
              refine ob_yes fun f w' hb hp => ?_
              simp [PreOf, factOf, valOf, Ph.is, Ph.by_, Ph.any, Region.binds] at hp
              refine ⟨by simp [Gd, valOf, hp], ?_⟩
              have hc := (hb.cell (p := ad.add ((k + 1) * 3)) (by rw [add_block]; exact Nat.lt_of_lt_of_le hab hsz)).trans hx0
              refine mild_val (.int .u32 (z : Int)) ?_ rfl
              simp [execOp, evalF, hp, go_sem, hc]
            · -- 5: slot 25 := Op.move t0
              refine ob_yes fun f w' hb hp => ?_
              simp [PreOf, factOf, valOf, Ph.is, Ph.by_, Ph.any, Region.binds] at hp
              refine ⟨by simp [Gd, valOf, hp], ?_⟩
              refine mild_val (.slice (some ad) l.length c) ?_ rfl
              simp [execOp, evalF, hp]
            · -- 6: slot 26 := Op.move t5
              refine ob_yes fun f w' hb hp => ?_
              simp [PreOf, factOf, valOf, Ph.is, Ph.by_, Ph.any, Region.binds] at hp
              refine ⟨by simp [Gd, valOf, hp], ?_⟩
              refine mild_val (.int .i64 ((k + 1 : Nat) : Int)) ?_ rfl
              simp [execOp, evalF, hp]
            · -- 7: slot 27 := Op.binOp BinOp.sub 3 t26 (const (1:i64)) 3
              refine ob_yes fun f w' hb hp => ?_
              simp [PreOf, factOf, valOf, Ph.is, Ph.by_, Ph.any, Region.binds] at hp
              refine ⟨by simp [Gd, valOf, hp], ?_⟩
              refine mild_val (.int .i64 (k : Int)) ?_ rfl
              simp [execOp, evalF, hp, go_sem]
              rw [wrap_i64]; omega
            · -- 8: slot 28 := Op.indexAddr 41 t25 t27
              refine ob_yes fun f w' hb hp => ?_
              simp [PreOf, factOf, valOf, Ph.is, Ph.by_, Ph.any, Region.binds] at hp
              refine ⟨by simp [Gd, valOf, hp], ?_⟩
              refine mild_val (.pointer (some (ad.add (k * 3)))) ?_ rfl
              simp [execOp, evalF, hp, go_sem, hi4]
            · -- 9: slot 29 := Op.fieldAddr 59 t28 0
              refine ob_yes fun f w' hb hp => ?_
              simp [PreOf, factOf, valOf, Ph.is, Ph.by_, Ph.any, Region.binds] at hp
              refine ⟨by simp [Gd, valOf, hp], ?_⟩
              refine mild_val (.pointer (some (ad.add (k * 3)))) ?_ rfl
              simp [execOp, evalF, hp, go_sem]
            · -- 10: slot 30 := Op.load 51 t29
              refine ob_yes fun f w' hb hp => ?_
              simp [PreOf, factOf, valOf, Ph.is, Ph.by_, Ph.any, Region.binds] at hp
              refine ⟨by simp [Gd, valOf, hp], ?_⟩
              have hc := (hb.cell (p := ad.add (k * 3)) (by rw [add_block]; exact Nat.lt_of_lt_of_le hab hsz)).trans hy0
              refine mild_val (.int .u32 (y : Int)) ?_ rfl
              simp [execOp, evalF, hp, go_sem, hc]
            · -- 11: slot 31 := Op.binOp BinOp.leq 51 t24 t30 51
              refine ob_yes fun f w' hb hp => ?_
              simp [PreOf, factOf, valOf, Ph.is, Ph.by_, Ph.any, Region.binds] at hp
              refine ⟨by simp [Gd, valOf, hp], ?_⟩
              refine mild_val (.bool true) ?_ rfl
              simp [execOp, evalF, hp, go_sem]
              try omega
          · intro f w2 hb2 hp
            simp only [PostOf, Ph.is, Ph.by_, Ph.any] at hp
            obtain ⟨h0, h1, h2, h3, h4, h5, h6, h7, h8, h9, h10, h11, _⟩ := hp
            simp only [fills, List.foldl_cons, List.foldl_nil, Act.put, List.setIfInBounds_toArray, List.set_cons_zero, List.set_cons_succ, h0, h1, h2, h3, h4, h5, h6, h7, h8, h9, h10, h11]
            clear h0 h1 h2 h3 h4 h5 h6 h7 h8 h9 h10 h11
            have Hb2 := Lib.hid hb2
            clear hb2
            go_wp2_with (go_at_call 12; refine (awake23 _).mono ?_; rintro _ w7 ⟨rfl, hb7⟩)
            go_ret
            exact ⟨rfl, bstep (bstep Hbl.out Hb2.out) hb7⟩
      · have hs2 : ∀ i j, (hi : i < j) → (hj : j < l.length) → (l[i]'(by omega)).low.toNat < (l[j]).low.toNat := fun i j hi hj => hs i j hi hj (by omega)
        have hfs := sfind_any wr w.heap.size (.slice A l.length c) l (by omega) t ht (H.out.below hbl) hbl.size hs2
        have hfr := fun W hb => rfind_any W w.heap.size (.slice A l.length c) l (by omega) t ht (H.out.below hb) hb.size hs2
        have Hfs := Lib.hid hfs
        have Hfr := Lib.hid hfr
        have hd3 : decide ((k : Int) + 1 < (l.length : Int)) = false := decide_eq_false (by omega)
        have hd4 : decide (k + 1 < l.length) = false := decide_eq_false (by omega)
        clear hfs hfr hs2 hs
        go_wp2_with fail
        refine Hfs.out.mono ?_
        rintro _ w3 ⟨i3, rfl, hf3, hb3⟩
        have hb03 := bstep hbl hb3
        have Hb03 := Lib.hid hb03
        have Hf3 := Lib.hid hf3
        have Hfr3 := Lib.hid (Hfr.out w3 hb03)
        clear hf3 hb3 hb03
        generalize decide (0 < l.length) = bz at *
        go_wp2_with fail
        refine Hfr3.out.mono ?_
        rintro _ w4 ⟨i4, rfl, hf4, hb4⟩
        obtain rfl := findS_uniq Hf3.out hf4
        have Hb4 := Lib.hid hb4
        clear hf4 hb4
        have hbb : (bz == bz) = true := by cases bz <;> rfl
        go_wp2_with (go_at_call 12; refine (awake23 _).mono ?_; rintro _ w7 ⟨rfl, hb7⟩)
        go_ret
        exact ⟨rfl, bstep (bstep Hb03.out Hb4.out) hb7⟩
  · have hd1 : decide ((100 : Int) < (l.length : Int)) = true := decide_eq_true (by omega)
    have hd2 : decide (100 < l.length) = true := decide_eq_true (by omega)
    go_enter Try.func8, Try.ntmps8
    go_wp2_with (go_at_call 12
                 refine (awake23 _).mono ?_
                 rintro _ w7 ⟨rfl, hb7⟩)
    go_ret
    exact ⟨rfl, hb7⟩
theorem walk (v0 v1 : Value) (w : World) (h0 : InC w 41 [v0]) (h1 : InC w 51 [v1]) :
    Calls Try.prog 8 #[v0, v1] w fun e w' => e = .returned (.bool true) ∧ Below w.heap.size w w' := by
  obtain ⟨l, hr⟩ := h0.spans
  obtain ⟨t, e, _⟩ := InC.u32 (S := fun _ => True) Try.underlying51 h1
  simp at e
  subst e
  exact walk0 v0 l t w hr

set_option maxRecDepth 100000 in
theorem lifted (os : Os) (started : os.Started) (H : Type) (enc : TypeId × Value → H) :
    ReturnsInHanded {} Try.checked os 8 .any (Rows.shardFindsSpec.pre6 enc Try.prog Try.f8 Rows.shardFindsRow.domain false) (Rows.shardFindsSpec.post enc Try.prog Try.f8 false true false false) := by
  refine returnsInHanded_of_change (C := Try.checked) own started (by kernel_rfl) Try.func8
    (ChangeSpec.witness6 (enc := enc) (C := Try.checked) false ⟨#[], #[.slice none 0 0, .int .u32 0], []⟩ 8 (by kernel_rfl) (by kernel_rfl) (by kernel_rfl) (by kernel_rfl)) ?_
  intro W base args ds gs before hval0 hW hcnd _
  have hval : ∀ (j : Nat) t v, Try.f8.params[j]? = some t → args[j]? = some v → Value.okWide Try.prog W .any base t v := hval0
  have hW' := hW
  obtain ⟨p, q, hA0, hV, rfl, hfz, hnd⟩ := hW
  have hA : DataW.TrodAll enc Try.prog W 0 (fun _ => true) true Try.f8.params.toList args.toList ds p := hA0
  rw [Try.params8] at hA hval
  obtain ⟨v0, vs0, d0, ds0, p0, q0, hargs, rfl, rfl, h0, r0⟩ := trodAll_cons hA
  obtain ⟨v1, vs1, d1, ds1, p1, q1, rfl, rfl, rfl, h1, r1⟩ := trodAll_cons r0
  obtain ⟨rfl, rfl, rfl⟩ := trodAll_nil r1
  obtain rfl : args = #[v0, v1] := by cases args; simp_all
  obtain ⟨rfl, rfl⟩ := trodVars_none hV
  have k0 := h0
  have lt0 : ∀ x ∈ p0, x.block < W.heap.size := by obtain ⟨m, hm⟩ := k0; exact DataW.trod_lt m _ _ _ hm
  have i0 := InC.of h0
  obtain ⟨a0, len0, cap0, rfl⟩ := okWide_slice Try.underlying41 (hval 0 41 v0 rfl rfl)
  have j0 : InC W 41 [_] := i0
  have k1 := h1
  have lt1 : ∀ x ∈ p1, x.block < W.heap.size := by obtain ⟨m, hm⟩ := k1; exact DataW.trod_lt m _ _ _ hm
  have i1 := InC.of h1
  obtain ⟨a1, rfl⟩ := okWide_int Try.underlying51 (hval 1 51 v1 rfl rfl)
  have j1 : InC W 51 [_] := i1
  clear hA0 hval0
  refine (walk _ _ W j0 j1).mono fun e W' ⟨he, bel⟩ => ?_
  subst he
  exact ⟨_, rfl, _, _, _, [], _, [], hW', trodAll_mk1 (shut_bool Try.underlying4 _), (trodAll_cons_mk (Below.trod laidOut (by kernel_rfl) (of_decide_eq_true (by kernel_rfl)) k0 bel lt0) (trodAll_cons_mk (Below.trod laidOut (by kernel_rfl) (of_decide_eq_true (by kernel_rfl)) k1 bel lt1) trodAll_mk0)), rfl, bel.frame _, fun h => by cases h⟩

theorem over : Rows.shardFindsRow.holds Try.pinned (OpenSpec.ofChange Rows.shardFindsSpec) :=
  OpenClaim.holds_of_wide 8 Try.f8 rfl rfl rfl rfl rfl rfl rfl ⟨rfl, rfl, rfl, rfl, rfl⟩ rfl rfl rfl rfl rfl (by kernel_rfl) Try.func8 (by kernel_rfl)
    (of_decide_eq_true (by kernel_rfl)) (by unfold Func.isWrapper; first | (rw [if_pos (by decide +kernel)]; kernel_rfl) | (rw [if_neg (by decide +kernel)]; exact ⟨rfl, rfl⟩))
    (fun os started H enc _ => lifted os started H enc)

theorem proved : Rows.ShardFindsSaid := over
#print axioms proved
end Go.Proofs.Ythfnikdapknohaa.shardFinds
