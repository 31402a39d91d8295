/- The law 'ShardWhole' returns true for every input, and each argument reads behind the call as it read before. No condition. -/
import Derived.Test.YthfnikdapknohaaZShardPuts5
import Derived.WalkMore
import Derived.Test.YthfnikdapknohaaRows
import Derived.WalkKit
import Derived.ProofKit
import Derived.OpenShut
import Derived.ShutString
import Derived.ChangeOld
import Derived.Below
namespace Go.Proofs.Ythfnikdapknohaa
set_option linter.unusedSimpArgs false
set_option linter.unusedVariables false
open Go.RowKit

/-! ### a section that is read is just its bytes -/
theorem four_inv (a b c d : UInt8) : four (UInt32.ofNat (a.toNat + 256 * b.toNat + 65536 * c.toNat + 16777216 * d.toNat)) = [a, b, c, d] := by
  have h1 := u8_lt a
  have h2 := u8_lt b
  have h3 := u8_lt c
  have h4 := u8_lt d
  unfold four
  have e : (UInt32.ofNat (a.toNat + 256 * b.toNat + 65536 * c.toNat + 16777216 * d.toNat)).toNat = a.toNat + 256 * b.toNat + 65536 * c.toNat + 16777216 * d.toNat := by rw [UInt32.toNat_ofNat']; omega
  generalize UInt32.ofNat (a.toNat + 256 * b.toNat + 65536 * c.toNat + 16777216 * d.toNat) = x at *
  have s8 : (x >>> 8).toNat = x.toNat / 256 := by rw [UInt32.toNat_shiftRight]; simp [Nat.shiftRight_eq_div_pow]
  have s16 : (x >>> 16).toNat = x.toNat / 65536 := by rw [UInt32.toNat_shiftRight]; simp [Nat.shiftRight_eq_div_pow]
  have s24 : (x >>> 24).toNat = x.toNat / 16777216 := by rw [UInt32.toNat_shiftRight]; simp [Nat.shiftRight_eq_div_pow]
  simp only [List.cons.injEq, and_true]
  refine ⟨?_, ?_, ?_, ?_⟩ <;> rw [← UInt8.toNat_inj, UInt32.toNat_toUInt8]
  · omega
  · rw [s8]; omega
  · rw [s16]; omega
  · rw [s24]; omega
theorem fits_mark {l : List UInt8} (h : fitsB l = true) : markOf (l.take (l.length - 4)) = l := by
  unfold fitsB at h
  exact (of_decide_eq_true h).2
theorem sec_inv (b : List UInt8) (h : sE b = 0) (hn : sN b = b.length) : b = frameOf (sK b) (sL b) := by
  have hN : sN b = sLen b + 13 := by unfold sN; rw [if_pos h]
  have hL : sL b = (b.drop 9).take (sLen b) := by unfold sL; rw [if_pos h]
  have hK : sK b = b.getD 0 0 := by unfold sK; rw [if_pos h]
  rw [hN] at hn
  unfold sE at h
  rw [if_neg (by omega)] at h
  split at h
  · simp at h
  · rename_i h1
    have h1 : fitsB (b.take 9) = true := by simpa using h1
    split at h
    · simp at h
    · rename_i h2
      rw [if_neg (by omega)] at h
      split at h
      · rename_i h3
        have m1 := fits_mark h1
        have m2 := fits_mark h3
        have e1 : (b.take 9).length - 4 = 5 := by simp; omega
        have e2 : ((b.drop 9).take (sLen b + 4)).length - 4 = sLen b := by simp; omega
        rw [e1, List.take_take, show min 5 9 = 5 from rfl] at m1
        rw [e2, List.take_take, show min (sLen b) (sLen b + 4) = sLen b from by omega] at m2
        have e3 : (b.drop 9).take (sLen b + 4) = b.drop 9 := List.take_of_length_le (by simp; omega)
        rw [e3] at m2
        have hlen : ((b.drop 9).take (sLen b)).length = sLen b := by simp; omega
        have h5 : b.take 5 = sK b :: four (UInt32.ofNat (sLen b)) := by
          rw [hK]
          unfold sLen
          rw [four_inv]
          match b, hn with
          | b0 :: b1 :: b2 :: b3 :: b4 :: t, _ => rfl
          | [], hn => simp at hn
          | [_], hn => simp at hn
          | [_, _], hn => simp at hn
          | [_, _, _], hn => simp at hn
          | [_, _, _, _], hn => simp at hn
        have : b = b.take 9 ++ b.drop 9 := (List.take_append_drop 9 b).symm
        rw [frameOf, hL, hlen, m2, ← h5, m1, List.take_append_drop]
      · simp at h

/-! ### an index -/
structure GSpan where
  low : UInt32
  rows : UInt32
  size : UInt32
deriving DecidableEq
def idxOk : Option UInt32 → List GSpan → Bool
  | _, [] => true
  | p, s :: t => decide (lowP p ≤ s.low.toNat) && (s.rows != 0) && (s.size != 0) && idxOk (some s.low) t
def span1 (next : Nat) (s : GSpan) : List UInt8 := vput (s.low.toNat - next) ++ vput s.rows.toNat ++ vput s.size.toNat
def spansB : Nat → List GSpan → List UInt8
  | _, [] => []
  | n, s :: t => span1 n s ++ spansB (s.low.toNat + 1) t
def ibody (l : List GSpan) : List UInt8 := vput l.length ++ spansB 0 l
def ienc (l : List GSpan) : List UInt8 := frameOf 73 (ibody l)
def nxtS (n : Nat) (l : List GSpan) : Nat := match l.getLast? with | none => n | some r => r.low.toNat + 1
theorem nxtS_snoc (n : Nat) (l : List GSpan) (r : GSpan) : nxtS n (l ++ [r]) = r.low.toNat + 1 := by simp [nxtS]
theorem nxtS_cons (n : Nat) (a : GSpan) (t : List GSpan) : nxtS n (a :: t) = nxtS (a.low.toNat + 1) t := by
  cases t with
  | nil => simp [nxtS]
  | cons b t =>
    simp only [nxtS, List.getLast?_cons_cons]
    cases h : (b :: t).getLast? with
    | none => simp at h
    | some r => rfl
theorem nxtS_le (l : List GSpan) : nxtS 0 l ≤ 4294967296 := by
  unfold nxtS
  split
  · omega
  · rename_i r _; have := u32_lt r.low; omega
theorem spansB_snoc : ∀ (l : List GSpan) (n : Nat) (r : GSpan), spansB n (l ++ [r]) = spansB n l ++ span1 (nxtS n l) r
  | [], n, r => by simp [spansB, nxtS]
  | a :: t, n, r => by
    rw [List.cons_append, spansB, spansB, spansB_snoc t, nxtS_cons, List.append_assoc]
theorem idxOk_snoc : ∀ (l : List GSpan) (p : Option UInt32) (r : GSpan), idxOk p (l ++ [r]) = (idxOk p l && (decide (nxtS (lowP p) l ≤ r.low.toNat) && (r.rows != 0) && (r.size != 0)))
  | [], p, r => by simp [idxOk, nxtS]; rfl
  | a :: t, p, r => by
    rw [List.cons_append, idxOk, idxOk, idxOk_snoc t, nxtS_cons]
    simp only [Bool.and_assoc]
    rfl
theorem idxOk_false : ∀ (l m : List GSpan) (p : Option UInt32), idxOk p l = false → idxOk p (l ++ m) = false
  | [], m, p, h => by simp [idxOk] at h
  | a :: t, m, p, h => by
    rw [List.cons_append, idxOk]
    rw [idxOk] at h
    rw [Bool.and_eq_false_iff] at h ⊢
    rcases h with h | h
    · exact .inl h
    · exact .inr (idxOk_false t m _ h)
theorem idxOk_take (l : List GSpan) (k : Nat) (h : idxOk none l = true) : idxOk none (l.take k) = true := by
  cases h1 : idxOk none (l.take k) with
  | true => rfl
  | false =>
    have := idxOk_false (l.take k) (l.drop k) none h1
    rw [List.take_append_drop, h] at this
    cases this
theorem idxOk_at (l : List GSpan) (k : Nat) (hk : k < l.length) (h0 : idxOk none (l.take k) = true) :
    idxOk none (l.take (k + 1)) = (decide (nxtS 0 (l.take k) ≤ (l[k]).low.toNat) && ((l[k]).rows != 0) && ((l[k]).size != 0)) := by
  rw [List.take_add_one, List.getElem?_eq_getElem hk]
  show idxOk none (l.take k ++ [l[k]]) = _
  rw [idxOk_snoc, h0]
  rfl
theorem idxOk_stop (l : List GSpan) (k : Nat) (h0 : idxOk none (l.take k) = false) : idxOk none l = false := by
  have := idxOk_false (l.take k) (l.drop k) none h0
  rwa [List.take_append_drop] at this
theorem span1_len (n : Nat) (s : GSpan) : (span1 n s).length ≤ 33 ∧ 1 ≤ (span1 n s).length := by
  have h1 := vput_len64 (s.low.toNat - n) (by have := u32_lt s.low; omega)
  have h2 := vput_len64 s.rows.toNat (by have := u32_lt s.rows; omega)
  have h3 := vput_len64 s.size.toNat (by have := u32_lt s.size; omega)
  simp only [span1, List.length_append]
  omega
theorem spansB_len : ∀ (l : List GSpan) (n : Nat), (spansB n l).length ≤ 33 * l.length ∧ l.length ≤ (spansB n l).length
  | [], _ => by simp [spansB]
  | r :: t, n => by
    have h4 := span1_len n r
    have h5 := spansB_len t (r.low.toNat + 1)
    rw [spansB, List.length_append, List.length_cons]
    omega
theorem ibody_len (l : List GSpan) (hs : l.length ≤ 20000) : (ibody l).length ≤ 1000000 ∧ l.length ≤ (ibody l).length := by
  have h1 := spansB_len l 0
  have h2 := vput_len64 l.length (by omega)
  rw [ibody, List.length_append]
  omega

/-! ### reading -/
def spN (next : Nat) (s : List UInt8) (e : Int) : Nat × List UInt8 × Int := numS (4294967295 - next) s e
def spR (a : Nat × List UInt8 × Int) : Nat × List UInt8 × Int := numS 4294967295 a.2.1 a.2.2
def sp2 (next : Nat) (s : List UInt8) (e : Int) : Nat × List UInt8 × Int := spR (spN next s e)
def sp3 (next : Nat) (s : List UInt8) (e : Int) : Nat × List UInt8 × Int := spR (sp2 next s e)
def spL (next : Nat) (s : List UInt8) (e : Int) : GSpan := ⟨UInt32.ofNat (next + (spN next s e).1), UInt32.ofNat (sp2 next s e).1, UInt32.ofNat (sp3 next s e).1⟩
def pspans : Nat → Nat → List GSpan → List UInt8 → Int → List GSpan × List UInt8 × Int
  | 0, _, acc, s, e => (acc, s, e)
  | n + 1, next, acc, s, e => if e ≠ 0 ∨ 4294967295 < next then (acc, s, e)
    else pspans n (next + (spN next s e).1 + 1) (acc ++ [spL next s e]) (sp3 next s e).2.1 (sp3 next s e).2.2
def pidx (b : List UInt8) : List GSpan := (pspans (numS b.length (sL b) 0).1 0 [] (numS b.length (sL b) 0).2.1 (numS b.length (sL b) 0).2.2).1
theorem span1_tail (next : Nat) (r : GSpan) (t : List UInt8) : span1 next r ++ t = vput (r.low.toNat - next) ++ (vput r.rows.toNat ++ (vput r.size.toNat ++ t)) := by simp [span1]
theorem numS_u32 (x : UInt32) (t : List UInt8) : numS 4294967295 (vput x.toNat ++ t) 0 = (x.toNat, t, 0) := by
  have := u32_lt x
  rw [numS_zero, numR_vput _ _ _ (by omega) (by omega)]
theorem span_ok (next : Nat) (r : GSpan) (t : List UInt8) (h1 : next ≤ r.low.toNat) :
    (spN next (span1 next r ++ t) 0).1 = r.low.toNat - next ∧ spL next (span1 next r ++ t) 0 = r ∧ (sp3 next (span1 next r ++ t) 0).2 = (t, 0) := by
  have hf := u32_lt r.low
  have e1 : spN next (span1 next r ++ t) 0 = (r.low.toNat - next, vput r.rows.toNat ++ (vput r.size.toNat ++ t), 0) := by
    unfold spN
    rw [numS_zero, span1_tail, numR_vput _ _ _ (by omega) (by omega)]
  have e2 : sp2 next (span1 next r ++ t) 0 = (r.rows.toNat, vput r.size.toNat ++ t, 0) := by
    unfold sp2
    rw [e1]
    exact numS_u32 _ _
  have e3 : sp3 next (span1 next r ++ t) 0 = (r.size.toNat, t, 0) := by
    unfold sp3
    rw [e2]
    exact numS_u32 _ _
  refine ⟨by rw [e1], ?_, by rw [e3]⟩
  unfold spL
  rw [e1, e2, e3]
  simp only
  rw [show next + (r.low.toNat - next) = r.low.toNat from by omega, UInt32.ofNat_toNat, UInt32.ofNat_toNat, UInt32.ofNat_toNat]
theorem idxOk_cons {p : Option UInt32} {r : GSpan} {t : List GSpan} (h : idxOk p (r :: t) = true) : lowP p ≤ r.low.toNat ∧ r.rows ≠ 0 ∧ r.size ≠ 0 ∧ idxOk (some r.low) t = true := by
  rw [idxOk] at h
  simp only [Bool.and_eq_true, decide_eq_true_eq, bne_iff_ne] at h
  exact ⟨h.1.1.1, h.1.1.2, h.1.2, h.2⟩
theorem pspans_ok : ∀ (l : List GSpan) (p : Option UInt32) (acc : List GSpan) (t : List UInt8), idxOk p l = true →
    pspans l.length (lowP p) acc (spansB (lowP p) l ++ t) 0 = (acc ++ l, t, 0)
  | [], p, acc, t, _ => by simp [pspans, spansB]
  | r :: l, p, acc, t, h => by
    obtain ⟨h2, _, _, h3⟩ := idxOk_cons h
    have hf := u32_lt r.low
    obtain ⟨e1, e2, e3⟩ := span_ok (lowP p) r (spansB (r.low.toNat + 1) l ++ t) h2
    rw [List.length_cons, pspans, if_neg (by omega), spansB, List.append_assoc, e1, e2, e3]
    simp only
    have := pspans_ok l (some r.low) (acc ++ [r]) t h3
    simp only [lowP] at this
    rw [show lowP p + (r.low.toNat - lowP p) + 1 = r.low.toNat + 1 from by omega, this]
    simp
/-- these bytes are an index' -/
def isIdx (b : List UInt8) : Prop := sE b = 0 ∧ sK b = 73 ∧ idxOk none (pidx b) = true ∧ ienc (pidx b) = b
theorem idx_read (l : List GSpan) (hs : l.length ≤ 20000) :
    sE (ienc l) = 0 ∧ sN (ienc l) = (ienc l).length ∧ sK (ienc l) = 73 ∧ sL (ienc l) = ibody l := by
  have hb := ibody_len l hs
  have h1 := sE_frame 73 (ibody l) [] (by omega)
  have h2 := sN_frame 73 (ibody l) [] (by omega)
  have h3 := sK_frame 73 (ibody l) [] (by omega)
  have h4 := sL_frame 73 (ibody l) [] (by omega)
  rw [List.append_nil] at h1 h2 h3 h4
  exact ⟨h1, by rw [ienc, h2, frameOf_length], h3, h4⟩
theorem pidx_ok (l : List GSpan) (h : idxOk none l = true) (hs : l.length ≤ 20000) : pidx (ienc l) = l := by
  obtain ⟨_, _, _, h4⟩ := idx_read l hs
  have hn : l.length ≤ (ienc l).length := by
    rw [ienc, frameOf_length]
    have := ibody_len l hs
    omega
  unfold pidx
  rw [h4, numS_zero, ibody, numR_vput _ _ _ (by omega) hn]
  have := pspans_ok l none [] [] h
  simp only [lowP, List.append_nil, List.nil_append] at this
  simp only
  rw [this]
theorem isIdx_enc (l : List GSpan) (h : idxOk none l = true) (hs : l.length ≤ 20000) : isIdx (ienc l) := by
  obtain ⟨h1, h2, h3, _⟩ := idx_read l hs
  refine ⟨h1, h3, ?_⟩
  rw [pidx_ok l h hs]
  exact ⟨h, rfl⟩

/-! ### the document's reader -/
def rspN (s : List UInt8) (e : Int) : Nat × List UInt8 × Int := numS 4294967295 s e
def rsp2 (s : List UInt8) (e : Int) : Nat × List UInt8 × Int := spR (rspN s e)
def rsp3 (s : List UInt8) (e : Int) : Nat × List UInt8 × Int := spR (rsp2 s e)
def rspL (p : Option UInt32) (s : List UInt8) (e : Int) : GSpan := ⟨UInt32.ofNat (rfrom p (rspN s e).1), UInt32.ofNat (rsp2 s e).1, UInt32.ofNat (rsp3 s e).1⟩
def rspans : Nat → Option UInt32 → List GSpan → List UInt8 → Int → Option (List GSpan × List UInt8 × Int)
  | 0, _, acc, s, e => some (acc, s, e)
  | n + 1, p, acc, s, e => if e ≠ 0 then some (acc, s, e)
    else if 4294967295 < rfrom p (rspN s e).1 then none
    else rspans n (some (UInt32.ofNat (rfrom p (rspN s e).1))) (acc ++ [rspL p s e]) (rsp3 s e).2.1 (rsp3 s e).2.2
def ridx (b : List UInt8) : Option (List GSpan × List UInt8 × Int) := rspans (numS 18446744073709551615 (sL b) 0).1 none [] (numS 18446744073709551615 (sL b) 0).2.1 (numS 18446744073709551615 (sL b) 0).2.2
theorem rspan_ok (p : Option UInt32) (r : GSpan) (t : List UInt8) (h1 : lowP p ≤ r.low.toNat) :
    rfrom p (rspN (span1 (lowP p) r ++ t) 0).1 = r.low.toNat ∧ rspL p (span1 (lowP p) r ++ t) 0 = r ∧ (rsp3 (span1 (lowP p) r ++ t) 0).2 = (t, 0) := by
  have hf := u32_lt r.low
  have e1 : rspN (span1 (lowP p) r ++ t) 0 = (r.low.toNat - lowP p, vput r.rows.toNat ++ (vput r.size.toNat ++ t), 0) := by
    unfold rspN
    rw [numS_zero, span1_tail, numR_vput _ _ _ (by omega) (by omega)]
  have e2 : rsp2 (span1 (lowP p) r ++ t) 0 = (r.rows.toNat, vput r.size.toNat ++ t, 0) := by
    unfold rsp2
    rw [e1]
    exact numS_u32 _ _
  have e3 : rsp3 (span1 (lowP p) r ++ t) 0 = (r.size.toNat, t, 0) := by
    unfold rsp3
    rw [e2]
    exact numS_u32 _ _
  have e4 : rfrom p (rspN (span1 (lowP p) r ++ t) 0).1 = r.low.toNat := by
    rw [e1]
    cases p with
    | none => simp [rfrom, lowP]
    | some q => simp only [rfrom, lowP] at *; omega
  refine ⟨e4, ?_, by rw [e3]⟩
  unfold rspL
  rw [e4, e2, e3]
  simp only
  rw [UInt32.ofNat_toNat, UInt32.ofNat_toNat, UInt32.ofNat_toNat]
theorem rspans_ok : ∀ (l : List GSpan) (p : Option UInt32) (acc : List GSpan) (t : List UInt8), idxOk p l = true →
    rspans l.length p acc (spansB (lowP p) l ++ t) 0 = some (acc ++ l, t, 0)
  | [], p, acc, t, _ => by simp [rspans, spansB]
  | r :: l, p, acc, t, h => by
    obtain ⟨h2, _, _, h3⟩ := idxOk_cons h
    have hf := u32_lt r.low
    obtain ⟨e1, e2, e3⟩ := rspan_ok p r (spansB (r.low.toNat + 1) l ++ t) h2
    rw [List.length_cons, rspans, if_neg (by simp), spansB, List.append_assoc, e1, if_neg (by omega), e2, e3, UInt32.ofNat_toNat]
    have := rspans_ok l (some r.low) (acc ++ [r]) t h3
    simp only [lowP] at this
    rw [this]
    simp
theorem ridx_ok (l : List GSpan) (h : idxOk none l = true) (hs : l.length ≤ 20000) : ridx (ienc l) = some (l, [], 0) := by
  obtain ⟨_, _, _, h4⟩ := idx_read l hs
  unfold ridx
  rw [h4, numS_zero, ibody, numR_vput _ _ _ (by omega) (by omega)]
  have := rspans_ok l none [] [] h
  simp only [lowP, List.append_nil, List.nil_append] at this
  exact this

/-! ### what is read to the end is just its bytes -/
theorem numS_ok (most : Nat) (s : List UInt8) (e : Int) (h : (numS most s e).2.2 = 0) : e = 0 ∧ s = vput (numS most s e).1 ++ (numS most s e).2.1 ∧ (numS most s e).1 ≤ most := by
  have h0 : e = 0 := by
    rcases Decidable.em (e = 0) with h0 | h0
    · exact h0
    · exfalso
      unfold numS at h
      rw [if_pos h0] at h
      exact h0 h
  subst h0
  refine ⟨rfl, ?_, (numS_lt most s 0).2⟩
  rw [numS_zero] at h ⊢
  exact numR_one most s _ _ (by rw [← h])
theorem rspans_inv : ∀ (n : Nat) (p : Option UInt32) (acc : List GSpan) (s : List UInt8) (e : Int) (out : List GSpan) (s' : List UInt8),
    rspans n p acc s e = some (out, s', 0) → e = 0 ∧ ∃ l, out = acc ++ l ∧ l.length = n ∧ s = spansB (lowP p) l ++ s'
  | 0, p, acc, s, e, out, s', h => by
    simp only [rspans, Option.some.injEq, Prod.mk.injEq] at h
    obtain ⟨rfl, rfl, rfl⟩ := h
    exact ⟨rfl, [], by simp, rfl, by simp [spansB]⟩
  | n + 1, p, acc, s, e, out, s', h => by
    rw [rspans] at h
    split at h
    · rename_i h0
      simp only [Option.some.injEq, Prod.mk.injEq] at h
      exact absurd h.2.2 h0
    · rename_i h0
      split at h
      · cases h
      · rename_i h1
        obtain ⟨he, l, h2, h3, h4⟩ := rspans_inv n _ _ _ _ _ _ h
        obtain ⟨he2, k3, m3⟩ := numS_ok _ _ _ he
        obtain ⟨he1, k2, m2⟩ := numS_ok _ _ _ he2
        obtain ⟨he0, k1, m1⟩ := numS_ok _ _ _ he1
        refine ⟨he0, rspL p s e :: l, by rw [h2]; simp, by simp [h3], ?_⟩
        have hlow : (rspL p s e).low.toNat = rfrom p (rspN s e).1 := by
          show (UInt32.ofNat _).toNat = _
          rw [UInt32.toNat_ofNat']; omega
        have hrows : (rspL p s e).rows.toNat = (rsp2 s e).1 := by
          show (UInt32.ofNat _).toNat = _
          have : (rsp2 s e).1 ≤ 4294967295 := m2
          rw [UInt32.toNat_ofNat']; omega
        have hsize : (rspL p s e).size.toNat = (rsp3 s e).1 := by
          show (UInt32.ofNat _).toNat = _
          have : (rsp3 s e).1 ≤ 4294967295 := m3
          rw [UInt32.toNat_ofNat']; omega
        have hgap : (rspL p s e).low.toNat - lowP p = (rspN s e).1 := by
          rw [hlow]
          cases p with
          | none => simp [rfrom, lowP]
          | some q => simp only [rfrom, lowP]; omega
        have hlow' : lowP (some (UInt32.ofNat (rfrom p (rspN s e).1))) = (rspL p s e).low.toNat + 1 := rfl
        rw [hlow'] at h4
        rw [spansB, List.append_assoc, ← h4, span1_tail, hgap, hrows, hsize]
        refine k1.trans ?_
        congr 1
        refine k2.trans ?_
        congr 1
theorem ridx_inv (b : List UInt8) (out : List GSpan) (h1 : sE b = 0) (h2 : sN b = b.length) (h3 : sK b = 73) (h4 : ridx b = some (out, [], 0)) : ienc out = b := by
  unfold ridx at h4
  obtain ⟨he, l, e1, e2, e3⟩ := rspans_inv _ _ _ _ _ _ _ h4
  obtain ⟨_, k, _⟩ := numS_ok _ _ _ he
  rw [List.nil_append] at e1
  subst e1
  have hb := sec_inv b h1 h2
  have hL : sL b = ibody out := by
    rw [k, e3, ibody, e2]
    simp [lowP]
  rw [ienc, ← hL, ← h3]
  exact hb.symm
end Go.Proofs.Ythfnikdapknohaa

namespace Go.Proofs.Ythfnikdapknohaa
set_option linter.unusedSimpArgs false
set_option linter.unusedVariables false
open Go.RowKit

def cSpan : Cdc GSpan := Cdc.flat 3 (fun a => [.int .u32 (a.low.toNat : Int), .int .u32 (a.rows.toNat : Int), .int .u32 (a.size.toNat : Int)]) (fun _ => True) (fun _ => rfl) (fun x u hu => by
  simp at hu
  rcases hu with rfl | rfl | rfl <;> rfl)
theorem infoSpan : (Try.prog.info? 59).map (fun i => (i.zero, i.size, i.bytes)) = some (some (.agg #[.int .u32 0, .int .u32 0, .int .u32 0]), cSpan.n, 12) := by kernel_rfl
theorem InC.spans' {w : World} {cs : List Value} (h : InC w 41 cs) : ∃ v xs, cs = [v] ∧ RowOn cSpan w (fun k => k < w.heap.size) (fun k => k < w.heap.size) v xs :=
  h.row (C := cSpan) Try.underlying41 (by kernel_rfl) (by decide) fun cs hc => by
    obtain ⟨hl, hf⟩ := hc.fields Try.underlying59 (by kernel_rfl) (by kernel_rfl)
    obtain ⟨u0, h0, g0⟩ := hf 0 _ rfl
    obtain ⟨u1, h1, g1⟩ := hf 1 _ rfl
    obtain ⟨u2, h2, g2⟩ := hf 2 _ rfl
    obtain ⟨n0, e0, k0⟩ := InC.u32 (S := fun _ => True) Try.underlying51 g0
    obtain ⟨n1, e1, k1⟩ := InC.u32 (S := fun _ => True) Try.underlying51 g1
    obtain ⟨n2, e2, k2⟩ := InC.u32 (S := fun _ => True) Try.underlying51 g2
    simp at e0 e1 e2
    subst e0; subst e1; subst e2
    match cs, hl with
    | [c0, c1, c2], _ =>
      injection h0 with h0
      injection h1 with h1
      injection h2 with h2
      subst h0; subst h1; subst h2
      exact ⟨⟨n0, n1, n2⟩, rfl, trivial⟩
/-- the value reads as these spans, in blocks below B -/
abbrev ByS (w : World) (B : Nat) (v : Value) (l : List GSpan) : Prop := RowOn cSpan w (fun k => k < B) (fun _ => True) v l
theorem ByS.below {w w' : World} {B : Nat} {v : Value} {l : List GSpan} (h : ByS w B v l) (hb : Below B w w') : ByS w' B v l := by
  obtain ⟨A, c, h1, h2, h3, h4⟩ := h
  refine ⟨A, c, h1, h2, h3, fun hn => ?_⟩
  obtain ⟨ad, e, hb', hc⟩ := h4 hn
  refine ⟨ad, e, hb', fun i x hx => ?_⟩
  obtain ⟨cs, ha, hcs⟩ := hc i x hx
  exact ⟨cs, ha, fun j u hu => (hb.cell (by rw [add_block]; exact hb')).trans (hcs j u hu)⟩
theorem ByS.more {w : World} {B B' : Nat} {v : Value} {l : List GSpan} (h : ByS w B v l) (hB : B ≤ B') : ByS w B' v l := h.mono (fun _ hk => by omega) fun _ hk => hk
theorem ByS.step {w w' : World} {v : Value} {l : List GSpan} (h : ByS w w.heap.size v l) (hb : Below w.heap.size w w') : ByS w' w'.heap.size v l := (h.below hb).more hb.size
theorem InC.spans {w : World} {v : Value} (h : InC w 41 [v]) : ∃ l, ByS w w.heap.size v l := by
  obtain ⟨v', xs, e, hr⟩ := h.spans'
  injection e with e
  subst e
  exact ⟨xs, hr.mono (fun _ hk => hk) (fun _ _ => trivial)⟩
/-- the three cells of the k-th span -/
theorem ByS.cells {w : World} {B : Nat} {A : Option Addr} {n c : Nat} {l : List GSpan} (h : ByS w B (.slice A n c) l) (k : Nat) (hk : k < l.length) :
    ∃ ad, A = some ad ∧ ad.block < B ∧ w.cell? (ad.add (k * 3)) = some (.int .u32 ((l[k]).low.toNat : Int)) ∧ w.cell? { block := (ad.add (k * 3)).block, off := (ad.add (k * 3)).off + 1 } = some (.int .u32 ((l[k]).rows.toNat : Int)) ∧ w.cell? { block := (ad.add (k * 3)).block, off := (ad.add (k * 3)).off + 2 } = some (.int .u32 ((l[k]).size.toNat : Int)) := by
  obtain ⟨ad, cs, e, hb, ⟨rfl, _⟩, hc⟩ := h.at_ k l[k] (List.getElem?_eq_getElem hk)
  refine ⟨ad, e, hb, hc 0 _ rfl, ?_, ?_⟩
  · have := hc 1 _ rfl
    rw [← add_add] at this
    have e2 : (ad.add (k * cSpan.n)).add 1 = { block := (ad.add (k * 3)).block, off := (ad.add (k * 3)).off + 1 } := by simp [Addr.add, cSpan, Cdc.flat]
    rw [← e2]
    exact this
  · have := hc 2 _ rfl
    rw [← add_add] at this
    have e2 : (ad.add (k * cSpan.n)).add 2 = { block := (ad.add (k * 3)).block, off := (ad.add (k * 3)).off + 2 } := by simp [Addr.add, cSpan, Cdc.flat]
    rw [← e2]
    exact this
end Go.Proofs.Ythfnikdapknohaa

namespace Go.Proofs.Ythfnikdapknohaa
set_option linter.unusedSimpArgs false
set_option linter.unusedVariables false
open Go.RowKit

theorem sL_len (b : List UInt8) : (sL b).length ≤ b.length := by
  unfold sL
  split
  · simp only [List.length_take, List.length_drop]; omega
  · simp
/-- an own row's block is none of a box of another type -/
theorem ownR_ne_box {α : Type} {E T : TypeId} {C : Cdc α} {w : World} {base : Nat} {S : Nat → Prop} {v : Value} {xs : List α} {g : Nat} {cs : List Value} (hET : E ≠ T) (h : OwnR E C w base S v xs) (hb : BoxAt T w g cs) : ∀ k, v.ownBlock = some k → k ≠ g := by
  obtain ⟨_, _, ⟨_, h2⟩, _⟩ := h
  intro k hk e
  subst e
  rcases h2 with ⟨rfl, _⟩ | ⟨g', cap, cur, rfl, _, h3, _⟩
  · cases hk
  · injection hk with hk
    subst hk
    have := h3.symm.trans hb
    injection this with this
    injection this with _ h _
    exact hET h
theorem ownR_ne_own {α β : Type} {E T : TypeId} {C : Cdc α} {D : Cdc β} {w : World} {base base2 : Nat} {S S2 : Nat → Prop} {v v2 : Value} {xs : List α} {ys : List β} (hET : E ≠ T) (h : OwnR E C w base S v xs) (hb : OwnR T D w base2 S2 v2 ys) : ∀ k, v.ownBlock = some k → v2.ownBlock ≠ some k := by
  obtain ⟨_, _, ⟨_, h2⟩, _⟩ := h
  obtain ⟨_, _, ⟨_, h4⟩, _⟩ := hb
  intro k hk e
  rcases h2 with ⟨rfl, _⟩ | ⟨g', cap, cur, rfl, _, h3, _⟩
  · cases hk
  · rcases h4 with ⟨rfl, _⟩ | ⟨g2, cap2, cur2, rfl, _, h5, _⟩
    · cases e
    · injection hk with hk
      injection e with e
      have := h3.symm.trans ((congrArg (w.heap[·]?) (hk.trans e.symm)).trans h5)
      injection this with this
      injection this with _ h _
      exact hET h
theorem ownKept {α β : Type} {E T : TypeId} {C : Cdc α} {D : Cdc β} {w w' : World} {base base2 : Nat} {v v2 v' : Value} {xs : List α} {ys : List β} (hET : E ≠ T) (h : OwnF E C w base v xs) (hb : OwnF T D w base2 v2 ys) (hx : Ext w w' v v') : OwnF T D w' base2 v2 ys := by
  refine hb.keep hx.gr ?_ (fun _ h => h.elim)
  cases hv : v2.ownBlock with
  | none => exact .inl rfl
  | some k => exact .inr fun e => ownR_ne_own hET h hb k e.symm hv
def iOf : Value → Nat
  | .int _ n => n.toNat
  | _ => 0
end Go.Proofs.Ythfnikdapknohaa

namespace Go.Proofs.Ythfnikdapknohaa
set_option linter.unusedSimpArgs false
set_option linter.unusedVariables false
open Go.RowKit

/-- how one operation may run -/
def mildS (P : Program) (d : Option Nat) (ph : Value → Prop) (i : Nat) (J : (Nat → Bool) → (Nat → Value) → World → Prop) (b : Nat → Bool) (vs : Nat → Value) : Result Next → Prop
  | .ok (.value u) w'' => ph (dstVal d u) ∧ J (fun s => if s = i then true else b s) (fun s => if s = i then dstVal d u else vs s) w''
  | .ok .skip w'' => d = none ∧ ph undef ∧ J (fun s => if s = i then true else b s) (fun s => if s = i then undef else vs s) w''
  | .ok (.enter f args) w'' => Calls P f args w'' (fun e w3 => ∃ v, e = .returned v ∧ ph (dstVal d v) ∧ J (fun s => if s = i then true else b s) (fun s => if s = i then dstVal d v else vs s) w3)
  | _ => False
def ObS (P : Program) (dl : List (Option Nat)) (Φ : List (Value → Prop)) (ds : List Nat) (a : Act) (J : (Nat → Bool) → (Nat → Value) → World → Prop) (i : Nat) (ph : Value → Prop) (o : Oper) : Prop :=
  ∀ f b w', J b (valOf dl f) w' → b i = false → (∀ e ∈ o.after.toList, Region.binds .any e = true → b e.on = true) → PreO dl Φ f o.after.toList →
    (Gd dl f o.guard → mildS P o.dst ph i J b (valOf dl f) ((execOp (evalF ds f a) o).run P w')) ∧
    (¬ Gd dl f o.guard → ph undef ∧ J (fun s => if s = i then true else b s) (fun s => if s = i then undef else valOf dl f s) w')

section
variable {P : Program} {l : List Oper} {dl : List (Option Nat)} {Φ : List (Value → Prop)} {a : Act} {w : World} {Q : Exit → Act → World → Prop} {J : (Nat → Bool) → (Nat → Value) → World → Prop}
theorem mixS_aux {l2 : List Oper} (hdl : l.map (·.dst) = dl) (hn : typedB l a.tmps.size = true) (ht : tailB l l2 = true) (hob : ∀ (i : Nat) (o : Oper), l[i]? = some o → ObS P dl Φ (dstsOf_ l) a J i (Φ.getD i fun _ => True) o)
    (hQ : ∀ f b w', (∀ i, i < l.length → b i = true) → J b (valOf dl f) w' → PostO f dl Φ → wpList P (l ++ l2).toArray Q l2 (fills (dstsOf_ l) f a) w') :
    ∀ (fuel : Nat) (listed : Array Bool) (rem : List Nat), rem.length = fuel → listed.size = (l ++ l2).length → rem.Nodup → (∀ i, i ∈ rem ↔ i < l.length ∧ listed.getD i true = false) →
      (∀ i, l.length ≤ i → i < (l ++ l2).length → listed.getD i false = false) → Closed (l ++ l2) listed →
      ∀ f w', J (fun s => listed.getD s false) (valOf dl f) w' → (∀ i, i < l.length → listed.getD i false = true → factO dl Φ f i) →
      wpAny P .any (l ++ l2).toArray Q (fuel + l2.length) listed (fills (dstsOf_ l) f a) w' := by
  simp only [typedB, Bool.and_eq_true] at hn
  obtain ⟨⟨⟨hnd, hlt⟩, hed⟩, _⟩ := hn
  have hdlg : ∀ i : Nat, dl[i]? = (l[i]?).map (fun (o : Oper) => o.dst) := fun i => by rw [← hdl]; simp
  have hnd := of_decide_eq_true hnd
  have hlt : ∀ d ∈ dstsOf_ l, d < a.tmps.size := fun d hd => of_decide_eq_true (List.all_eq_true.1 hlt d hd)
  have hed : ∀ (i : Nat) (o : Oper), l[i]? = some o → ∀ e ∈ o.after, Region.binds .any e = true → e.on < i := by
    intro i o ho e he hb
    have h1 := List.all_eq_true.1 hed (o, i) (by
      rw [List.mem_zipIdx_iff_getElem?]; exact ho)
    have h2 := (Array.all_eq_true_iff_forall_mem.1 h1) e he
    simpa [hb] using h2
  have hanc := tail_anc ht
  have hback : backB (l ++ l2) = true := by simp only [tailB, Bool.and_eq_true] at ht; exact ht.1.1
  have hguard : guardB l = true := by simp only [tailB, Bool.and_eq_true] at ht; exact ht.1.2
  intro fuel
  induction fuel with
  | zero =>
    intro listed rem hrem hs hnr hmem hhi hcl f w' hb hf
    have hr0 : rem = [] := List.eq_nil_of_length_eq_zero hrem
    have hal : ∀ i, i < l.length → listed.getD i false = true := by
      intro i hi
      rcases hc : listed.getD i false with _ | _
      · exfalso
        have : i ∈ rem := (hmem i).2 ⟨hi, by
          rw [Array.getD_eq_getD_getElem?] at hc ⊢
          rw [Array.getElem?_eq_getElem (by rw [hs, List.length_append]; omega)] at hc ⊢
          exact hc⟩
        rw [hr0] at this
        cases this
      · rfl
    rw [Nat.zero_add]
    refine lex_tail (l := l) hback hanc l2 l.length listed (Nat.le_refl _) (fun j => by rw [List.getElem?_append_right (by omega)]; congr 1; omega) (by simp) hs hal hhi ?_
    refine hQ f _ w' hal hb (postO_mk dl Φ fun i d hd => ?_)
    have hi : i < l.length := by
      have := (List.getElem?_eq_some_iff.1 hd).1
      rw [← hdl] at this
      simpa using this
    have := hf i hi (hal i hi)
    unfold factO valOf at this
    rw [hd] at this
    cases d <;> exact this
  | succ fuel ih =>
    intro listed rem hrem hs hnr hmem hhi hcl f w' hb hf
    rw [show fuel + 1 + l2.length = (fuel + l2.length) + 1 by omega]
    refine ⟨fun h => ?_, fun i hi => ?_⟩
    · exfalso
      -- the least one that has not come up may come up
      have hno : ∀ i, i < l.length → listed.getD i false = true := by
        intro i
        induction i using Nat.strongRecOn with
        | _ i ih =>
          intro hi
          rcases hc : listed.getD i false with _ | _
          · exfalso
            have hm : i ∈ Region.ready .any (l ++ l2).toArray listed := by
              rw [mem_ready]
              refine ⟨?_, l[i], by simp [List.getElem?_append_left hi, hi], fun e he hb => ?_⟩
              · rw [Array.getD_eq_getD_getElem?] at hc ⊢
                rw [Array.getElem?_eq_getElem (by rw [hs, List.length_append]; omega)] at hc ⊢
                exact hc
              · have := hed i l[i] (by simp [hi]) e he hb
                exact ih e.on this (by omega)
            rw [h] at hm
            cases hm
          · rfl
      obtain ⟨k, hk⟩ : ∃ k, k ∈ rem := by
        cases rem with
        | nil => simp at hrem
        | cons x _ => exact ⟨x, List.mem_cons_self ..⟩
      obtain ⟨hk1, hk2⟩ := (hmem k).1 hk
      have h1 := hno k hk1
      rw [Array.getD_eq_getD_getElem?, Array.getElem?_eq_getElem (by rw [hs, List.length_append]; omega)] at h1 hk2
      simp at h1 hk2
      rw [h1] at hk2
      cases hk2
    obtain ⟨hun, o, ho, hpre⟩ := mem_ready.1 hi
    have hil : i < l.length := by
      rcases Nat.lt_or_ge i l.length with h | h
      · exact h
      · exfalso
        have hall := hanc listed hcl i o (by simpa using ho) h hpre
        obtain ⟨k, hk⟩ : ∃ k, k ∈ rem := by
          cases rem with
          | nil => simp at hrem
          | cons x _ => exact ⟨x, List.mem_cons_self ..⟩
        obtain ⟨hk1, hk2⟩ := (hmem k).1 hk
        have h1 := hall k (by omega)
        rw [Array.getD_eq_getD_getElem?, Array.getElem?_eq_getElem (by rw [hs, List.length_append]; omega)] at h1 hk2
        simp at h1 hk2
        rw [h1] at hk2
        cases hk2
    have hol : l[i]? = some o := by
      have h1 : (l ++ l2)[i]? = some o := by simpa using ho
      rwa [List.getElem?_append_left hil] at h1
    have hcl2 : Closed (l ++ l2) (listed.setIfInBounds i true) := by
      intro k ok hok hlk e he hbd
      by_cases hki : k = i
      · subst hki
        have h1 : (l ++ l2)[k]? = some o := by simpa using ho
        rw [h1] at hok
        injection hok with hok
        subst hok
        have h2 := hpre e he hbd
        by_cases hei : e.on = k
        · rw [hei] at h2 ⊢; rw [Array.getD_eq_getD_getElem?, Array.getElem?_setIfInBounds_self_of_lt (by rw [hs, List.length_append]; omega)]; rfl
        · rw [getD_set_ne false (Ne.symm hei)]; exact h2
      · rw [getD_set_ne false (Ne.symm hki)] at hlk
        have h2 := hcl k ok hok hlk e he hbd
        by_cases hei : e.on = i
        · rw [hei, Array.getD_eq_getD_getElem?, Array.getElem?_setIfInBounds_self_of_lt (by rw [hs, List.length_append]; omega)]; rfl
        · rw [getD_set_ne false (Ne.symm hei)]; exact h2
    have hhi2 : ∀ k, l.length ≤ k → k < (l ++ l2).length → (listed.setIfInBounds i true).getD k false = false := by
      intro k h1 h2
      rw [getD_set_ne false (by omega)]
      exact hhi k h1 h2
    have hp : PreO dl Φ f o.after.toList := preO_mk _ fun e he hbd => by
      have he' : e ∈ o.after := by simpa using he
      have hlist := hpre e he' hbd
      exact hf e.on (Nat.lt_trans (hed i o hol e he' hbd) hil) hlist
    have huf : listed.getD i false = false := by
      rw [Array.getD_eq_getD_getElem?] at hun ⊢
      rw [Array.getElem?_eq_getElem (by rw [hs, List.length_append]; omega)] at hun ⊢
      exact hun
    have hone := hob i o hol f (fun s => listed.getD s false) w' hb huf (fun e he hbd => hpre e (by simpa using he) hbd) hp
    have hbs : (fun s => (listed.setIfInBounds i true).getD s false) = fun s => if s = i then true else listed.getD s false := by
      funext s
      by_cases hsi : s = i
      · subst hsi; rw [if_pos rfl, Array.getD_eq_getD_getElem?, Array.getElem?_setIfInBounds_self_of_lt (by rw [hs, List.length_append]; omega)]; rfl
      · rw [if_neg hsi, getD_set_ne false (fun e => hsi e.symm)]
    have hgd := yielded_iff2 l l2 dl hdl (dstsOf_ l) f a hlt (fun d hd => by
      rw [← hdl] at hd
      obtain ⟨oo, h1, h2⟩ := List.mem_map.1 hd
      exact List.mem_filterMap.2 ⟨oo, h1, h2⟩) o.guard o rfl (fun j b hg => guard_spec hguard hol j b hg)
    have hval : ∀ (d : Nat), o.dst = some d → ∀ v k, k ≠ i → valOf dl (fun t => if t = d then v else f t) k = valOf dl f k := by
      intro d hd v k hki
      unfold valOf
      rw [hdlg]
      cases hok : l[k]? with
      | none => rfl
      | some ok =>
        cases hdk : ok.dst with
        | none => simp [hdk]
        | some dk =>
          simp only [Option.map_some, hdk]
          rw [if_neg]
          intro e
          subst e
          have h3 : (dstsOf_ l).Nodup := hnd
          have : ∀ (m : List Oper) (x y : Nat) (ox oy : Oper), (m.filterMap (·.dst)).Nodup → m[x]? = some ox → m[y]? = some oy → ox.dst = some dk → oy.dst = some dk → x = y := by
            intro m
            induction m with
            | nil => intro x y ox oy _ hx; simp at hx
            | cons q m ihm =>
              intro x y ox oy hnd hx hy hdx hdy
              cases x with
              | zero =>
                cases y with
                | zero => rfl
                | succ y =>
                  exfalso
                  simp at hx hy
                  subst hx
                  simp only [List.filterMap_cons, hdx] at hnd
                  exact (List.nodup_cons.1 hnd).1 (List.mem_filterMap.2 ⟨oy, List.mem_of_getElem? hy, hdy⟩)
              | succ x =>
                cases y with
                | zero =>
                  exfalso
                  simp at hx hy
                  subst hy
                  simp only [List.filterMap_cons, hdy] at hnd
                  exact (List.nodup_cons.1 hnd).1 (List.mem_filterMap.2 ⟨ox, List.mem_of_getElem? hx, hdx⟩)
                | succ y =>
                  simp at hx hy
                  have : (m.filterMap (·.dst)).Nodup := by
                    simp only [List.filterMap_cons] at hnd
                    cases hq : q.dst with
                    | none => simpa [hq] using hnd
                    | some _ => simp only [hq] at hnd; exact (List.nodup_cons.1 hnd).2
                  rw [ihm x y ox oy this hx hy hdx hdy]
          exact hki (this l k i ok o h3 hok hol hdk hd)
    -- what follows once the value is there
    have hnext : ∀ v w'', J (fun s => if s = i then true else listed.getD s false) (fun s => if s = i then dstVal o.dst v else valOf dl f s) w'' → (Φ.getD i fun _ => True) (dstVal o.dst v) →
        wpAny P .any (l ++ l2).toArray Q (fuel + l2.length) (listed.setIfInBounds i true) ((fills (dstsOf_ l) f a).put o.dst v) w'' := by
      intro v w'' hb' hv
      have hrem' : (rem.erase i).length = fuel := by
        have : i ∈ rem := (hmem i).2 ⟨hil, hun⟩
        rw [List.length_erase_of_mem this]; omega
      have hmem' : ∀ k, k ∈ rem.erase i ↔ k < l.length ∧ (listed.setIfInBounds i true).getD k true = false := by
        intro k
        rw [hnr.mem_erase_iff, hmem]
        by_cases hk : k = i
        · subst hk
          simp only [ne_eq, not_true, false_and, false_iff, not_and]
          intro hk
          rw [Array.getD_eq_getD_getElem?, Array.getElem?_setIfInBounds_self_of_lt (by rw [hs, List.length_append]; omega)]
          simp
        · rw [getD_set_ne true (Ne.symm hk)]
          simp [hk]
      have hst : ∀ k, k < l.length → k ≠ i → (listed.setIfInBounds i true).getD k false = true → listed.getD k false = true := by
        intro k _ hk h
        rw [getD_set_ne false (Ne.symm hk)] at h
        exact h
      cases hd : o.dst with
      | none =>
        show wpAny P .any (l ++ l2).toArray Q (fuel + l2.length) _ (fills (dstsOf_ l) f a) w''
        refine ih _ (rem.erase i) hrem' (by simpa using hs) (hnr.erase i) hmem' hhi2 hcl2 f w'' ?_ fun k hk hl => ?_
        · have e : (fun s => if s = i then dstVal o.dst v else valOf dl f s) = valOf dl f := by
            funext s
            by_cases hsi : s = i
            · rw [if_pos hsi]
              subst hsi
              unfold valOf
              rw [hdlg, hol]
              simp only [Option.map_some, hd]
              rfl
            · rw [if_neg hsi]
          rw [e] at hb'
          rw [hbs]; exact hb'
        · by_cases hki : k = i
          · subst hki
            unfold factO valOf
            rw [hdlg, hol]
            simp only [Option.map_some, hd]
            simpa [hd] using hv
          · exact hf k hk (hst k hk hki hl)
      | some d =>
        have hdm : d ∈ dstsOf_ l := List.mem_filterMap.2 ⟨o, List.mem_of_getElem? hol, hd⟩
        rw [fills_put _ _ _ _ _ hdm]
        refine ih _ (rem.erase i) hrem' (by simpa using hs) (hnr.erase i) hmem' hhi2 hcl2 _ w'' ?_ fun k hk hl => ?_
        · have e : (fun s => if s = i then dstVal o.dst v else valOf dl f s) = valOf dl (fun t => if t = d then v else f t) := by
            funext s
            by_cases hsi : s = i
            · rw [if_pos hsi]
              subst hsi
              unfold valOf
              rw [hdlg, hol]
              simp only [Option.map_some, hd]
              simp
            · rw [if_neg hsi, hval d hd v s hsi]
          rw [e] at hb'
          rw [hbs]; exact hb'
        · by_cases hki : k = i
          · subst hki
            unfold factO valOf
            rw [hdlg, hol]
            simp only [Option.map_some, hd]
            simpa [hd] using hv
          · have h0 := hf k hk (hst k hk hki hl)
            unfold factO at h0 ⊢
            rw [hval d hd v k hki]
            exact h0
    unfold wpOp
    simp only [ho]
    by_cases hw : Region.wanted o (yielded (l ++ l2).toArray (fills (dstsOf_ l) f a).tmps) = true
    · replace hone := hone.1 (hgd.1 hw)
      simp only [hw, if_true]
      left
      unfold Oper.wp
      rw [evalF_fills f hlt]
      generalize (execOp (evalF (dstsOf_ l) f a) o).run P w' = r at *
      cases r with
      | ok n w'' =>
        cases n <;> simp only [mildS] at hone <;> simp only [Oper.upon]
        case value u => exact hnext u _ hone.2 hone.1
        case skip =>
          obtain ⟨hd0, h1, h2⟩ := hone
          have h3 := hnext undef w'' (by rw [hd0]; exact h2) (by rw [hd0]; exact h1)
          exact h3
        case enter f' args =>
          refine hone.mono ?_
          rintro e w3 ⟨v, rfl, hv, hj⟩
          exact hnext v w3 hj hv
      | halt x w'' => simp only [mildS] at hone
    · replace hone := hone.2 (fun h => hw (hgd.2 h))
      simp only [hw]
      refine hnext undef w' ?_ ?_
      · have := hone.2
        cases hd : o.dst <;> exact this
      · cases o.dst <;> exact hone.1

/-- THE LAW: n operations, of which some change the world, then the end. -/
theorem wp_region_mixSI {id : Nat} {L : List Oper} {ds : List Nat} (n : Nat) (J : (Nat → Bool) → (Nat → Value) → World → Prop) (dl : List (Option Nat)) (Φ : List (Value → Prop)) (hdl : (L.take n).map (·.dst) = dl) (hds : dstsOf_ (L.take n) = ds) (hm : P.follows .mixedOrders = true)
    (hn : typedB (L.take n) a.tmps.size = true) (ht : tailB (L.take n) (L.drop n) = true) (hob : ∀ (i : Nat) (o : Oper), (L.take n)[i]? = some o → ObS P dl Φ ds a J i (Φ.getD i fun _ => True) o) (h0 : J (fun _ => false) (valOf dl fun t => a.tmps.getD t undef) w.drew)
    (hQ : ∀ f b w', (∀ i, i < (L.take n).length → b i = true) → J b (valOf dl f) w' → PostO f dl Φ → wpList P L.toArray Q (L.drop n) (fills ds f a) w') : (Code.region id L.toArray true).wp P Q a w := by
  subst hds
  refine wp_region_any hm ?_
  have hL : L.take n ++ L.drop n = L := List.take_append_drop n L
  have hf0 : (fun s => (Array.replicate L.length false).getD s false) = fun _ => false := by
    funext s
    rw [Array.getD_eq_getD_getElem?, Array.getElem?_replicate]; split <;> rfl
  have := mixS_aux (l2 := L.drop n) hdl hn ht hob (by rw [hL]; exact hQ) (L.take n).length (Array.replicate L.length false) (List.range (L.take n).length) (by simp) (by rw [hL]; simp) List.nodup_range (by
    intro i
    simp only [List.mem_range, Array.getD_eq_getD_getElem?]
    constructor
    · intro h; exact ⟨h, by
        have : i < L.length := by rw [List.length_take] at h; omega
        simp [this]⟩
    · exact fun h => h.1) (by
    intro i _ hi
    rw [hL] at hi
    simp [Array.getD_eq_getD_getElem?, hi]) (by
    intro i o _ hl
    exfalso
    simp [Array.getD_eq_getD_getElem?, Array.getElem?_replicate] at hl
    split at hl <;> simp at hl) (fun t => a.tmps.getD t undef) { w with drawn := w.drawn + 1 } (by rw [hf0]; exact h0) (by
    intro i hi h
    exfalso
    simp [Array.getD_eq_getD_getElem?, Array.getElem?_replicate] at h
    split at h <;> simp at h)
  rw [fills_self, hL] at this
  have hlen : (L.take n).length + (L.drop n).length = L.toArray.size := by rw [← List.length_append, hL]; simp
  rw [hlen] at this
  exact this
theorem wp_region_mixS {id : Nat} {L : List Oper} {ds : List Nat} (n : Nat) (J : (Nat → Bool) → (Nat → Value) → World → Prop) (dl : List (Option Nat)) (Φ : List (Value → Prop)) (hdl : (L.take n).map (·.dst) = dl) (hds : dstsOf_ (L.take n) = ds) (hm : P.follows .mixedOrders = true)
    (hn : typedB (L.take n) a.tmps.size = true) (ht : tailB (L.take n) (L.drop n) = true) (hob : ∀ (i : Nat) (o : Oper), (L.take n)[i]? = some o → ObS P dl Φ ds a J i (Φ.getD i fun _ => True) o) (h0 : ∀ v, J (fun _ => false) v w.drew)
    (hQ : ∀ f b w', (∀ i, i < (L.take n).length → b i = true) → J b (valOf dl f) w' → PostO f dl Φ → wpList P L.toArray Q (L.drop n) (fills ds f a) w') : (Code.region id L.toArray true).wp P Q a w := 
  wp_region_mixSI n J dl Φ hdl hds hm hn ht hob (h0 _) hQ
end

/-! ### one by one -/
def ObSAll (P : Program) (dl : List (Option Nat)) (Φ : List (Value → Prop)) (ds : List Nat) (a : Act) (J : (Nat → Bool) → (Nat → Value) → World → Prop) : Nat → List Oper → List (Value → Prop) → Prop
  | _, [], _ => True
  | _, _ :: _, [] => False
  | i, o :: os, ph :: phs => ObS P dl Φ ds a J i ph o ∧ ObSAll P dl Φ ds a J (i + 1) os phs
theorem obSAll_get {P : Program} {dl : List (Option Nat)} {Φ : List (Value → Prop)} {ds : List Nat} {a : Act} {J : (Nat → Bool) → (Nat → Value) → World → Prop} : ∀ (os : List Oper) (phs : List (Value → Prop)) (k : Nat), ObSAll P dl Φ ds a J k os phs →
    ∀ (i : Nat) (o : Oper), os[i]? = some o → ObS P dl Φ ds a J (k + i) (phs.getD i fun _ => True) o
  | [], _, _, _ => fun i o h => by simp at h
  | _ :: _, [], _, h => h.elim
  | x :: os, ph :: phs, k, h => fun i o ho => by
    cases i with
    | zero => obtain rfl : x = o := by simpa using ho
              exact h.1
    | succ i =>
      have := obSAll_get os phs (k + 1) h.2 i o (by simpa using ho)
      rw [show k + (i + 1) = k + 1 + i by omega]
      simpa using this
section
variable {P : Program} {dl : List (Option Nat)} {Φ : List (Value → Prop)} {ds : List Nat} {a : Act} {w : World} {i : Nat} {J : (Nat → Bool) → (Nat → Value) → World → Prop} {ph : Value → Prop} {o : Oper}
theorem obS_yes (h : ∀ f b w', J b (valOf dl f) w' → b i = false → (∀ e ∈ o.after.toList, Region.binds .any e = true → b e.on = true) → PreO dl Φ f o.after.toList → Gd dl f o.guard ∧ mildS P o.dst ph i J b (valOf dl f) ((execOp (evalF ds f a) o).run P w')) : ObS P dl Φ ds a J i ph o := by
  intro f b w' h1 h2 h3 h4
  have := h f b w' h1 h2 h3 h4
  exact ⟨fun _ => this.2, fun hn => absurd this.1 hn⟩
theorem mildS_val {d : Option Nat} {q : Value → Prop} {r : Result Next} {w' : World} {b : Nat → Bool} {vs : Nat → Value} (u : Value) (hr : r = .ok (.value u) w') (hq : q (dstVal d u)) (hj : J (fun s => if s = i then true else b s) (fun s => if s = i then dstVal d u else vs s) w') : mildS P d q i J b vs r := by
  subst hr
  exact ⟨hq, hj⟩
theorem mildS_skip {q : Value → Prop} {r : Result Next} {w' : World} {b : Nat → Bool} {vs : Nat → Value} (hr : r = .ok .skip w') (hq : q undef) (hj : J (fun s => if s = i then true else b s) (fun s => if s = i then undef else vs s) w') : mildS P none q i J b vs r := by
  subst hr
  exact ⟨rfl, hq, hj⟩
theorem mildS_ex {d : Option Nat} {q : Value → Prop} {r : Result Next} {b : Nat → Bool} {vs : Nat → Value} {A B : Value → World → Prop} (hr : ∃ v' w3, r = .ok (.value v') w3 ∧ A v' w3 ∧ B v' w3)
    (h : ∀ v' w3, A v' w3 → B v' w3 → q (dstVal d v') ∧ J (fun s => if s = i then true else b s) (fun s => if s = i then dstVal d v' else vs s) w3) : mildS P d q i J b vs r := by
  obtain ⟨v', w3, rfl, h1, h2⟩ := hr
  exact h v' w3 h1 h2
end
theorem wp_region_mixSL {P : Program} {a : Act} {w : World} {Q : Exit → Act → World → Prop} {id : Nat} {L : List Oper} {ds : List Nat} (n : Nat) (J : (Nat → Bool) → (Nat → Value) → World → Prop) (dl : List (Option Nat)) (Φ : List (Value → Prop)) (hdl : (L.take n).map (·.dst) = dl) (hds : dstsOf_ (L.take n) = ds) (hm : P.follows .mixedOrders = true)
    (hn : typedB (L.take n) a.tmps.size = true) (ht : tailB (L.take n) (L.drop n) = true) (hob : ObSAll P dl Φ ds a J 0 (L.take n) Φ) (h0 : ∀ v, J (fun _ => false) v w.drew)
    (hQ : ∀ f b w', (∀ i, i < (L.take n).length → b i = true) → J b (valOf dl f) w' → PostO f dl Φ → wpList P L.toArray Q (L.drop n) (fills ds f a) w') : (Code.region id L.toArray true).wp P Q a w :=
  wp_region_mixS n J dl Φ hdl hds hm hn ht (fun i o ho => by simpa using obSAll_get _ _ 0 hob i o ho) h0 hQ
theorem wp_region_mixSLI {P : Program} {a : Act} {w : World} {Q : Exit → Act → World → Prop} {id : Nat} {L : List Oper} {ds : List Nat} (n : Nat) (J : (Nat → Bool) → (Nat → Value) → World → Prop) (dl : List (Option Nat)) (Φ : List (Value → Prop)) (hdl : (L.take n).map (·.dst) = dl) (hds : dstsOf_ (L.take n) = ds) (hm : P.follows .mixedOrders = true)
    (hn : typedB (L.take n) a.tmps.size = true) (ht : tailB (L.take n) (L.drop n) = true) (hob : ObSAll P dl Φ ds a J 0 (L.take n) Φ) (h0 : J (fun _ => false) (valOf dl fun t => a.tmps.getD t undef) w.drew)
    (hQ : ∀ f b w', (∀ i, i < (L.take n).length → b i = true) → J b (valOf dl f) w' → PostO f dl Φ → wpList P L.toArray Q (L.drop n) (fills ds f a) w') : (Code.region id L.toArray true).wp P Q a w :=
  wp_region_mixSI n J dl Φ hdl hds hm hn ht (fun i o ho => by simpa using obSAll_get _ _ 0 hob i o ho) h0 hQ
end Go.Proofs.Ythfnikdapknohaa

namespace Go.Proofs.Ythfnikdapknohaa
set_option linter.unusedSimpArgs false
set_option linter.unusedVariables false
open Go.RowKit

/-- the cells of a cutter -/
def cutC (low rws sz size : Nat) (vr vs va : Value) : List Value := [.int .u32 (low : Int), .int .u32 (rws : Int), .int .u32 (sz : Int), .int .u32 (size : Int), vr, vs, va]
set_option maxRecDepth 100000 in
set_option maxHeartbeats 4000000 in
theorem cufits_any (w : World) (c low rws sz size : Nat) (Ar : Option Addr) (nr cr : Nat) (vs va : Value) (Ab : Option Addr) (nb cb : Nat) (hb : BoxAt 125 w c (cutC low rws sz size (.slice Ar nr cr) vs va)) (hr : rws ≤ 1048576) (hnr : nr ≤ 1099511627776) (hnb : nb ≤ 1099511627776) (hs : size < 4294967296) :
    Calls Try.prog 62 #[.pointer (some ⟨c, 0, none⟩), .slice Ab nb cb] w fun e w' => e = .returned (.bool (decide (13 + (vput (rws + 1)).length + nr + nb ≤ size))) ∧ Below w.heap.size w w' := by
  have hc1 := hb.cell 1 _ rfl
  have hvl := (vput_len64 (rws + 1) (by omega)).2
  have hw1 : IntKind.u64.wrap (rws : Int) = (rws : Int) := by rw [wrap_u64]; omega
  have hw2 : IntKind.u64.wrap ((rws : Int) + 1) = ((rws + 1 : Nat) : Int) := by rw [wrap_u64]; omega
  have Hb := Lib.hid hb
  clear hb
  obtain ⟨m, hm⟩ : ∃ m, (vput (rws + 1)).length = m := ⟨_, rfl⟩
  rw [hm] at hvl ⊢
  have Hm := Lib.hid hm
  obtain ⟨D, hD⟩ : ∃ D, decide (13 + m + nr + nb ≤ size) = D := ⟨_, rfl⟩
  have hD2 : decide (((13 + m + nr + nb : Nat) : Int) ≤ (size : Int)) = D := by rw [← hD]; exact decide_eq_decide.2 (by omega)
  rw [hD]
  have HD := Lib.hid hD2
  clear hD hD2 hm
  go_enter Try.func62, Try.ntmps62
  go_wp2_with fail
  refine (vput_any w w.heap.size (.slice none 0 0) [] (Ow.nil_ _ _) (rws + 1) (by omega) (by simp) (Nat.le_refl _)).mono ?_
  rintro _ w2 ⟨v2, rfl, ho2, hx2⟩
  rw [List.nil_append] at ho2
  have hb2' := hx2.below (Nat.le_refl _) (by simp [Value.ownBlock])
  have Hb2 := Lib.hid hb2'
  have Hbx := Lib.hid (Hb.out.below Hb.out.lt hb2')
  obtain ⟨A2, c2, rfl, _, _, _⟩ := ho2.form_
  rw [Hm.out]
  clear ho2 hx2 hb2' hc1
  go_upto_region 2 with fail
  refine wp_region_typed [some 14, some 15, some 16, some 17, some 18, some 19, some 20, some 21, some 22, some 23, some 24, some 25, some 26, some 27, some 28, some 29, some 30, some 31, some 32, some 4] [14, 15, 16, 17, 18, 19, 20, 21, 22, 23, 24, 25, 26, 27, 28, 29, 30, 31, 32, 4]
    [Ph.is (.slice A2 m c2),
      Ph.is (.int .i64 (m : Int)),
      Ph.is (.int .i64 ((13 + m : Nat) : Int)),
      Ph.is (.pointer (some ⟨c, 0, none⟩)),
      Ph.is (.pointer (some ⟨c, 0, none⟩)),
      Ph.is (.pointer (some ⟨c, 4, none⟩)),
      Ph.is (.slice Ar nr cr),
      Ph.is (.int .i64 (nr : Int)),
      Ph.is (.int .i64 ((13 + m + nr : Nat) : Int)),
      Ph.is (.slice Ab nb cb),
      Ph.is (.int .i64 (nb : Int)),
      Ph.is (.int .i64 ((13 + m + nr + nb : Nat) : Int)),
      Ph.is (.int .u64 ((13 + m + nr + nb : Nat) : Int)),
      Ph.is (.pointer (some ⟨c, 0, none⟩)),
      Ph.is (.pointer (some ⟨c, 0, none⟩)),
      Ph.is (.pointer (some ⟨c, 3, none⟩)),
      Ph.is (.int .u32 (size : Int)),
      Ph.is (.int .u64 (size : Int)),
      Ph.is (.bool D),
      Ph.is (.bool D)] rfl rfl (by kernel_rfl) (by kernel_rfl) ?_ ?_
  · refine ⟨?_, ?_, ?_, ?_, ?_, ?_, ?_, ?_, ?_, ?_, ?_, ?_, ?_, ?_, ?_, ?_, ?_, ?_, ?_, ?_, trivial⟩
    · -- 0: slot 14 := Op.move t5
      refine ob_yes fun f w' hb hp => ?_
      simp [PreOf, factOf, valOf, Ph.is, Ph.by_, Ph.any, Region.binds] at hp
      refine ⟨by simp [Gd, valOf, hp], ?_⟩
      refine mild_val (.slice A2 m c2) ?_ rfl
      simp [execOp, evalF, hp]
    · -- 1: slot 15 := Op.call   builtin len, args := #[t14], argTypes := #[25]  
      refine ob_yes fun f w' hb hp => ?_
      simp [PreOf, factOf, valOf, Ph.is, Ph.by_, Ph.any, Region.binds] at hp
      refine ⟨by simp [Gd, valOf, hp], ?_⟩
      refine mild_val (.int .i64 (m : Int)) ?_ rfl
      simp [execOp, evalF, hp, go_sem]
    · -- 2: slot 16 := Op.binOp BinOp.add 3 (const (13:i64)) t15 3
      refine ob_yes fun f w' hb hp => ?_
      simp [PreOf, factOf, valOf, Ph.is, Ph.by_, Ph.any, Region.binds] at hp
      refine ⟨by simp [Gd, valOf, hp], ?_⟩
      refine mild_val (.int .i64 ((13 + m : Nat) : Int)) ?_ rfl
      simp [execOp, evalF, hp, go_sem]
      try (rw [wrap_i64] <;> omega)
    · -- 3: slot 17 := Op.move t0
      refine ob_yes fun f w' hb hp => ?_
      simp [PreOf, factOf, valOf, Ph.is, Ph.by_, Ph.any, Region.binds] at hp
      refine ⟨by simp [Gd, valOf, hp], ?_⟩
      refine mild_val (.pointer (some ⟨c, 0, none⟩)) ?_ rfl
      simp [execOp, evalF, hp]
    · -- 4: slot 18 := Op.nilCheck t17
      refine ob_yes fun f w' hb hp => ?_
      simp [PreOf, factOf, valOf, Ph.is, Ph.by_, Ph.any, Region.binds] at hp
      refine ⟨by simp [Gd, valOf, hp], ?_⟩
      refine mild_val (.pointer (some ⟨c, 0, none⟩)) ?_ rfl
      simp [execOp, evalF, hp, go_sem]
    · -- 5: slot 19 := Op.fieldAddr 125 t18 2
      refine ob_yes fun f w' hb hp => ?_
      simp [PreOf, factOf, valOf, Ph.is, Ph.by_, Ph.any, Region.binds] at hp
      refine ⟨by simp [Gd, valOf, hp], ?_⟩
      refine mild_val (.pointer (some ⟨c, 4, none⟩)) ?_ rfl
      simp [execOp, evalF, hp, go_sem]
    · -- 6: slot 20 := Op.load 25 t19
      refine ob_yes fun f w' hb hp => ?_
      simp [PreOf, factOf, valOf, Ph.is, Ph.by_, Ph.any, Region.binds] at hp
      refine ⟨by simp [Gd, valOf, hp], ?_⟩
      have hc := (Hbx.out.below Hbx.out.lt hb).cell 4 _ rfl
      refine mild_val (.slice Ar nr cr) ?_ rfl
      simp [execOp, evalF, hp, hc, go_sem]
    · -- 7: slot 21 := Op.call   builtin len, args := #[t20], argTypes := #[25]  
      refine ob_yes fun f w' hb hp => ?_
      simp [PreOf, factOf, valOf, Ph.is, Ph.by_, Ph.any, Region.binds] at hp
      refine ⟨by simp [Gd, valOf, hp], ?_⟩
      refine mild_val (.int .i64 (nr : Int)) ?_ rfl
      simp [execOp, evalF, hp, go_sem]
    · -- 8: slot 22 := Op.binOp BinOp.add 3 t16 t21 3
      refine ob_yes fun f w' hb hp => ?_
      simp [PreOf, factOf, valOf, Ph.is, Ph.by_, Ph.any, Region.binds] at hp
      refine ⟨by simp [Gd, valOf, hp], ?_⟩
      refine mild_val (.int .i64 ((13 + m + nr : Nat) : Int)) ?_ rfl
      simp [execOp, evalF, hp, go_sem]
      try (rw [wrap_i64] <;> omega)
    · -- 9: slot 23 := Op.move t1
      refine ob_yes fun f w' hb hp => ?_
      simp [PreOf, factOf, valOf, Ph.is, Ph.by_, Ph.any, Region.binds] at hp
      refine ⟨by simp [Gd, valOf, hp], ?_⟩
      refine mild_val (.slice Ab nb cb) ?_ rfl
      simp [execOp, evalF, hp]
    · -- 10: slot 24 := Op.call   builtin len, args := #[t23], argTypes := #[25]  
      refine ob_yes fun f w' hb hp => ?_
      simp [PreOf, factOf, valOf, Ph.is, Ph.by_, Ph.any, Region.binds] at hp
      refine ⟨by simp [Gd, valOf, hp], ?_⟩
      refine mild_val (.int .i64 (nb : Int)) ?_ rfl
      simp [execOp, evalF, hp, go_sem]
    · -- 11: slot 25 := Op.binOp BinOp.add 3 t22 t24 3
      refine ob_yes fun f w' hb hp => ?_
      simp [PreOf, factOf, valOf, Ph.is, Ph.by_, Ph.any, Region.binds] at hp
      refine ⟨by simp [Gd, valOf, hp], ?_⟩
      refine mild_val (.int .i64 ((13 + m + nr + nb : Nat) : Int)) ?_ rfl
      simp [execOp, evalF, hp, go_sem]
      try (rw [wrap_i64] <;> omega)
    · -- 12: slot 26 := Op.convert 3 71 t25
      refine ob_yes fun f w' hb hp => ?_
      simp [PreOf, factOf, valOf, Ph.is, Ph.by_, Ph.any, Region.binds] at hp
      refine ⟨by simp [Gd, valOf, hp], ?_⟩
      refine mild_val (.int .u64 ((13 + m + nr + nb : Nat) : Int)) ?_ rfl
      simp [execOp, evalF, hp, go_sem]
      try (rw [wrap_u64] <;> omega)
    · -- 13: slot 27 := Op.move t0
      refine ob_yes fun f w' hb hp => ?_
      simp [PreOf, factOf, valOf, Ph.is, Ph.by_, Ph.any, Region.binds] at hp
      refine ⟨by simp [Gd, valOf, hp], ?_⟩
      refine mild_val (.pointer (some ⟨c, 0, none⟩)) ?_ rfl
      simp [execOp, evalF, hp]
    · -- 14: slot 28 := Op.nilCheck t27
      refine ob_yes fun f w' hb hp => ?_
      simp [PreOf, factOf, valOf, Ph.is, Ph.by_, Ph.any, Region.binds] at hp
      refine ⟨by simp [Gd, valOf, hp], ?_⟩
      refine mild_val (.pointer (some ⟨c, 0, none⟩)) ?_ rfl
      simp [execOp, evalF, hp, go_sem]
    · -- 15: slot 29 := Op.fieldAddr 125 t28 1
      refine ob_yes fun f w' hb hp => ?_
      simp [PreOf, factOf, valOf, Ph.is, Ph.by_, Ph.any, Region.binds] at hp
      refine ⟨by simp [Gd, valOf, hp], ?_⟩
      refine mild_val (.pointer (some ⟨c, 3, none⟩)) ?_ rfl
      simp [execOp, evalF, hp, go_sem]
    · -- 16: slot 30 := Op.load 51 t29
      refine ob_yes fun f w' hb hp => ?_
      simp [PreOf, factOf, valOf, Ph.is, Ph.by_, Ph.any, Region.binds] at hp
      refine ⟨by simp [Gd, valOf, hp], ?_⟩
      have hc := (Hbx.out.below Hbx.out.lt hb).cell 3 _ rfl
      refine mild_val (.int .u32 (size : Int)) ?_ rfl
      simp [execOp, evalF, hp, hc, go_sem]
    · -- 17: slot 31 := Op.convert 51 71 t30
      refine ob_yes fun f w' hb hp => ?_
      simp [PreOf, factOf, valOf, Ph.is, Ph.by_, Ph.any, Region.binds] at hp
      refine ⟨by simp [Gd, valOf, hp], ?_⟩
      refine mild_val (.int .u64 (size : Int)) ?_ rfl
      simp [execOp, evalF, hp, go_sem]
      try (rw [wrap_u64] <;> omega)
    · -- 18: slot 32 := Op.binOp BinOp.leq 71 t26 t31 71
      refine ob_yes fun f w' hb hp => ?_
      simp [PreOf, factOf, valOf, Ph.is, Ph.by_, Ph.any, Region.binds] at hp
      refine ⟨by simp [Gd, valOf, hp], ?_⟩
      refine mild_val (.bool D) ?_ rfl
      have hh := HD.out
      simp [execOp, evalF, hp, go_sem]
      try exact hh
      try (rw [← hh]; simp)
    · -- 19: slot 4 := Op.assign t32
      refine ob_yes fun f w' hb hp => ?_
      simp [PreOf, factOf, valOf, Ph.is, Ph.by_, Ph.any, Region.binds] at hp
      refine ⟨by simp [Gd, valOf, hp], ?_⟩
      refine mild_val (.bool D) ?_ rfl
      simp [execOp, evalF, hp]
  · intro f w2 hb2 hp
    simp only [PostOf, Ph.is, Ph.by_, Ph.any] at hp
    obtain ⟨h0, h1, h2, h3, h4, h5, h6, h7, h8, h9, h10, h11, h12, h13, h14, h15, h16, h17, h18, h19, _⟩ := hp
    simp only [fills, List.foldl_cons, List.foldl_nil, Act.put, List.setIfInBounds_toArray, List.set_cons_zero, List.set_cons_succ, h0, h1, h2, h3, h4, h5, h6, h7, h8, h9, h10, h11, h12, h13, h14, h15, h16, h17, h18, h19]
    clear h0 h1 h2 h3 h4 h5 h6 h7 h8 h9 h10 h11 h12 h13 h14 h15 h16 h17 h18 h19
    have Hb3 := Lib.hid (Hb2.out.trans (hb2.mono Hb2.out.size))
    clear hb2
    go_wp2_with fail
    go_ret
    exact ⟨rfl, Hb3.out⟩

theorem u32of_ (n : Nat) (h : n ≤ 4294967295) : (UInt32.ofNat n).toNat = n := by rw [UInt32.toNat_ofNat']; omega
theorem span_one3 (a b c : Nat) : ∀ u ∈ ([.int .u32 (a : Int), .int .u32 (b : Int), .int .u32 (c : Int)] : List Value), u.oneCell' = true := by
  intro u hu; simp at hu; rcases hu with rfl | rfl | rfl <;> rfl
theorem infoSpan3 : (Try.prog.info? 59).map (·.size) = some 3 := by kernel_rfl
/-- one raw value -/
def cVal : Cdc Value where
  n := 1
  at_ := fun w S cs x => cs = [x] ∧ x.oneCell' = true
  len := fun h => by rw [h.1]; rfl
  one := fun h => by obtain ⟨rfl, h1⟩ := h; intro u hu; simp at hu; rcases hu with rfl; assumption
  keep := fun h _ => h
  mono := fun h _ => h
theorem infoBs : (Try.prog.info? 25).map (fun i => (i.zero, i.size, i.bytes)) = some (some (.slice none 0 0), cVal.n, 24) := by kernel_rfl
/-- one element in a new block -/
theorem rowOfBox {α : Type} {C : Cdc α} {W : World} {S : Nat → Prop} {T : TypeId} {g : Nat} {cs : List Value} {y : α} (h : BoxAt T W g cs) (hy : C.at_ W S cs y) : RowOn C W (fun _ => True) S (.slice (some ⟨g, 0, none⟩) 1 1) [y] :=
  ⟨_, 1, rfl, Nat.le_refl _, by simp [maxLen], fun _ => ⟨_, rfl, trivial, fun i x hi => by
    match i, hi with
    | 0, hi =>
      injection hi with hi
      subst hi
      exact ⟨cs, hy, fun j u hu => by
        have := h.cell j u hu
        rcases j with _ | j <;> simpa [Addr.add] using this⟩
    | i + 1, hi => simp at hi⟩⟩
def CuBox (W : World) (c : Nat) (lo : UInt32) (rws len size : Nat) (vr vs0 va0 : Value) (b21 b24 : Bool) (v11 v18 : Value) : Prop :=
  BoxAt 125 W c (cutC lo.toNat rws len size vr (cond b21 v11 vs0) (cond b24 v18 va0))
def CuSp (W : World) (base : Nat) (vs0 : Value) (spans : List GSpan) (sp : GSpan) (b : Bool) (v : Value) : Prop :=
  OwnF 59 cSpan W base (cond b v vs0) (spans ++ cond b [sp] [])
def CuAl (W : World) (base : Nat) (va0 : Value) (alls : List Value) (vb : Value) (b : Bool) (v : Value) : Prop :=
  OwnF 25 cVal W base (cond b v va0) (alls ++ cond b [vb] [])
def CuTmp (T : TypeId) (cs : List Value) (W : World) (b1 b2 : Bool) (v : Value) : Prop := b1 = true → b2 = false → ∃ g, v = .slice (some ⟨g, 0, none⟩) 1 1 ∧ BoxAt T W g cs
section
variable {W W' : World} {c : Nat} {lo : UInt32} {rws len size base : Nat} {vr vs0 va0 vb v v11 v18 : Value} {b b1 b2 b21 b24 : Bool} {spans : List GSpan} {sp : GSpan} {alls cs : List Value} {T E : TypeId}
theorem CuBox.below (h : CuBox W c lo rws len size vr vs0 va0 b21 b24 v11 v18) (hb : Below W.heap.size W W') : CuBox W' c lo rws len size vr vs0 va0 b21 b24 v11 v18 := BoxAt.below h (BoxAt.lt h) hb
theorem CuSp.below (h : CuSp W base vs0 spans sp b v) (hb : Below W.heap.size W W') : CuSp W' base vs0 spans sp b v := OwnR.below_ h hb
theorem CuAl.below (h : CuAl W base va0 alls vb b v) (hb : Below W.heap.size W W') : CuAl W' base va0 alls vb b v := OwnR.below_ h hb
theorem CuTmp.below (h : CuTmp T cs W b1 b2 v) (hb : Below W.heap.size W W') : CuTmp T cs W' b1 b2 v := fun h1 h2 => by
  obtain ⟨g, e, hx⟩ := h h1 h2
  exact ⟨g, e, hx.below hx.lt hb⟩
/-- what an append onto an own row of another type leaves -/
theorem boxKept {α : Type} {C : Cdc α} {g : Nat} {xs : List α} {v' : Value} (hET : E ≠ T) (ho : OwnF E C W base v xs) (hx : Ext W W' v v') (h : BoxAt T W g cs) : BoxAt T W' g cs := h.grown hx.gr (fun e => ownR_ne_box hET ho h _ e rfl)
theorem CuTmp.kept {α : Type} {C : Cdc α} {xs : List α} {v2 v' : Value} (hET : E ≠ T) (ho : OwnF E C W base v xs) (hx : Ext W W' v v') (h : CuTmp T cs W b1 b2 v2) : CuTmp T cs W' b1 b2 v2 := fun h1 h2 => by
  obtain ⟨g, e, hx2⟩ := h h1 h2
  exact ⟨g, e, boxKept hET ho hx hx2⟩
/-- a store into the box -/
theorem ownSet {α : Type} {C : Cdc α} {xs : List α} {ds : List Value} (hET : E ≠ T) (ho : OwnF E C W base v xs) (h : BoxAt T W c ds) (j : Nat) (u : Value) : OwnF E C (W.setCell ⟨c, j, none⟩ u) base v xs :=
  OwnR.chg ho (Chg.set (P := fun k => k = c) W ⟨c, j, none⟩ u rfl) (fun k hk e => ownR_ne_box hET ho h k hk e) (fun _ h => h.elim)
theorem CuTmp.set {ds : List Value} {T2 : TypeId} (hT : T ≠ T2) (h : CuTmp T cs W b1 b2 v) (hb : BoxAt T2 W c ds) (j : Nat) (u : Value) : CuTmp T cs (W.setCell ⟨c, j, none⟩ u) b1 b2 v := fun h1 h2 => by
  obtain ⟨g, e, hx⟩ := h h1 h2
  refine ⟨g, e, hx.other _ _ (fun e => ?_)⟩
  simp only at e
  subst e
  have := hx.symm.trans hb
  injection this with this
  injection this with _ e _
  exact hT e
end
theorem run_slice_span (w : World) (a b d : Int) : (Instr.buildSlice 41 1 #[(0, .agg #[.int .u32 a, .int .u32 b, .int .u32 d])]).run Try.prog w =
    .ok (.slice (some ⟨w.heap.size, 0, none⟩) 1 1) (w.alloc (.cells #[.int .u32 a, .int .u32 b, .int .u32 d] 59)) := by
  obtain ⟨it, hit, hz0, hz1, hby⟩ := info_parts infoSpan
  refine run_buildSlice w _ _ 1 _ _ it _ Try.underlying41 hit hz0 (by rw [hz1]; decide) (by rw [hz1]; decide) ?_
  rw [hz1, show cSpan.n = 3 from rfl]
  exact fill_whole 3 _ [.int .u32 a, .int .u32 b, .int .u32 d] (by first | rfl | simp) (by first | rfl | simp)
def Ph.wh (base : Nat) (l : List UInt8) : Ph := ⟨fun v w => ∃ v', v = .tuple #[v', .int .i64 0] ∧ Ow w base v' l, fun _ _ _ ⟨v', e, h⟩ hb => ⟨v', e, h.below_ hb⟩⟩
def Ph.owb (base : Nat) (l : List UInt8) : Ph := ⟨fun v w => Ow w base v l, fun _ _ _ h hb => h.below_ hb⟩
set_option maxRecDepth 100000 in
set_option maxHeartbeats 800000 in
theorem ends_zero (w : World) (c low sz size : Nat) (vr vs va : Value) (hb : BoxAt 125 w c (cutC low 0 sz size vr vs va)) :
    Calls Try.prog 63 #[.pointer (some ⟨c, 0, none⟩)] w fun e w' => e = .returned (.int .i64 0) ∧ w = w' := by
  have hc1 : w.cell? ⟨c, 1, none⟩ = some (.int .u32 0) := hb.cell 1 _ rfl
  go_enter Try.func63, Try.ntmps63
  go_wp2_with fail
  go_ret
  exact ⟨rfl, rfl⟩
set_option maxRecDepth 100000 in
set_option maxHeartbeats 8000000 in
theorem ends_any (w : World) (c base : Nat) (lo : UInt32) (rws sz size : Nat) (body : List UInt8) (Ar : Option Addr) (cr : Nat) (vs0 va0 : Value) (spans : List GSpan) (alls : List Value)
    (hb : BoxAt 125 w c (cutC lo.toNat rws sz size (.slice Ar body.length cr) vs0 va0)) (hr1 : 1 ≤ rws) (hr : rws ≤ 1048576) (hbody : By w w.heap.size (.slice Ar body.length cr) body) (hbl : body.length ≤ 1048500)
    (hs : OwnF 59 cSpan w base vs0 spans) (ha : OwnF 25 cVal w base va0 alls) (hsl : spans.length ≤ 1048576) (hal : alls.length ≤ 1048576) (hbase : base ≤ w.heap.size) :
    Calls Try.prog 63 #[.pointer (some ⟨c, 0, none⟩)] w fun e w' => e = .returned (.int .i64 0) ∧ ∃ vb vs va, BoxAt 125 w' c (cutC 0 0 0 size (.slice none 0 0) vs va) ∧ Ow w' w.heap.size vb (frameOf 83 (vput rws ++ body)) ∧
      OwnF 59 cSpan w' base vs (spans ++ [⟨lo, UInt32.ofNat rws, UInt32.ofNat (frameOf 83 (vput rws ++ body)).length⟩]) ∧ OwnF 25 cVal w' base va (alls ++ [vb]) ∧ Chg (fun k => k = c ∨ vs0.ownBlock = some k ∨ va0.ownBlock = some k) w w' := by
  have hfl : (frameOf 83 (vput rws ++ body)).length ≤ 1100000 := by
    have := vput_len64 rws (by omega)
    rw [frameOf_length, List.length_append]; omega
  have Hwh := Lib.hid (fun W v h => whole_any W v body rws hr h hbl)
  generalize frameOf 83 (vput rws ++ body) = fr at *
  have hc1 := hb.cell 1 _ rfl
  have hc0 := hb.cell 0 _ rfl
  have hw1 : wrap64 (rws : Int) = (rws : Int) := by unfold wrap64; omega
  have hw32 : IntKind.u32.wrap (fr.length : Int) = (fr.length : Int) := by rw [IntKind.wrap_u32']; omega
  have hz1 : ((rws : Int) == 0) = false := beq_eq_false_iff_ne.2 (by omega)
  have hz2 : (rws == 0) = false := beq_eq_false_iff_ne.2 (by omega)
  have Hbx := Lib.hid hb
  have Hbody := Lib.hid hbody
  have Hs := Lib.hid hs
  have Ha := Lib.hid ha
  have hsp : Hid ((UInt32.ofNat rws).toNat = rws ∧ (UInt32.ofNat fr.length).toNat = fr.length) := Lib.hid ⟨u32of_ _ (by omega), u32of_ _ (by omega)⟩
  generalize UInt32.ofNat rws = x2 at *
  generalize UInt32.ofNat fr.length = x3 at *
  clear hb hbody hs ha
  go_enter Try.func63, Try.ntmps63
  go_upto_region 3 with fail
  refine wp_region_typed [some 12, some 13, some 14, some 15, some 16, some 17, some 18, some 19, some 20, some 21, some 22, some 11, some 23, some 24, some 3, some 4] [12, 13, 14, 15, 16, 17, 18, 19, 20, 21, 22, 11, 23, 24, 3, 4]
    [Ph.is (.pointer (some ⟨c, 0, none⟩)),
      Ph.is (.pointer (some ⟨c, 0, none⟩)),
      Ph.is (.pointer (some ⟨c, 0, none⟩)),
      Ph.is (.pointer (some ⟨c, 1, none⟩)),
      Ph.is (.int .u32 (rws : Int)),
      Ph.is (.int .i64 (rws : Int)),
      Ph.is (.pointer (some ⟨c, 0, none⟩)),
      Ph.is (.pointer (some ⟨c, 0, none⟩)),
      Ph.is (.pointer (some ⟨c, 4, none⟩)),
      Ph.is (.slice Ar body.length cr),
      Ph.wh w.heap.size fr,
      Ph.wh w.heap.size fr,
      Ph.owb w.heap.size fr,
      Ph.is (.int .i64 0),
      Ph.owb w.heap.size fr,
      Ph.is (.int .i64 0)] rfl rfl (by kernel_rfl) (by kernel_rfl) ?_ ?_
  · refine ⟨?_, ?_, ?_, ?_, ?_, ?_, ?_, ?_, ?_, ?_, ?_, ?_, ?_, ?_, ?_, ?_, trivial⟩
    · -- 0: slot 12 := Op.move t0
      refine ob_yes fun f w' hb hp => ?_
      simp [PreOf, factOf, valOf, Ph.is, Ph.by_, Ph.any, Region.binds, Ph.wh, Ph.owb] at hp
      refine ⟨by simp [Gd, valOf, hp], ?_⟩
      refine mild_val (.pointer (some ⟨c, 0, none⟩)) ?_ rfl
      simp [execOp, evalF, hp]
    · -- 1: slot 13 := Op.nilCheck t12
      refine ob_yes fun f w' hb hp => ?_
      simp [PreOf, factOf, valOf, Ph.is, Ph.by_, Ph.any, Region.binds, Ph.wh, Ph.owb] at hp
      refine ⟨by simp [Gd, valOf, hp], ?_⟩
      refine mild_val (.pointer (some ⟨c, 0, none⟩)) ?_ rfl
      simp [execOp, evalF, hp, go_sem]
    · -- 2: slot 14 := Op.fieldAddr 125 t13 0
      refine ob_yes fun f w' hb hp => ?_
      simp [PreOf, factOf, valOf, Ph.is, Ph.by_, Ph.any, Region.binds, Ph.wh, Ph.owb] at hp
      refine ⟨by simp [Gd, valOf, hp], ?_⟩
      refine mild_val (.pointer (some ⟨c, 0, none⟩)) ?_ rfl
      simp [execOp, evalF, hp, go_sem]
    · -- 3: slot 15 := Op.fieldAddr 59 t14 1
      refine ob_yes fun f w' hb hp => ?_
      simp [PreOf, factOf, valOf, Ph.is, Ph.by_, Ph.any, Region.binds, Ph.wh, Ph.owb] at hp
      refine ⟨by simp [Gd, valOf, hp], ?_⟩
      refine mild_val (.pointer (some ⟨c, 1, none⟩)) ?_ rfl
      simp [execOp, evalF, hp, go_sem]
    · -- 4: slot 16 := Op.load 51 t15
      refine ob_yes fun f w' hb hp => ?_
      simp [PreOf, factOf, valOf, Ph.is, Ph.by_, Ph.any, Region.binds, Ph.wh, Ph.owb] at hp
      refine ⟨by simp [Gd, valOf, hp], ?_⟩
      have hc := (Hbx.out.below Hbx.out.lt hb).cell 1 _ rfl
      refine mild_val (.int .u32 (rws : Int)) ?_ rfl
      simp [execOp, evalF, hp, hc, go_sem]
    · -- 5: slot 17 := Op.convert 51 3 t16
      refine ob_yes fun f w' hb hp => ?_
      simp [PreOf, factOf, valOf, Ph.is, Ph.by_, Ph.any, Region.binds, Ph.wh, Ph.owb] at hp
      refine ⟨by simp [Gd, valOf, hp], ?_⟩
      refine mild_val (.int .i64 (rws : Int)) ?_ rfl
      simp [execOp, evalF, hp, go_sem]
      rw [wrap_i64]; omega
    · -- 6: slot 18 := Op.move t0
      refine ob_yes fun f w' hb hp => ?_
      simp [PreOf, factOf, valOf, Ph.is, Ph.by_, Ph.any, Region.binds, Ph.wh, Ph.owb] at hp
      refine ⟨by simp [Gd, valOf, hp], ?_⟩
      refine mild_val (.pointer (some ⟨c, 0, none⟩)) ?_ rfl
      simp [execOp, evalF, hp]
    · -- 7: slot 19 := Op.nilCheck t18
      refine ob_yes fun f w' hb hp => ?_
      simp [PreOf, factOf, valOf, Ph.is, Ph.by_, Ph.any, Region.binds, Ph.wh, Ph.owb] at hp
      refine ⟨by simp [Gd, valOf, hp], ?_⟩
      refine mild_val (.pointer (some ⟨c, 0, none⟩)) ?_ rfl
      simp [execOp, evalF, hp, go_sem]
    · -- 8: slot 20 := Op.fieldAddr 125 t19 2
      refine ob_yes fun f w' hb hp => ?_
      simp [PreOf, factOf, valOf, Ph.is, Ph.by_, Ph.any, Region.binds, Ph.wh, Ph.owb] at hp
      refine ⟨by simp [Gd, valOf, hp], ?_⟩
      refine mild_val (.pointer (some ⟨c, 4, none⟩)) ?_ rfl
      simp [execOp, evalF, hp, go_sem]
    · -- 9: slot 21 := Op.load 25 t20
      refine ob_yes fun f w' hb hp => ?_
      simp [PreOf, factOf, valOf, Ph.is, Ph.by_, Ph.any, Region.binds, Ph.wh, Ph.owb] at hp
      refine ⟨by simp [Gd, valOf, hp], ?_⟩
      have hc := (Hbx.out.below Hbx.out.lt hb).cell 4 _ rfl
      refine mild_val (.slice Ar body.length cr) ?_ rfl
      simp [execOp, evalF, hp, hc, go_sem]
    · -- 10: slot 22 := Op.call   value (Operand.func 39), args := #[t17, t21], argTypes := #[3, 25]  
      refine ob_yes fun f w' hb hp => ?_
      simp [PreOf, factOf, valOf, Ph.is, Ph.by_, Ph.any, Region.binds, Ph.wh, Ph.owb] at hp
      refine ⟨by simp [Gd, valOf, hp], ?_⟩
      refine mild_call 39 _ _ Try.f39 Try.func39 (by kernel_rfl) (by kernel_rfl) rfl ?_
      simp [evalF, hp, Ph.is, Ph.by_, Ph.any, Ph.wh, Ph.owb]
      refine (Hwh.out w' _ (Hbody.out.step hb)).mono ?_
      rintro _ w7 ⟨v7, rfl, ho, hb7⟩
      exact ⟨_, rfl, hb7, ⟨v7, rfl, ho.mono hb.size⟩⟩
    · -- 11: slot 11 := Op.move t22
      refine ob_yes fun f w' hb hp => ?_
      simp [PreOf, factOf, valOf, Ph.is, Ph.by_, Ph.any, Region.binds, Ph.wh, Ph.owb] at hp
      refine ⟨by simp [Gd, valOf, hp], ?_⟩
      exact mild_val (f 22) (by simp [execOp, evalF]) (by simpa [Ph.wh] using hp)
    · -- 12: slot 23 := Op.extract t11 0
      refine ob_yes fun f w' hb hp => ?_
      simp [PreOf, factOf, valOf, Ph.is, Ph.by_, Ph.any, Region.binds, Ph.wh, Ph.owb] at hp
      refine ⟨by simp [Gd, valOf, hp], ?_⟩
      obtain ⟨v', h1, h2⟩ := hp
      exact mild_val v' (by simp [execOp, evalF, h1, go_sem]) h2
    · -- 13: slot 24 := Op.extract t11 1
      refine ob_yes fun f w' hb hp => ?_
      simp [PreOf, factOf, valOf, Ph.is, Ph.by_, Ph.any, Region.binds, Ph.wh, Ph.owb] at hp
      refine ⟨by simp [Gd, valOf, hp], ?_⟩
      obtain ⟨v', h1, h2⟩ := hp
      exact mild_val (.int .i64 0) (by simp [execOp, evalF, h1, go_sem]) rfl
    · -- 14: slot 3 := Op.assign t23
      refine ob_yes fun f w' hb hp => ?_
      simp [PreOf, factOf, valOf, Ph.is, Ph.by_, Ph.any, Region.binds, Ph.wh, Ph.owb] at hp
      refine ⟨by simp [Gd, valOf, hp], ?_⟩
      exact mild_val (f 23) (by simp [execOp, evalF]) hp.1
    · -- 15: slot 4 := Op.assign t24
      refine ob_yes fun f w' hb hp => ?_
      simp [PreOf, factOf, valOf, Ph.is, Ph.by_, Ph.any, Region.binds, Ph.wh, Ph.owb] at hp
      refine ⟨by simp [Gd, valOf, hp], ?_⟩
      refine mild_val (.int .i64 0) ?_ rfl
      simp [execOp, evalF, hp]
  · intro f w2 hb2 hp
    simp only [PostOf, Ph.is, Ph.by_, Ph.any, Ph.wh, Ph.owb] at hp
    obtain ⟨h0, h1, h2, h3, h4, h5, h6, h7, h8, h9, h10, h11, h12, h13, h14, h15, _⟩ := hp
    simp only [fills, List.foldl_cons, List.foldl_nil, Act.put, List.setIfInBounds_toArray, List.set_cons_zero, List.set_cons_succ, h0, h1, h2, h3, h4, h5, h6, h7, h8, h9, h13, h15]
    clear h0 h1 h2 h3 h4 h5 h6 h7 h8 h9 h13 h15
    generalize f 22 = v22 at *
    generalize f 11 = v11 at *
    generalize f 23 = v23 at *
    generalize f 3 = v3 at *
    obtain ⟨Ab, cb, rfl, _, _, _⟩ := Ow.form_ h14
    have Hb2 := Lib.hid hb2
    have Ho2 := Lib.hid h14
    have Hbx2 := Lib.hid (Hbx.out.below Hbx.out.lt hb2)
    have Hs2 := Lib.hid (Hs.out.below_ hb2)
    have Ha2 := Lib.hid (Ha.out.below_ hb2)
    have hd2 := Hbx2.out.cell 2 _ rfl
    have hf2 := Hbx2.out.frozen 2
    clear hb2 h10 h11 h12 h14 hc0 hc1 Hs Ha
    go_upto_region 5 with fail
    have hbx4 : BoxAt 125 (w2.setCell ⟨c, 2, none⟩ (.int .u32 (fr.length : Int))) c (cutC lo.toNat rws fr.length size (.slice Ar body.length cr) vs0 va0) := Hbx2.out.put 2 _
    have hs4 := ownSet (by decide) Hs2.out Hbx2.out 2 (.int .u32 (fr.length : Int))
    have ha4 := ownSet (by decide) Ha2.out Hbx2.out 2 (.int .u32 (fr.length : Int))
    have ho4 := (ownSet (by decide) (Ow.toOwn Ho2.out) Hbx2.out 2 (.int .u32 (fr.length : Int)))
    have hch4 : Chg (fun k => k = c ∨ vs0.ownBlock = some k ∨ va0.ownBlock = some k) w (w2.setCell ⟨c, 2, none⟩ (.int .u32 (fr.length : Int))) := (Chg.ofBelow Hb2.out).trans (Chg.set _ _ _ (.inl rfl))
    generalize w2.setCell ⟨c, 2, none⟩ (.int .u32 (fr.length : Int)) = w4 at *
    have hsz4 : base ≤ w4.heap.size := Nat.le_trans hbase hch4.size
    have Hbx4 := Lib.hid hbx4
    have Hs4 := Lib.hid hs4
    have Ha4 := Lib.hid ha4
    have Ho4 := Lib.hid ho4
    have Hch4 := Lib.hid hch4
    have Hsl : Hid (vs0.ownBlock = vs0.ownBlock) := Lib.hid rfl
    have hsp3 : Hid (∀ W S, cSpan.at_ W S [.int .u32 (lo.toNat : Int), .int .u32 (rws : Int), .int .u32 (fr.length : Int)] (⟨lo, x2, x3⟩ : GSpan)) := Lib.hid fun W S => ⟨by obtain ⟨h1, h2⟩ := hsp.out; show _ = [Value.int .u32 (lo.toNat : Int), .int .u32 (x2.toNat : Int), .int .u32 (x3.toNat : Int)]; rw [h1, h2], trivial⟩
    clear hbx4 hs4 ha4 ho4 hch4 hd2 hf2 Hbx2 Hs2 Ha2 Ho2 Hb2
    refine wp_region_mixSL (ds := [32, 33, 34, 35, 36, 37, 38, 39, 40, 41, 42, 43, 44, 45, 46, 47, 48, 49, 50, 51, 52, 53, 54]) 25 (fun bb vs W' => CuBox W' c lo rws fr.length size (.slice Ar body.length cr) vs0 va0 (bb 21) (bb 24) (vs 11) (vs 18) ∧ Chg (fun k => k = c ∨ vs0.ownBlock = some k ∨ va0.ownBlock = some k) w4 W' ∧ CuSp W' base vs0 spans ⟨lo, x2, x3⟩ (bb 11) (vs 11) ∧ CuAl W' base va0 alls (.slice Ab fr.length cb) (bb 18) (vs 18) ∧ CuTmp 59 [.int .u32 (lo.toNat : Int), .int .u32 (rws : Int), .int .u32 (fr.length : Int)] W' (bb 10) (bb 11) (vs 10) ∧ CuTmp 25 [.slice Ab fr.length cb] W' (bb 17) (bb 18) (vs 17) ∧ (bb 21 = true → bb 5 = true) ∧ (bb 24 = true → bb 15 = true) ∧ (bb 21 = true → bb 11 = true) ∧ (bb 24 = true → bb 18 = true)) [some 32, some 33, some 34, some 35, some 36, some 37, some 38, some 39, some 40, some 41, some 42, some 43, some 44, some 45, some 46, some 47, some 48, some 49, some 50, some 51, some 52, none, some 53, some 54, none]
      [fun v => v = .pointer (some ⟨c, 0, none⟩), fun v => v = .pointer (some ⟨c, 0, none⟩), fun v => v = .pointer (some ⟨c, 0, none⟩), fun v => v = .pointer (some ⟨c, 0, none⟩), fun v => v = .pointer (some ⟨c, 5, none⟩), fun v => v = vs0, fun v => v = .pointer (some ⟨c, 0, none⟩), fun v => v = .pointer (some ⟨c, 0, none⟩), fun v => v = .pointer (some ⟨c, 0, none⟩), fun v => v = .agg #[.int .u32 (lo.toNat : Int), .int .u32 (rws : Int), .int .u32 (fr.length : Int)], fun _ => True, fun _ => True, fun v => v = .pointer (some ⟨c, 0, none⟩), fun v => v = .pointer (some ⟨c, 0, none⟩), fun v => v = .pointer (some ⟨c, 6, none⟩), fun v => v = va0, fun v => v = .slice Ab fr.length cb, fun _ => True, fun _ => True, fun v => v = .pointer (some ⟨c, 0, none⟩), fun v => v = .pointer (some ⟨c, 5, none⟩), fun _ => True, fun v => v = .pointer (some ⟨c, 0, none⟩), fun v => v = .pointer (some ⟨c, 6, none⟩), fun _ => True]
      rfl rfl rfl (by kernel_rfl) (by kernel_rfl) ?_ (fun _ => ⟨Hbx4.out, Chg.ofBelow ⟨rfl, rfl, rfl, Nat.le_refl _, fun _ _ => rfl⟩, by unfold CuSp; simpa using (show OwnF 59 cSpan w4.drew base vs0 spans from Hs4.out), by unfold CuAl; simpa using (show OwnF 25 cVal w4.drew base va0 alls from Ha4.out), fun h _ => (by cases h), fun h _ => (by cases h), fun h => (by cases h), fun h => (by cases h), fun h => (by cases h), fun h => (by cases h)⟩) ?_
    · refine ⟨?_, ?_, ?_, ?_, ?_, ?_, ?_, ?_, ?_, ?_, ?_, ?_, ?_, ?_, ?_, ?_, ?_, ?_, ?_, ?_, ?_, ?_, ?_, ?_, ?_, trivial⟩
      · -- 0: slot 32 := Op.move t0
        refine obS_yes fun f bb w' hj hs hd hp => ?_
        simp [PreO, factO, valOf, Region.binds] at hp hd
        refine ⟨by simp [Gd, valOf, hp], ?_⟩
        refine mildS_val (.pointer (some ⟨c, 0, none⟩)) (w' := w') ?_ rfl (by simpa using hj)
        simp [execOp, evalF, hp, go_sem]
      · -- 1: slot 33 := Op.move t0
        refine obS_yes fun f bb w' hj hs hd hp => ?_
        simp [PreO, factO, valOf, Region.binds] at hp hd
        refine ⟨by simp [Gd, valOf, hp], ?_⟩
        refine mildS_val (.pointer (some ⟨c, 0, none⟩)) (w' := w') ?_ rfl (by simpa using hj)
        simp [execOp, evalF, hp, go_sem]
      · -- 2: slot 34 := Op.move t0
        refine obS_yes fun f bb w' hj hs hd hp => ?_
        simp [PreO, factO, valOf, Region.binds] at hp hd
        refine ⟨by simp [Gd, valOf, hp], ?_⟩
        refine mildS_val (.pointer (some ⟨c, 0, none⟩)) (w' := w') ?_ rfl (by simpa using hj)
        simp [execOp, evalF, hp, go_sem]
      · -- 3: slot 35 := Op.nilCheck t34
        refine obS_yes fun f bb w' hj hs hd hp => ?_
        simp [PreO, factO, valOf, Region.binds] at hp hd
        refine ⟨by simp [Gd, valOf, hp], ?_⟩
        refine mildS_val (.pointer (some ⟨c, 0, none⟩)) (w' := w') ?_ rfl (by simpa using hj)
        simp [execOp, evalF, hp, go_sem]
      · -- 4: slot 36 := Op.fieldAddr 125 t35 3
        refine obS_yes fun f bb w' hj hs hd hp => ?_
        simp [PreO, factO, valOf, Region.binds] at hp hd
        refine ⟨by simp [Gd, valOf, hp], ?_⟩
        refine mildS_val (.pointer (some ⟨c, 5, none⟩)) (w' := w') ?_ rfl (by simpa using hj)
        simp [execOp, evalF, hp, go_sem]
      · -- 5: slot 37 := Op.load 41 t36
        refine obS_yes fun f bb w' hj hs hd hp => ?_
        simp [PreO, factO, valOf, Region.binds] at hp hd
        refine ⟨by simp [Gd, valOf, hp], ?_⟩
        have h21 : bb 21 = false := by cases hx : bb 21 with | false => rfl | true => rw [hj.2.2.2.2.2.2.1 hx] at hs; cases hs
        have hc : w'.cell? ⟨c, 5, none⟩ = some vs0 := by have h := hj.1; rw [h21] at h; exact BoxAt.cell h 5 _ rfl
        refine mildS_val (vs0) (w' := w') ?_ rfl (by obtain ⟨j1, j2, j3, j4, j5, j6, j7, j8, j9, j10⟩ := hj; exact ⟨by simpa using j1, j2, by simpa using j3, by simpa using j4, by simpa using j5, by simpa using j6, by simp, by simpa using j8, by simpa using j9, by simpa using j10⟩)
        simp [execOp, evalF, hp, go_sem, hc]
      · -- 6: slot 38 := Op.move t0
        refine obS_yes fun f bb w' hj hs hd hp => ?_
        simp [PreO, factO, valOf, Region.binds] at hp hd
        refine ⟨by simp [Gd, valOf, hp], ?_⟩
        refine mildS_val (.pointer (some ⟨c, 0, none⟩)) (w' := w') ?_ rfl (by simpa using hj)
        simp [execOp, evalF, hp, go_sem]
      · -- 7: slot 39 := Op.nilCheck t38
        refine obS_yes fun f bb w' hj hs hd hp => ?_
        simp [PreO, factO, valOf, Region.binds] at hp hd
        refine ⟨by simp [Gd, valOf, hp], ?_⟩
        refine mildS_val (.pointer (some ⟨c, 0, none⟩)) (w' := w') ?_ rfl (by simpa using hj)
        simp [execOp, evalF, hp, go_sem]
      · -- 8: slot 40 := Op.fieldAddr 125 t39 0
        refine obS_yes fun f bb w' hj hs hd hp => ?_
        simp [PreO, factO, valOf, Region.binds] at hp hd
        refine ⟨by simp [Gd, valOf, hp], ?_⟩
        refine mildS_val (.pointer (some ⟨c, 0, none⟩)) (w' := w') ?_ rfl (by simpa using hj)
        simp [execOp, evalF, hp, go_sem]
      · -- 9: slot 41 := Op.load 59 t40
        refine obS_yes fun f bb w' hj hs hd hp => ?_
        simp [PreO, factO, valOf, Region.binds] at hp hd
        refine ⟨by simp [Gd, valOf, hp], ?_⟩
        have hl := run_loadVar_cells w' ⟨c, 0, none⟩ 59 [.int .u32 (lo.toNat : Int), .int .u32 (rws : Int), .int .u32 (fr.length : Int)] (fun j v hj' => by
          have h := hj.1
          match j, hj' with
          | 0, hj' => injection hj' with hj'; subst hj'; simpa [Addr.add] using BoxAt.cell h 0 _ rfl
          | 1, hj' => injection hj' with hj'; subst hj'; simpa [Addr.add] using BoxAt.cell h 1 _ rfl
          | 2, hj' => injection hj' with hj'; subst hj'; simpa [Addr.add] using BoxAt.cell h 2 _ rfl
          | j + 3, hj' => simp at hj') Try.underlying59 rfl infoSpan3
        refine mildS_val (.agg #[.int .u32 (lo.toNat : Int), .int .u32 (rws : Int), .int .u32 (fr.length : Int)]) (w' := w') ?_ rfl (by simpa using hj)
        simp only [execOp, evalF, List.contains_eq_mem, Instr.loadAt, Instr.sureAddr, Sem.run_bind, Sem.run_pure, Result.andThen_ok]
        simp [hp, hl]
      · -- 10: slot 42 := Op.buildSlice 41 1 #[(0, t41)]
        refine obS_yes fun f bb w' hj hs hd hp => ?_
        simp [PreO, factO, valOf, Region.binds] at hp hd
        refine ⟨by simp [Gd, valOf, hp], ?_⟩
        obtain ⟨j1, j2, j3, j4, j5, j6, j7, j8, j9, j10⟩ := hj
        refine mildS_val (.slice (some ⟨w'.heap.size, 0, none⟩) 1 1) (w' := w'.alloc (.cells #[.int .u32 (lo.toNat : Int), .int .u32 (rws : Int), .int .u32 (fr.length : Int)] 59)) ?_ trivial ⟨by simpa using j1.below (balloc _ _), j2.trans (Chg.ofBelow (balloc _ _)), by simpa using j3.below (balloc _ _), by simpa using j4.below (balloc _ _), fun _ _ => ⟨_, by simp, BoxAt.new_ _ _ [.int .u32 (lo.toNat : Int), .int .u32 (rws : Int), .int .u32 (fr.length : Int)]⟩, by simpa using j6.below (balloc _ _), by simpa using j7, by simpa using j8, by simpa using j9, by simpa using j10⟩
        have hr := run_slice_span w' (lo.toNat : Int) (rws : Int) (fr.length : Int)
        simp [execOp, evalF, hp, hr]
      · -- 11: slot 43 := Op.call   builtin append, args := #[t37, t42], argTypes := #[41, 41]  
        refine obS_yes fun f bb w' hj hs hd hp => ?_
        simp [PreO, factO, valOf, Region.binds] at hp hd
        refine ⟨by simp [Gd, valOf, hp], ?_⟩
        obtain ⟨j1, j2, j3, j4, j5, j6, j7, j8, j9, j10⟩ := hj
        have h21 : bb 21 = false := by cases hx : bb 21 with | false => rfl | true => rw [j9 hx] at hs; cases hs
        have h10 : bb 10 = true := by first | exact hd.1 | exact hd.2.1 | exact hd.2 | exact hd | simp_all
        obtain ⟨g, hv10, hg⟩ := j5 h10 hs
        have k3 : OwnF 59 cSpan w' base vs0 spans := by unfold CuSp at j3; rw [hs] at j3; simpa using j3
        have k1 := j1
        rw [h21] at k1
        refine mildS_ex (exec_appR (C := cSpan) (O := fun _ => True) (.tmp 37) (.tmp 42) 41 rfl Try.underlying41 infoSpan (by kernel_rfl) (by decide) (by decide) k3 (rowOfBox hg (hsp3.out _ _)) (by simp [evalF, hp]) (by simpa [evalF, valOf] using hv10) (by simp only [List.length_singleton]; omega) (Nat.le_trans hsz4 j2.size)) ?_
        intro v' w3 g1 g2
        refine ⟨trivial, ?_, j2.trans (Chg.ofGrown g2.gr fun k e => .inr (.inl e)), by unfold CuSp; simpa using g1, ?_, by simp [CuTmp], by simpa using CuTmp.kept (by decide) k3 g2 j6, by simpa using j7, by simpa using j8, by simp, by simpa using j10⟩
        · simp only [h21]
          exact boxKept (by decide) k3 g2 k1
        · have k4 := j4
          unfold CuAl at k4 ⊢
          simpa using ownKept (by decide) k3 k4 g2
      · -- 12: slot 44 := Op.move t0
        refine obS_yes fun f bb w' hj hs hd hp => ?_
        simp [PreO, factO, valOf, Region.binds] at hp hd
        refine ⟨by simp [Gd, valOf, hp], ?_⟩
        refine mildS_val (.pointer (some ⟨c, 0, none⟩)) (w' := w') ?_ rfl (by simpa using hj)
        simp [execOp, evalF, hp, go_sem]
      · -- 13: slot 45 := Op.nilCheck t44
        refine obS_yes fun f bb w' hj hs hd hp => ?_
        simp [PreO, factO, valOf, Region.binds] at hp hd
        refine ⟨by simp [Gd, valOf, hp], ?_⟩
        refine mildS_val (.pointer (some ⟨c, 0, none⟩)) (w' := w') ?_ rfl (by simpa using hj)
        simp [execOp, evalF, hp, go_sem]
      · -- 14: slot 46 := Op.fieldAddr 125 t45 4
        refine obS_yes fun f bb w' hj hs hd hp => ?_
        simp [PreO, factO, valOf, Region.binds] at hp hd
        refine ⟨by simp [Gd, valOf, hp], ?_⟩
        refine mildS_val (.pointer (some ⟨c, 6, none⟩)) (w' := w') ?_ rfl (by simpa using hj)
        simp [execOp, evalF, hp, go_sem]
      · -- 15: slot 47 := Op.load 52 t46
        refine obS_yes fun f bb w' hj hs hd hp => ?_
        simp [PreO, factO, valOf, Region.binds] at hp hd
        refine ⟨by simp [Gd, valOf, hp], ?_⟩
        have h24 : bb 24 = false := by cases hx : bb 24 with | false => rfl | true => rw [hj.2.2.2.2.2.2.2.1 hx] at hs; cases hs
        have hc : w'.cell? ⟨c, 6, none⟩ = some va0 := by have h := hj.1; rw [h24] at h; exact BoxAt.cell h 6 _ rfl
        refine mildS_val (va0) (w' := w') ?_ rfl (by obtain ⟨j1, j2, j3, j4, j5, j6, j7, j8, j9, j10⟩ := hj; exact ⟨by simpa using j1, j2, by simpa using j3, by simpa using j4, by simpa using j5, by simpa using j6, by simpa using j7, by simp, by simpa using j9, by simpa using j10⟩)
        simp [execOp, evalF, hp, go_sem, hc]
      · -- 16: slot 48 := Op.move t3
        refine obS_yes fun f bb w' hj hs hd hp => ?_
        simp [PreO, factO, valOf, Region.binds] at hp hd
        refine ⟨by simp [Gd, valOf, hp], ?_⟩
        refine mildS_val (.slice Ab fr.length cb) (w' := w') ?_ rfl (by simpa using hj)
        simp [execOp, evalF, hp, go_sem]
      · -- 17: slot 49 := Op.buildSlice 52 1 #[(0, t48)]
        refine obS_yes fun f bb w' hj hs hd hp => ?_
        simp [PreO, factO, valOf, Region.binds] at hp hd
        refine ⟨by simp [Gd, valOf, hp], ?_⟩
        obtain ⟨j1, j2, j3, j4, j5, j6, j7, j8, j9, j10⟩ := hj
        refine mildS_val (.slice (some ⟨w'.heap.size, 0, none⟩) 1 1) (w' := w'.alloc (.cells #[.slice Ab fr.length cb] 25)) ?_ trivial ⟨by simpa using j1.below (balloc _ _), j2.trans (Chg.ofBelow (balloc _ _)), by simpa using j3.below (balloc _ _), by simpa using j4.below (balloc _ _), by simpa using j5.below (balloc _ _), fun _ _ => ⟨_, by simp, BoxAt.new_ _ _ [.slice Ab fr.length cb]⟩, by simpa using j7, by simpa using j8, by simpa using j9, by simpa using j10⟩
        simp [execOp, evalF, hp, go_sem]
      · -- 18: slot 50 := Op.call   builtin append, args := #[t47, t49], argTypes := #[52, 52]  
        refine obS_yes fun f bb w' hj hs hd hp => ?_
        simp [PreO, factO, valOf, Region.binds] at hp hd
        refine ⟨by simp [Gd, valOf, hp], ?_⟩
        obtain ⟨j1, j2, j3, j4, j5, j6, j7, j8, j9, j10⟩ := hj
        have h24 : bb 24 = false := by cases hx : bb 24 with | false => rfl | true => rw [j10 hx] at hs; cases hs
        have h17 : bb 17 = true := by first | exact hd.1 | exact hd.2.1 | exact hd.2 | exact hd | simp_all
        obtain ⟨g, hv17, hg⟩ := j6 h17 hs
        have k4 : OwnF 25 cVal w' base va0 alls := by unfold CuAl at j4; rw [hs] at j4; simpa using j4
        have k1 := j1
        rw [h24] at k1
        refine mildS_ex (exec_appR (C := cVal) (O := fun _ => True) (.tmp 47) (.tmp 49) 52 rfl Try.underlying52 infoBs (by kernel_rfl) (by decide) (by decide) k4 (rowOfBox (y := .slice Ab fr.length cb) hg ⟨rfl, rfl⟩) (by simp [evalF, hp]) (by simpa [evalF, valOf] using hv17) (by simp only [List.length_singleton]; omega) (Nat.le_trans hsz4 j2.size)) ?_
        intro v' w3 g1 g2
        refine ⟨trivial, ?_, j2.trans (Chg.ofGrown g2.gr fun k e => .inr (.inr e)), ?_, by unfold CuAl; simpa using g1, by simpa using CuTmp.kept (by decide) k4 g2 j5, by simp [CuTmp], by simpa using j7, by simpa using j8, by simpa using j9, by simp⟩
        · simp only [h24]
          exact boxKept (by decide) k4 g2 k1
        · have k3 := j3
          unfold CuSp at k3 ⊢
          simpa using ownKept (by decide) k4 k3 g2
      · -- 19: slot 51 := Op.nilCheck t32
        refine obS_yes fun f bb w' hj hs hd hp => ?_
        simp [PreO, factO, valOf, Region.binds] at hp hd
        refine ⟨by simp [Gd, valOf, hp], ?_⟩
        refine mildS_val (.pointer (some ⟨c, 0, none⟩)) (w' := w') ?_ rfl (by simpa using hj)
        simp [execOp, evalF, hp, go_sem]
      · -- 20: slot 52 := Op.fieldAddr 125 t51 3
        refine obS_yes fun f bb w' hj hs hd hp => ?_
        simp [PreO, factO, valOf, Region.binds] at hp hd
        refine ⟨by simp [Gd, valOf, hp], ?_⟩
        refine mildS_val (.pointer (some ⟨c, 5, none⟩)) (w' := w') ?_ rfl (by simpa using hj)
        simp [execOp, evalF, hp, go_sem]
      · -- 21: slot None := Op.store 41 t52 t43
        refine obS_yes fun f bb w' hj hs hd hp => ?_
        simp [PreO, factO, valOf, Region.binds] at hp hd
        refine ⟨by simp [Gd, valOf, hp], ?_⟩
        obtain ⟨j1, j2, j3, j4, j5, j6, j7, j8, j9, j10⟩ := hj
        have h5 : bb 5 = true := by simp_all
        have h11 : bb 11 = true := by simp_all
        have k1 : BoxAt 125 w' c _ := j1
        have hc := k1.cell 5 _ rfl
        have hf := k1.frozen 5
        have k3 : OwnF 59 cSpan w' base (f 43) (spans ++ [⟨lo, x2, x3⟩]) := by have h := j3; unfold CuSp at h; rw [h11] at h; exact h
        obtain ⟨A9, c9, e9, _, _, _⟩ := k3.form'
        refine mildS_skip (w' := w'.setCell ⟨c, 5, none⟩ (f 43)) ?_ trivial ⟨?_, j2.trans (Chg.set _ _ _ (.inl rfl)), ?_, ?_, by simpa using CuTmp.set (by decide) j5 k1 5 (f 43), by simpa using CuTmp.set (by decide) j6 k1 5 (f 43), by simp [h5], by simpa using j8, by simp [h11], by simpa using j10⟩
        · simp [execOp, evalF, hp, go_sem, hc, hf, e9]
        · exact k1.put 5 (f 43)
        · exact ownSet (by decide) j3 k1 5 (f 43)
        · exact ownSet (by decide) j4 k1 5 (f 43)
      · -- 22: slot 53 := Op.nilCheck t33
        refine obS_yes fun f bb w' hj hs hd hp => ?_
        simp [PreO, factO, valOf, Region.binds] at hp hd
        refine ⟨by simp [Gd, valOf, hp], ?_⟩
        refine mildS_val (.pointer (some ⟨c, 0, none⟩)) (w' := w') ?_ rfl (by simpa using hj)
        simp [execOp, evalF, hp, go_sem]
      · -- 23: slot 54 := Op.fieldAddr 125 t53 4
        refine obS_yes fun f bb w' hj hs hd hp => ?_
        simp [PreO, factO, valOf, Region.binds] at hp hd
        refine ⟨by simp [Gd, valOf, hp], ?_⟩
        refine mildS_val (.pointer (some ⟨c, 6, none⟩)) (w' := w') ?_ rfl (by simpa using hj)
        simp [execOp, evalF, hp, go_sem]
      · -- 24: slot None := Op.store 52 t54 t50
        refine obS_yes fun f bb w' hj hs hd hp => ?_
        simp [PreO, factO, valOf, Region.binds] at hp hd
        refine ⟨by simp [Gd, valOf, hp], ?_⟩
        obtain ⟨j1, j2, j3, j4, j5, j6, j7, j8, j9, j10⟩ := hj
        have h15 : bb 15 = true := by simp_all
        have h18 : bb 18 = true := by simp_all
        have k1 : BoxAt 125 w' c _ := j1
        have hc := k1.cell 6 _ rfl
        have hf := k1.frozen 6
        have k4 : OwnF 25 cVal w' base (f 50) (alls ++ [.slice Ab fr.length cb]) := by have h := j4; unfold CuAl at h; rw [h18] at h; exact h
        obtain ⟨A9, c9, e9, _, _, _⟩ := k4.form'
        refine mildS_skip (w' := w'.setCell ⟨c, 6, none⟩ (f 50)) ?_ trivial ⟨?_, j2.trans (Chg.set _ _ _ (.inl rfl)), ?_, ?_, by simpa using CuTmp.set (by decide) j5 k1 6 (f 50), by simpa using CuTmp.set (by decide) j6 k1 6 (f 50), by simpa using j7, by simp [h15], by simpa using j9, by simp [h18]⟩
        · simp [execOp, evalF, hp, go_sem, hc, hf, e9]
        · exact k1.put 6 (f 50)
        · exact ownSet (by decide) j3 k1 6 (f 50)
        · exact ownSet (by decide) j4 k1 6 (f 50)
    · intro f bb wd hall hj hp
      simp only [PostO] at hp
      obtain ⟨e0, e1, e2, e3, e4, e5, e6, e7, e8, e9, _, _, e12, e13, e14, e15, e16, _, _, e19, e20, _, e22, e23, _, _⟩ := hp
      simp only [fills, List.foldl_cons, List.foldl_nil, Act.put, List.setIfInBounds_toArray, List.set_cons_zero, List.set_cons_succ, e0, e1, e2, e3, e4, e5, e6, e7, e8, e9, e12, e13, e14, e15, e16, e19, e20, e22, e23]
      clear e0 e1 e2 e3 e4 e5 e6 e7 e8 e9 e12 e13 e14 e15 e16 e19 e20 e22 e23
      simp only [List.drop_succ_cons, List.drop_zero]
      obtain ⟨j1, j2, j3, j4, _, _, _, _, _, _⟩ := hj
      have b11 : bb 11 = true := by simp [hall]
      have b18 : bb 18 = true := by simp [hall]
      have b21 : bb 21 = true := by simp [hall]
      have b24 : bb 24 = true := by simp [hall]
      unfold CuBox at j1
      unfold CuSp at j3
      unfold CuAl at j4
      rw [b21, b24] at j1
      rw [b11] at j3
      rw [b18] at j4
      have k1 : BoxAt 125 wd c (cutC lo.toNat rws fr.length size (.slice Ar body.length cr) (f 43) (f 50)) := j1
      have k3 : OwnF 59 cSpan wd base (f 43) (spans ++ [⟨lo, x2, x3⟩]) := j3
      have k4 : OwnF 25 cVal wd base (f 50) (alls ++ [.slice Ab fr.length cb]) := j4
      clear j1 j3 j4 hall b11 b18 b21 b24
      generalize f 43 = vs' at *
      generalize f 50 = va' at *
      generalize f 42 = v42 at *
      generalize f 49 = v49 at *
      have ko : OwnF 5 c8 wd w.heap.size (.slice Ab fr.length cb) fr := OwnR.chg Ho4.out j2 (fun k hk e => by
        rcases e with e | e | e
        · exact ownR_ne_box (by decide) Ho4.out Hbx4.out k hk e
        · exact ownR_ne_own (by decide) Ho4.out Hs4.out k hk e
        · exact ownR_ne_own (by decide) Ho4.out Ha4.out k hk e) (fun _ h => h.elim)
      have hc0 := k1.cell 0 _ rfl
      have hc1 := k1.cell 1 _ rfl
      have hc2 := k1.cell 2 _ rfl
      have hc4 := k1.cell 4 _ rfl
      have hf0 := k1.frozen 0
      have hf1 := k1.frozen 1
      have hf2 := k1.frozen 2
      have hf4 := k1.frozen 4
      have K1 := Lib.hid k1
      have K3 := Lib.hid k3
      have K4 := Lib.hid k4
      have Ko := Lib.hid ko
      have Hch := Lib.hid (Hch4.out.trans j2)
      clear k1 k3 k4 ko j2
      go_wp2_with fail
      go_ret
      have B0 := K1.out.put 0 (.int .u32 0)
      have B1 := B0.put 1 (.int .u32 0)
      have B2 := B1.put 2 (.int .u32 0)
      have B4 := B2.put 4 (.slice none 0 0)
      have fin := ((((Chg.refl (fun k => k = c ∨ vs0.ownBlock = some k ∨ va0.ownBlock = some k) wd).trans (Chg.set _ ⟨c, 0, none⟩ (.int .u32 0) (.inl rfl))).trans (Chg.set _ ⟨c, 1, none⟩ (.int .u32 0) (.inl rfl))).trans (Chg.set _ ⟨c, 2, none⟩ (.int .u32 0) (.inl rfl))).trans (Chg.set _ ⟨c, 4, none⟩ (.slice none 0 0) (.inl rfl))
      exact ⟨rfl, _, vs', va', B4, (ownSet (by decide) (ownSet (by decide) (ownSet (by decide) (ownSet (by decide) Ko.out K1.out 0 _) B0 1 _) B1 2 _) B2 4 _).toOw,
        ownSet (by decide) (ownSet (by decide) (ownSet (by decide) (ownSet (by decide) K3.out K1.out 0 _) B0 1 _) B1 2 _) B2 4 _,
        ownSet (by decide) (ownSet (by decide) (ownSet (by decide) (ownSet (by decide) K4.out K1.out 0 _) B0 1 _) B1 2 _) B2 4 _, Hch.out.trans fin⟩
end Go.Proofs.Ythfnikdapknohaa

namespace Go.Proofs.Ythfnikdapknohaa
set_option linter.unusedSimpArgs false
set_option linter.unusedVariables false
open Go.RowKit

def shut (done : List (List GRow)) (cur : List GRow) : List (List GRow) := if cur = [] then done else done ++ [cur]
/-- the shards' rows: those that are done, the one that is made, what is left; none: a row is too great -/
def cutR (size : Nat) : List (List GRow) → List GRow → List GRow → Option (List (List GRow))
  | done, cur, [] => some (shut done cur)
  | done, cur, r :: t => if cur ≠ [] ∧ (senc (cur ++ [r])).length ≤ size then cutR size done (cur ++ [r]) t
    else if size < (senc [r]).length then none else cutR size (shut done cur) [r] t
def spanOf (rows : List GRow) : GSpan := match rows with
  | [] => ⟨0, 0, 0⟩
  | r :: _ => ⟨r.fr, UInt32.ofNat rows.length, UInt32.ofNat (senc rows).length⟩
theorem senc_snoc_len (cur : List GRow) (r : GRow) : (senc (cur ++ [r])).length = 13 + (vput (cur.length + 1)).length + (rowsB 0 cur).length + (row1 (nxt 0 cur) r).length := by
  rw [senc_len, rowsB_snoc, List.length_append, List.length_append, List.length_singleton]
  omega
theorem senc_one_len (r : GRow) : (senc [r]).length = 13 + (vput 1).length + (row1 0 r).length := by
  have := senc_snoc_len [] r
  rw [List.nil_append] at this
  rw [this]
  simp [rowsB, nxt]
theorem senc_eq (cur : List GRow) : senc cur = frameOf 83 (vput cur.length ++ rowsB 0 cur) := rfl
/-- what is kept of the shard that is made -/
structure CurOk (l : List GRow) (k : Nat) (done : List (List GRow)) (cur : List GRow) : Prop where
  ok : newE none cur = 0
  nx : cur ≠ [] → nxt 0 cur = nxt 0 (l.take k)
  sz : rsz cur + rsz (l.drop k) ≤ rsz l
  ln : done.length + cur.length ≤ k
  em : cur = [] → k = 0 ∧ done = []
theorem curOk_start (l : List GRow) : CurOk l 0 [] [] := ⟨rfl, fun h => absurd rfl h, by simp [rsz], by simp, fun _ => ⟨rfl, rfl⟩⟩
theorem rsz_one (r : GRow) : rsz [r] = r.arcs.length + 1 := by simp [rsz]
theorem curOk_one {l : List GRow} {k : Nat} {done : List (List GRow)} {cur : List GRow} (h : CurOk l k done cur) (hl : newE none l = 0) (hk : k < l.length) : CurOk l (k + 1) (shut done cur) [l[k]] := by
  have h1 := newE_row l k hk hl
  have h2 := h.sz
  have h3 : rsz (l.drop k) = (l[k]).arcs.length + 1 + rsz (l.drop (k + 1)) := by
    rw [List.drop_eq_getElem_cons hk, rsz_cons]
  refine ⟨?_, fun _ => ?_, by rw [rsz_one]; omega, ?_, fun h => by cases h⟩
  · have := newE_snoc [] none (l[k]) rfl
    rw [List.nil_append] at this
    rw [this, if_neg (by rw [h1.1]; decide), if_neg (by simp [nxt, lowP])]
  · rw [List.take_succ_eq_append_getElem hk, nxt_snoc]
    exact nxt_snoc 0 [] _
  · have h4 := h.ln
    unfold shut
    split
    · simp; omega
    · rename_i hc
      have := List.length_pos_iff.2 hc
      rw [List.length_append]
      simp; omega
theorem curOk_more {l : List GRow} {k : Nat} {done : List (List GRow)} {cur : List GRow} (h : CurOk l k done cur) (hl : newE none l = 0) (hk : k < l.length) (hc : cur ≠ []) : CurOk l (k + 1) done (cur ++ [l[k]]) := by
  have h1 := newE_row l k hk hl
  have h2 := h.sz
  have h3 : rsz (l.drop k) = (l[k]).arcs.length + 1 + rsz (l.drop (k + 1)) := by
    rw [List.drop_eq_getElem_cons hk, rsz_cons]
  have h5 : rsz (cur ++ [l[k]]) = rsz cur + ((l[k]).arcs.length + 1) := by rw [rsz_append, rsz_one]
  refine ⟨?_, fun _ => ?_, by omega, by have := h.ln; rw [List.length_append, List.length_singleton]; omega, fun h => by simp at h⟩
  · have := newE_snoc cur none (l[k]) h.ok
    rw [this, if_neg (by rw [h1.1]; decide), if_neg (by
      have := h.nx hc
      simp only [lowP]
      rw [this]; omega)]
  · rw [List.take_succ_eq_append_getElem hk, nxt_snoc, nxt_snoc]
theorem cutR_nil (size : Nat) (done : List (List GRow)) (cur : List GRow) : cutR size done cur [] = some (shut done cur) := by rw [cutR]
theorem cutR_cons (size : Nat) (done : List (List GRow)) (cur : List GRow) (r : GRow) (t : List GRow) : cutR size done cur (r :: t) = if cur ≠ [] ∧ (senc (cur ++ [r])).length ≤ size then cutR size done (cur ++ [r]) t else if size < (senc [r]).length then none else cutR size (shut done cur) [r] t := by rw [cutR]

def loOf (cur : List GRow) : Nat := match cur with | [] => 0 | r :: _ => r.fr.toNat
theorem loOf_at (cur : List GRow) (hc : cur ≠ []) : ∃ lo : UInt32, loOf cur = lo.toNat ∧ spanOf cur = ⟨lo, UInt32.ofNat cur.length, UInt32.ofNat (senc cur).length⟩ := by
  cases cur with
  | nil => exact absurd rfl hc
  | cons r0 t0 => exact ⟨r0.fr, rfl, rfl⟩
theorem loOf_snoc (cur : List GRow) (r : GRow) (hc : cur ≠ []) : loOf (cur ++ [r]) = loOf cur := by
  cases cur with
  | nil => exact absurd rfl hc
  | cons r0 t0 => rfl

/-- all that is cut is a graph's, and not too great -/
theorem cutR_ok (size : Nat) (l : List GRow) (hl : newE none l = 0) : ∀ (n k : Nat) (done : List (List GRow)) (cur : List GRow) (outs : List (List GRow)), l.length - k = n → k ≤ l.length → CurOk l k done cur → cutR size done cur (l.drop k) = some outs →
    (∀ x ∈ done, x ≠ [] ∧ rsz x ≤ rsz l ∧ newE none x = 0) → ∀ x ∈ outs, x ≠ [] ∧ rsz x ≤ rsz l ∧ newE none x = 0
  | 0, k, done, cur, outs, hn, hk, hc, h, hd => by
    obtain rfl : k = l.length := by omega
    rw [List.drop_length, cutR_nil] at h
    injection h with h
    subst h
    intro x hx
    unfold shut at hx
    split at hx
    · exact hd x hx
    · rename_i hne
      rcases List.mem_append.1 hx with hx | hx
      · exact hd x hx
      · rw [List.mem_singleton] at hx
        subst hx
        exact ⟨hne, by have := hc.sz; omega, hc.ok⟩
  | n + 1, k, done, cur, outs, hn, hk, hc, h, hd => by
    have hlt : k < l.length := by omega
    rw [List.drop_eq_getElem_cons hlt, cutR_cons] at h
    split at h
    · rename_i hif
      exact cutR_ok size l hl n (k + 1) done _ outs (by omega) (by omega) (curOk_more hc hl hlt hif.1) h hd
    · split at h
      · cases h
      · refine cutR_ok size l hl n (k + 1) _ _ outs (by omega) (by omega) (curOk_one hc hl hlt) h ?_
        intro x hx
        unfold shut at hx
        split at hx
        · exact hd x hx
        · rename_i hne
          rcases List.mem_append.1 hx with hx | hx
          · exact hd x hx
          · rw [List.mem_singleton] at hx
            subst hx
            exact ⟨hne, by have := hc.sz; omega, hc.ok⟩
theorem cutR_good (size : Nat) (l : List GRow) (outs : List (List GRow)) (hl : newE none l = 0) (h : cutR size [] [] l = some outs) : ∀ x ∈ outs, x ≠ [] ∧ rsz x ≤ rsz l ∧ newE none x = 0 :=
  cutR_ok size l hl l.length 0 [] [] outs (by omega) (by omega) (curOk_start l) (by rw [List.drop_zero]; exact h) (fun x hx => by cases hx)

/-! ### the cutter's state -/
/-- the elements: bytes in blocks below T -/
def Alls (W : World) (base T : Nat) (alls : List (List UInt8 × Value)) : Prop := ∀ x ∈ alls, Ow W base x.2 x.1 ∧ ∀ k, x.2.ownBlock = some k → k < T
structure CutSt (W : World) (c base T size : Nat) (done : List (List GRow)) (cur : List GRow) (vr vs va : Value) (sz : Nat) (alls : List (List UInt8 × Value)) : Prop where
  bx : BoxAt 125 W c (cutC (loOf cur) cur.length sz size vr vs va)
  rw_ : Ow W T vr (rowsB 0 cur)
  sp : OwnF 59 cSpan W base vs (done.map spanOf)
  al : OwnF 25 cVal W base va (alls.map Prod.snd)
  el : Alls W base T alls
  en : alls.map Prod.fst = done.map senc
  bT : base ≤ T
  Tw : T ≤ W.heap.size
section
variable {W W' : World} {c base T size sz : Nat} {done : List (List GRow)} {cur : List GRow} {vr vs va : Value} {alls : List (List UInt8 × Value)}
theorem Alls.below (h : Alls W base T alls) (hb : Below W.heap.size W W') : Alls W' base T alls := fun x hx => ⟨(h x hx).1.below_ hb, (h x hx).2⟩
theorem CutSt.below (h : CutSt W c base T size done cur vr vs va sz alls) (hb : Below W.heap.size W W') : CutSt W' c base T size done cur vr vs va sz alls :=
  ⟨h.bx.below h.bx.lt hb, h.rw_.below_ hb, h.sp.below_ hb, h.al.below_ hb, h.el.below hb, h.en, h.bT, Nat.le_trans h.Tw hb.size⟩
theorem Alls.set {ds : List Value} (h : Alls W base T alls) (hb : BoxAt 125 W c ds) (j : Nat) (u : Value) : Alls (W.setCell ⟨c, j, none⟩ u) base T alls :=
  fun x hx => ⟨(ownSet (by decide) (Ow.toOwn (h x hx).1) hb j u).toOw, (h x hx).2⟩
theorem Alls.app {body : List UInt8} {v' : Value} (h : Alls W base T alls) (hr : Ow W T vr body) (hx : Ext W W' vr v') : Alls W' base T alls := fun x hq => by
  obtain ⟨h1, h2⟩ := h x hq
  refine ⟨Ow.keep h1 hx.gr ?_, h2⟩
  cases hv : x.2.ownBlock with
  | none => exact .inl rfl
  | some k =>
    refine .inr fun e => ?_
    have h3 := h2 k hv
    have h4 := (hr.blk k e.symm).1
    omega
theorem size_set (W : World) (p : Addr) (u : Value) : W.heap.size ≤ (W.setCell p u).heap.size := (Chg.set (P := fun _ => True) W p u trivial).size
theorem CutSt.more {r : GRow} {v' : Value} (h : CutSt W c base T size done cur vr vs va sz alls) (hc : cur ≠ []) (ho : Ow W' T v' (rowsB 0 cur ++ row1 (nxt 0 cur) r)) (hx : Ext W W' vr v') :
    CutSt ((W'.setCell ⟨c, 4, none⟩ v').setCell ⟨c, 1, none⟩ (.int .u32 ((cur.length : Int) + 1))) c base T size done (cur ++ [r]) v' vs va sz alls := by
  have b8 := boxKept (by decide) (Ow.toOwn h.rw_) hx h.bx
  have b4 := b8.put 4 v'
  have b1 := b4.put 1 (.int .u32 ((cur.length : Int) + 1))
  have s8 := ownKept (by decide) (Ow.toOwn h.rw_) h.sp hx
  have a8 := ownKept (by decide) (Ow.toOwn h.rw_) h.al hx
  have e8 := Alls.app h.el h.rw_ hx
  refine ⟨?_, ?_, ownSet (by decide) (ownSet (by decide) s8 b8 4 _) b4 1 _, ownSet (by decide) (ownSet (by decide) a8 b8 4 _) b4 1 _, (e8.set b8 4 _).set b4 1 _, h.en, h.bT, ?_⟩
  · have hl : ((cur ++ [r]).length : Int) = (cur.length : Int) + 1 := by simp
    rw [loOf_snoc _ _ hc]
    unfold cutC
    rw [hl]
    exact b1
  · rw [rowsB_snoc]
    exact (ownSet (by decide) (ownSet (by decide) (Ow.toOwn ho) b8 4 _) b4 1 _).toOw
  · exact Nat.le_trans h.Tw (Nat.le_trans hx.gr.size (Nat.le_trans (size_set _ _ _) (size_set _ _ _)))
theorem CutSt.one {r : GRow} {v' : Value} {T2 : Nat} (h : CutSt W c base T size done [] vr vs va sz alls) (ho : Ow W T2 v' (row1 0 r)) (hT : T ≤ T2) (hW : T2 ≤ W.heap.size) :
    CutSt ((((W.setCell ⟨c, 0, none⟩ (.int .u32 (r.fr.toNat : Int))).setCell ⟨c, 1, none⟩ (.int .u32 1)).setCell ⟨c, 2, none⟩ (.int .u32 0)).setCell ⟨c, 4, none⟩ v') c base T2 size done [r] v' vs va 0 alls := by
  have b := h.bx
  have b0 := b.put 0 (.int .u32 (r.fr.toNat : Int))
  have b1 := b0.put 1 (.int .u32 1)
  have b2 := b1.put 2 (.int .u32 0)
  have b4 := b2.put 4 v'
  refine ⟨b4, ?_, ownSet (by decide) (ownSet (by decide) (ownSet (by decide) (ownSet (by decide) h.sp b 0 _) b0 1 _) b1 2 _) b2 4 _, ownSet (by decide) (ownSet (by decide) (ownSet (by decide) (ownSet (by decide) h.al b 0 _) b0 1 _) b1 2 _) b2 4 _, ?_, h.en, Nat.le_trans h.bT hT, ?_⟩
  · have e : rowsB 0 [r] = row1 0 r := by simp [rowsB]
    rw [e]
    exact (ownSet (by decide) (ownSet (by decide) (ownSet (by decide) (ownSet (by decide) (Ow.toOwn ho) b 0 _) b0 1 _) b1 2 _) b2 4 _).toOw
  · have e := (((h.el.set b 0 (.int .u32 (r.fr.toNat : Int))).set b0 1 (.int .u32 1)).set b1 2 (.int .u32 0)).set b2 4 v'
    exact fun x hx => ⟨(e x hx).1, fun k hk => Nat.lt_of_lt_of_le ((e x hx).2 k hk) hT⟩
  · exact Nat.le_trans hW (Nat.le_trans (size_set _ _ _) (Nat.le_trans (size_set _ _ _) (Nat.le_trans (size_set _ _ _) (size_set _ _ _))))
theorem CutSt.ended {vb vs' va' : Value} {lo : UInt32} (h : CutSt W c base T size done cur vr vs va sz alls) (hc : cur ≠ []) (hsp : spanOf cur = ⟨lo, UInt32.ofNat cur.length, UInt32.ofNat (senc cur).length⟩)
    (hb : BoxAt 125 W' c (cutC 0 0 0 size (.slice none 0 0) vs' va')) (ho : Ow W' W.heap.size vb (senc cur))
    (hs : OwnF 59 cSpan W' base vs' (done.map spanOf ++ [⟨lo, UInt32.ofNat cur.length, UInt32.ofNat (senc cur).length⟩])) (ha : OwnF 25 cVal W' base va' (alls.map Prod.snd ++ [vb]))
    (hch : Chg (fun k => k = c ∨ vs.ownBlock = some k ∨ va.ownBlock = some k) W W') :
    CutSt W' c base W'.heap.size size (shut done cur) [] (.slice none 0 0) vs' va' 0 (alls ++ [(senc cur, vb)]) := by
  have hsh : shut done cur = done ++ [cur] := if_neg hc
  have hbW : base ≤ W.heap.size := Nat.le_trans h.bT h.Tw
  rw [hsh]
  refine ⟨hb, Ow.nil_ _ _, by rw [List.map_append, List.map_cons, List.map_nil, hsp]; exact hs, by rw [List.map_append]; exact ha, ?_, by rw [List.map_append, List.map_append, h.en]; rfl, Nat.le_trans hbW hch.size, Nat.le_refl _⟩
  intro x hx
  rcases List.mem_append.1 hx with hx | hx
  · have h1 := (h.el x hx).1
    refine ⟨OwnF.toOw (OwnR.chg (Ow.toOwn h1) hch (fun k hk e => ?_) (fun _ h => h.elim)), fun k hk => ?_⟩
    · rcases e with e | e | e
      · exact ownR_ne_box (by decide) (Ow.toOwn h1) h.bx k hk e
      · exact ownR_ne_own (by decide) (Ow.toOwn h1) h.sp k hk e
      · exact ownR_ne_own (by decide) (Ow.toOwn h1) h.al k hk e
    · exact Nat.lt_of_lt_of_le (h1.blk k hk).2 hch.size
  · rw [List.mem_singleton] at hx
    subst hx
    exact ⟨ho.mono hbW, fun k hk => (ho.blk k hk).2⟩
end
end Go.Proofs.Ythfnikdapknohaa

namespace Go.Proofs.Ythfnikdapknohaa
set_option linter.unusedSimpArgs false
set_option linter.unusedVariables false
open Go.RowKit

/-- what Cut answers -/
def CutAns (w w' : World) (e : Ending) (l : List GRow) (size : Nat) : Prop :=
  (newE none l ≠ 0 ∧ e = .returned (.tuple #[.slice none 0 0, .slice none 0 0, .int .i64 (newE none l)])) ∨
  (newE none l = 0 ∧ cutR size [] [] l = none ∧ e = .returned (.tuple #[.slice none 0 0, .slice none 0 0, .int .i64 11])) ∨
  (newE none l = 0 ∧ ∃ (outs : List (List GRow)) (vs va : Value) (alls : List (List UInt8 × Value)), cutR size [] [] l = some outs ∧ e = .returned (.tuple #[vs, va, .int .i64 0]) ∧ OwnF 59 cSpan w' w.heap.size vs (outs.map spanOf) ∧
    OwnF 25 cVal w' w.heap.size va (alls.map Prod.snd) ∧ (∀ x ∈ alls, Ow w' w.heap.size x.2 x.1) ∧ alls.map Prod.fst = outs.map senc)
set_option maxRecDepth 100000 in
set_option maxHeartbeats 8000000 in
theorem shcut_any (w : World) (B : Nat) (v : Value) (l : List GRow) (size : Nat) (hsize : size < 4294967296) (hs : rsz l ≤ 20000) (h : ByRw w B v l) (hB : B ≤ w.heap.size) :
    Calls Try.prog 27 #[v, .int .u32 (size : Int)] w fun e w' => CutAns w w' e l size ∧ Below w.heap.size w w' := by
  obtain ⟨A, c, rfl, hc1, hc2⟩ := h.form
  unfold maxLen at hc2
  have hnew := gnew_any w B (.slice A l.length c) l (by omega) h hB
  by_cases hn : newE none l = 0
  · have Hn := Lib.hid hn
    rw [hn] at hnew
    have Hnew := Lib.hid hnew
    have H := Lib.hid h
    have hlz := rsz_len l
    have HR : Hid (∃ R, R = cutR size [] [] l) := Lib.hid ⟨_, rfl⟩
    clear hn hnew h
    go_enter Try.func27, Try.ntmps27
    go_wp2_with fail
    go_step3
    go_wp2_with fail
    refine Hnew.out.mono ?_
    rintro _ w2 ⟨g2, rfl, hb2⟩
    have Hb2 := Lib.hid hb2
    clear hb2 Hnew
    go_wp2_with fail
    go_step3
    go_wp2_with fail
    have hbx3 := BoxAt.new_ 125 w2 (cutC 0 0 0 size (.slice none 0 0) (.slice none 0 0) (.slice none 0 0))
    have hb3 := bstep Hb2.out (balloc w2 (.cells (cutC 0 0 0 size (.slice none 0 0) (.slice none 0 0) (.slice none 0 0)).toArray 125))
    have e3 : w2.alloc (.cells (cutC 0 0 0 size (.slice none 0 0) (.slice none 0 0) (.slice none 0 0)).toArray 125) = w2.alloc (.cells #[.int .u32 0, .int .u32 0, .int .u32 0, .int .u32 (size : Int), .slice none 0 0, .slice none 0 0, .slice none 0 0] 125) := rfl
    rw [e3] at hbx3 hb3
    clear e3
    have hw2 := Hb2.out.size
    generalize w2.alloc (.cells #[.int .u32 0, .int .u32 0, .int .u32 0, .int .u32 (size : Int), .slice none 0 0, .slice none 0 0, .slice none 0 0] 125) = w3 at *
    obtain ⟨c0, hc0⟩ : ∃ c0, w2.heap.size = c0 := ⟨_, rfl⟩
    rw [hc0] at hbx3
    try rw [hc0]
    have hst3 : CutSt w3 c0 w.heap.size w3.heap.size size [] [] (.slice none 0 0) (.slice none 0 0) (.slice none 0 0) 0 [] :=
      ⟨hbx3, Ow.nil_ _ _, OwnF.nil_ _ _, OwnF.nil_ _ _, (fun x hx => by cases hx), rfl, hb3.size, Nat.le_refl _⟩
    have Hst3 := Lib.hid hst3
    have Hb3 := Lib.hid hb3
    have hc0w : w.heap.size ≤ c0 := by omega
    clear hst3 hb3 hbx3 hc0 Hb2
    go_loopw [10, 30] (fun nx i wr => ∃ (k : Nat) (done : List (List GRow)) (cur : List GRow) (T : Nat) (vr vs va : Value) (sz : Nat) (alls : List (List UInt8 × Value)), k ≤ l.length ∧ i = .int .i64 k ∧ nx = .int .u64 ((nxt 0 (l.take k) : Nat) : Int) ∧ CurOk l k done cur ∧ cutR size done cur (l.drop k) = cutR size [] [] l ∧ CutSt wr c0 w.heap.size T size done cur vr vs va sz alls ∧ Below w.heap.size w wr) (fun _ i _ => l.length - (intOf i).toNat)
    case atStart => exact ⟨0, [], [], _, _, _, _, _, _, by omega, rfl, rfl, curOk_start l, rfl, Hst3.out, Hb3.out⟩
    case round =>
      obtain ⟨k, done, cur, T, vr, vs, va, sz, alls, hk, rfl, rfl, hcu, hcut, hst, hbw⟩ := hrel
      have Hcu := Lib.hid hcu
      have Hst := Lib.hid hst
      have Hbw := Lib.hid hbw
      have hszr := hbw.size
      by_cases hlt : k < l.length
      · obtain ⟨ad, Aa, ca, rfl, hab, hx0, hx1, hya⟩ := (H.out.below (hbw.mono hB)).cells k hlt
        have hrow := newE_row l k hlt Hn.out
        have hfr := u32_lt (l[k]).fr
        have hal := rsz_at l k hlt
        have Hcu1 := Lib.hid (curOk_one hcu Hn.out hlt)
        have Hcum := Lib.hid (fun hc => curOk_more hcu Hn.out hlt hc)
        rw [List.drop_eq_getElem_cons hlt, cutR_cons] at hcut
        have Hcut := Lib.hid hcut
        have Hnk : Hid (nxt 0 (l.take (k + 1)) = (l[k]).fr.toNat + 1) := Lib.hid (by rw [List.take_succ_eq_append_getElem hlt, nxt_snoc])
        have Hcl : Hid (∀ j (u : Value), ([.int .u32 ((l[k]).fr.toNat : Int), .slice Aa (l[k]).arcs.length ca] : List Value)[j]? = some u → wr.cell? ((ad.add (k * 2)).add j) = some u) := Lib.hid (by
          intro j u hj
          match j, hj with
          | 0, hj => injection hj with hj; subst hj; simpa [Addr.add] using hx0
          | 1, hj => injection hj with hj; subst hj; simpa [Addr.add] using hx1
          | j + 2, hj => simp at hj)
        have Hput := Lib.hid (fun (W : World) (hW : Below w.heap.size w W) (hWr : Below w.heap.size wr W) (nx : Nat) (hnx : nx ≤ (l[k]).fr.toNat) => shput1_any W W.heap.size B (.slice none 0 0) [] (Ow.nil_ _ _) (l[k]) Aa ca nx hnx hrow.1 (by omega) (by simp) (hya.below (hWr.mono hB)) (Nat.le_trans hB hW.size) (Nat.le_refl _))
        have hnx := hrow.2
        have hrl : ∀ n, (row1 n (l[k])).length ≤ 1000000 := fun n => by have := (row1_len n (l[k]) hrow.1 (by omega)).1; omega
        have hone := rowC_one (l[k]).fr.toNat Aa (l[k]).arcs.length ca
        have Hone := Lib.hid hone
        clear hx0 hx1 hya hrow hcu hst hbw hcut hone
        generalize l[k] = r at *
        obtain ⟨nx, hnxd⟩ : ∃ nx, nxt 0 (l.take k) = nx := ⟨_, rfl⟩
        have Hnxd := Lib.hid hnxd
        rw [hnxd] at hnx ⊢
        clear hnxd
        go_upto_region 9 with (first
          | (refine wpList_load_agg rfl 75 (.tmp 32) rfl (ad.add (k * 2)) rfl [.int .u32 (r.fr.toNat : Int), .slice Aa r.arcs.length ca] Hcl.out Try.underlying75 rfl infoRow2 ?_)
          | (refine wpList_alloc_z rfl 75 rfl infoRow [.int .u32 0, .slice none 0 0] rfl ?_)
          | (refine wpList_store_new rfl 75 (.tmp 12) (.tmp 33) rfl [.int .u32 0, .slice none 0 0] [.int .u32 (r.fr.toNat : Int), .slice Aa r.arcs.length ca] rfl rfl infoRow2 rfl Hone.out ?_))
        have hR5 := BoxAt.new_ 75 wr [.int .u32 (r.fr.toNat : Int), .slice Aa r.arcs.length ca]
        have hal5 := balloc wr (.cells [.int .u32 (r.fr.toNat : Int), .slice Aa r.arcs.length ca].toArray 75)
        have Hst5 := Lib.hid (Hst.out.below hal5)
        have Hb5 := Lib.hid (bstep Hbw.out hal5)
        have Hbr5 := Lib.hid (hal5.mono hszr)
        generalize wr.alloc (.cells [.int .u32 (r.fr.toNat : Int), .slice Aa r.arcs.length ca].toArray 75) = w5 at *
        have hcg : c0 < wr.heap.size := Hst.out.bx.lt
        generalize wr.heap.size = gR at *
        have HR5 := Lib.hid hR5
        clear hR5 hal5 Hcl Hst Hbw
        go_wp2_with (refine wpList_load_agg rfl 75 (.tmp 12) rfl ⟨gR, 0, none⟩ rfl [.int .u32 (r.fr.toNat : Int), .slice Aa r.arcs.length ca] HR5.out.cells Try.underlying75 rfl infoRow2 ?_)
        refine (Hput.out w5 Hb5.out Hbr5.out nx hnx).mono ?_
        rintro _ w6 ⟨v6, rfl, ho6, hx6⟩
        rw [List.nil_append] at ho6
        have hb56 := hx6.below (Nat.le_refl _) (by simp [Value.ownBlock])
        obtain ⟨A6, c6, rfl, _, _, _⟩ := ho6.form_
        have Hst6 := Lib.hid (Hst5.out.below hb56)
        have HR6 := Lib.hid (HR5.out.below HR5.out.lt hb56)
        have Hb6 := Lib.hid (bstep Hb5.out hb56)
        have Hbr6 := Lib.hid (Hbr5.out.trans (hb56.mono Hb5.out.size))
        have Ho6 := Lib.hid ho6
        have hlen1 := hrl nx
        clear ho6 hx6 hb56 Hst5 HR5 Hbr5
        by_cases hc : cur = []
        · subst hc
          have hc1 : w6.cell? ⟨c0, 1, none⟩ = some (.int .u32 0) := Hst6.out.bx.cell 1 _ rfl
          have HD0 : Hid (shut done [] = done) := Lib.hid rfl
          have Hcut2 : Hid ((if size < (senc [r]).length then none else cutR size done [r] (l.drop (k + 1))) = cutR size [] [] l) := Lib.hid (by have h := Hcut.out; rw [if_neg (by simp)] at h; exact h)
          have Hcu2 : Hid (CurOk l (k + 1) done [r]) := Lib.hid Hcu1.out
          go_wp2_with fail
          refine (ends_zero w6 c0 _ _ _ _ _ _ Hst6.out.bx).mono ?_
          rintro _ _ ⟨rfl, rfl⟩
          clear hc1
          have hclx := Hst6.out.bx
          have hTT := Hst6.out.Tw
          go_wp2_with (refine wpList_load_agg rfl 75 (.tmp 12) rfl ⟨gR, 0, none⟩ rfl [.int .u32 (r.fr.toNat : Int), .slice Aa r.arcs.length ca] HR6.out.cells Try.underlying75 rfl infoRow2 ?_)
          refine (Hput.out w6 Hb6.out Hbr6.out 0 (Nat.zero_le _)).mono ?_
          rintro _ w10 ⟨v10, rfl, ho10, hx10⟩
          rw [List.nil_append] at ho10
          have hb10 := hx10.below (Nat.le_refl _) (by simp [Value.ownBlock])
          obtain ⟨A10, c10, rfl, _, _, _⟩ := ho10.form_
          have Hst10 := Lib.hid (Hst6.out.below hb10)
          have HR10 := Lib.hid (HR6.out.below HR6.out.lt hb10)
          have hs10 := hb10.size
          have Hb10 := Lib.hid (Hb6.out.trans (hb10.mono Hb6.out.size))
          have hz10 := Hb10.out.size
          obtain ⟨Av, cv, hvr, _, _, _⟩ := Hst10.out.rw_.form_
          have hvr0 : Av = Av := rfl
          have hln0 := hrl 0
          have hbx10 := Hst10.out.bx
          rw [hvr] at hbx10
          have Hfit10 := Lib.hid (cufits_any w10 c0 0 0 _ size Av 0 cv _ _ A10 (row1 0 r).length c10 hbx10 (by omega) (by omega) (by omega) hsize)
          have hol : 13 + (vput (0 + 1)).length + 0 + (row1 0 r).length = (senc [r]).length := by rw [senc_one_len, Nat.zero_add, Nat.add_zero]
          rw [hol] at Hfit10
          have Ho10 := Lib.hid ho10
          clear ho10 hx10 hb10 hvr hol hbx10 hclx
          go_wp2_with fail
          refine Hfit10.out.mono ?_
          rintro _ w11 ⟨rfl, hb11⟩
          have Hst11 := Lib.hid (Hst10.out.below hb11)
          have HR11 := Lib.hid (HR10.out.below HR10.out.lt hb11)
          have Hb11 := Lib.hid (Hb10.out.trans (hb11.mono hz10))
          have Ho11 := Lib.hid (Ho10.out.below_ hb11)
          have hs11 := hb11.size
          clear hb11 Hst10 HR10 Ho10 Hfit10
          by_cases hone : (senc [r]).length ≤ size
          · rw [decide_eq_true hone]
            have Hcut3 : Hid (cutR size done [r] (l.drop (k + 1)) = cutR size [] [] l) := Lib.hid (by have h := Hcut2.out; rw [if_neg (by omega)] at h; exact h)
            have hbx11 := Hst11.out.bx
            have hc0' := hbx11.cell 0 _ rfl
            have hc1' := hbx11.cell 1 _ rfl
            have hc2' := hbx11.cell 2 _ rfl
            have hc4' := hbx11.cell 4 _ rfl
            have hf0' := hbx11.frozen 0
            have hf1' := hbx11.frozen 1
            have hf2' := hbx11.frozen 2
            have hf4' := hbx11.frozen 4
            have hg0' := HR11.out.cell 0 _ rfl
            have hne1 : c0 ≠ gR := by omega
            have hne2 : gR ≠ c0 := by omega
            have hcv2 : IntKind.u64.wrap (r.fr.toNat : Int) = (r.fr.toNat : Int) := by rw [wrap_u64]; omega
            have hcv3 : IntKind.u64.wrap ((r.fr.toNat : Int) + 1) = (r.fr.toNat : Int) + 1 := by rw [wrap_u64]; omega
            have hrel := Hst11.out.one Ho11.out hTT (by omega)
            have Hrel := Lib.hid hrel
            have hset := ((((Chg.refl (fun k => k = c0) w11).trans (Chg.set (P := fun k => k = c0) _ ⟨c0, 0, none⟩ (.int .u32 (r.fr.toNat : Int)) rfl)).trans (Chg.set (P := fun k => k = c0) _ ⟨c0, 1, none⟩ (.int .u32 1) rfl)).trans (Chg.set (P := fun k => k = c0) _ ⟨c0, 2, none⟩ (.int .u32 0) rfl)).trans (Chg.set (P := fun k => k = c0) _ ⟨c0, 4, none⟩ (.slice A10 (row1 0 r).length c10) rfl)
            have Hset := Lib.hid hset
            have hz11 := Hb11.out.size
            clear hbx11 hrel hset hone
            go_wp2_with fail
            refine ⟨⟨k + 1, done, [r], _, _, _, _, _, _, by omega, by go_num, by rw [Hnk.out]; go_num, Hcu2.out, Hcut3.out, Hrel.out, Hb11.out.trans (Hset.out.below (B := w.heap.size) (by omega) (fun k hk => by omega))⟩, ?_⟩
            simp [intOf]; omega
          · rw [decide_eq_false hone]
            have Hans : Hid (cutR size [] [] l = none) := Lib.hid (by have h := Hcut2.out; rw [if_pos (by omega)] at h; exact h.symm)
            clear hone
            go_wp2_with fail
            rw [Exit.noGoto_ret]
            go_ret3
            exact ⟨.inr (.inl ⟨Hn.out, Hans.out, rfl⟩), Hb11.out⟩
        · obtain ⟨lo, hlo, hspan⟩ := loOf_at cur hc
          have hclen : 0 < cur.length := List.length_pos_iff.2 hc
          have hcl2 : cur.length ≤ 20000 := by have := Hcu.out.sz; have := rsz_len cur; omega
          have hbd : (rowsB 0 cur).length ≤ 880000 := by
            have h1 := rowsB_len cur none 0 Hcu.out.ok (by have := Hcu.out.sz; omega)
            have := Hcu.out.sz
            omega
          have hbx6 := Hst6.out.bx
          rw [hlo] at hbx6
          have hc1 : w6.cell? ⟨c0, 1, none⟩ = some (.int .u32 (cur.length : Int)) := hbx6.cell 1 _ rfl
          obtain ⟨Ar, cr, rfl, _, _, _⟩ := Hst6.out.rw_.form_
          have Hfit := Lib.hid (cufits_any w6 c0 lo.toNat cur.length sz size Ar (rowsB 0 cur).length cr vs va A6 (row1 nx r).length c6 hbx6 (by omega) (by omega) (by omega) hsize)
          have hsl := senc_snoc_len cur r
          rw [Hcu.out.nx hc, Hnxd.out] at hsl
          rw [← hsl] at Hfit
          have Hbx6 := Lib.hid hbx6
          have hd0 : decide ((cur.length : Int) > 0) = true := decide_eq_true (by omega)
          have hd1 : decide (0 < cur.length) = true := decide_eq_true hclen
          have Hc := Lib.hid hc
          have Hlo := Lib.hid hlo
          have Hspan := Lib.hid hspan
          clear hbx6 hsl hc hlo hspan
          go_wp2_with fail
          refine Hfit.out.mono ?_
          rintro _ w7 ⟨rfl, hb67⟩
          have Hst7 := Lib.hid (Hst6.out.below hb67)
          have Hbx7 := Lib.hid (Hbx6.out.below Hbx6.out.lt hb67)
          have HR7 := Lib.hid (HR6.out.below HR6.out.lt hb67)
          have Hb7 := Lib.hid (bstep Hb6.out hb67)
          have Hbr7 := Lib.hid (Hbr6.out.trans (hb67.mono Hb6.out.size))
          have Ho7 := Lib.hid (Ho6.out.below_ hb67)
          clear hb67 Hst6 Hbx6 HR6 Hbr6 Ho6 Hfit hc1
          by_cases hD : (senc (cur ++ [r])).length ≤ size
          · rw [decide_eq_true hD]
            have Hcut2 : Hid (cutR size done (cur ++ [r]) (l.drop (k + 1)) = cutR size [] [] l) := Lib.hid (by have h := Hcut.out; rw [if_pos ⟨Hc.out, hD⟩] at h; exact h)
            have hcv : IntKind.u32.wrap ((cur.length : Int) + 1) = (cur.length : Int) + 1 := by rw [IntKind.wrap_u32']; omega
            have hcv2 : IntKind.u64.wrap (r.fr.toNat : Int) = (r.fr.toNat : Int) := by rw [wrap_u64]; omega
            have hcv3 : IntKind.u64.wrap ((r.fr.toNat : Int) + 1) = (r.fr.toNat : Int) + 1 := by rw [wrap_u64]; omega
            have hc4 := Hbx7.out.cell 4 _ rfl
            have hTw := Hst7.out.Tw
            clear hD
            go_wp2_with (at_builtin
                         refine wpList_app8 rfl (.tmp 52) (.tmp 53) rfl Hst7.out.rw_ Ho7.out.by_ rfl rfl (by omega) hTw ?_
                         intro v8 w8 ho8 hx8
                         have Ho8 := Lib.hid ho8
                         have Hx8 := Lib.hid hx8
                         have hbx8 := boxKept (by decide) (Ow.toOwn Hst7.out.rw_) hx8 Hbx7.out
                         have hR8 := boxKept (by decide) (Ow.toOwn Hst7.out.rw_) hx8 HR7.out
                         have hd1 := hbx8.cell 1 _ rfl
                         have hd4 := hbx8.cell 4 _ rfl
                         have hf1 := hbx8.frozen 1
                         have hf4 := hbx8.frozen 4
                         have hg0 := hR8.cell 0 _ rfl
                         have Hbx8 := Lib.hid hbx8
                         have hne1 : c0 ≠ gR := by omega
                         have hne2 : gR ≠ c0 := by omega
                         obtain ⟨A8, c8', rfl, _, _, _⟩ := ho8.form_
                         clear ho8 hx8 hbx8 hR8)
            have hlB : w.heap.size ≤ T := Hst7.out.bT
            have hb78 : Below w.heap.size w7 w8 := Hx8.out.below (by omega) (fun q hq => Nat.le_trans hlB (Hst7.out.rw_.blk q hq).1)
            have hrel : CutSt ((w8.setCell ⟨c0, 4, none⟩ (.slice A8 ((rowsB 0 cur).length + (row1 nx r).length) c8')).setCell ⟨c0, 1, none⟩ (.int .u32 ((cur.length : Int) + 1))) c0 w.heap.size T size done (cur ++ [r]) (.slice A8 ((rowsB 0 cur).length + (row1 nx r).length) c8') vs va sz alls :=
              Hst7.out.more Hc.out (by rw [Hcu.out.nx Hc.out, Hnxd.out]; have h := Ho8.out; rw [List.length_append] at h; exact h) (by have h := Hx8.out; rw [List.length_append] at h; exact h)
            have hcw : w.heap.size ≤ c0 := hc0w
            have hset : Chg (fun k => k = c0) w8 ((w8.setCell ⟨c0, 4, none⟩ (.slice A8 ((rowsB 0 cur).length + (row1 nx r).length) c8')).setCell ⟨c0, 1, none⟩ (.int .u32 ((cur.length : Int) + 1))) := (Chg.set (P := fun k => k = c0) w8 ⟨c0, 4, none⟩ _ rfl).trans (Chg.set (P := fun k => k = c0) _ ⟨c0, 1, none⟩ _ rfl)
            have hs78 := hb78.size
            have hs7 := Hb7.out.size
            refine ⟨⟨k + 1, done, cur ++ [r], T, _, vs, va, sz, alls, by omega, by go_num, by rw [Hnk.out]; go_num, Hcum.out Hc.out, Hcut2.out, hrel, (Hb7.out.trans hb78).trans (hset.below (B := w.heap.size) (by omega) (fun k hk => by omega))⟩, ?_⟩
            simp [intOf]; omega
          · rw [decide_eq_false hD]
            have Hcut2 : Hid ((if size < (senc [r]).length then none else cutR size (shut done cur) [r] (l.drop (k + 1))) = cutR size [] [] l) := Lib.hid (by have h := Hcut.out; rw [if_neg (fun h => hD h.2)] at h; exact h)
            have Hcu2 : Hid (CurOk l (k + 1) (shut done cur) [r]) := Lib.hid Hcu1.out
            have hTw := Hst7.out.Tw
            have hdl : done.length ≤ 20000 := by have := Hcu.out.ln; omega
            have hall : alls.length = done.length := by have := congrArg List.length Hst7.out.en; simpa using this
            have Hend := Lib.hid (ends_any w7 c0 w.heap.size lo cur.length sz size (rowsB 0 cur) Ar cr vs va (done.map spanOf) (alls.map Prod.snd) Hbx7.out hclen (by omega) (Hst7.out.rw_.by_) (by omega) Hst7.out.sp Hst7.out.al (by rw [List.length_map]; omega) (by rw [List.length_map]; omega) Hb7.out.size)
            rw [← senc_eq] at Hend
            clear hD
            go_wp2_with fail
            refine Hend.out.mono ?_
            rintro _ w8 ⟨rfl, vb, vs8, va8, hb8, ho8, hs8, ha8, hch8⟩
            have hs7 := Hb7.out.size
            have hbe : Below w.heap.size w7 w8 := hch8.below (B := w.heap.size) hs7 (fun k hk => by
              rcases hk with hk | hk | hk
              · omega
              · exact (Hst7.out.sp.blk k hk).1
              · exact (Hst7.out.al.blk k hk).1)
            have hR8 : BoxAt 75 w8 gR [.int .u32 (r.fr.toNat : Int), .slice Aa r.arcs.length ca] := (hch8.block gR HR7.out.lt (fun e => by
              rcases e with e | e | e
              · omega
              · exact ownR_ne_box (by decide) Hst7.out.sp HR7.out gR e rfl
              · exact ownR_ne_box (by decide) Hst7.out.al HR7.out gR e rfl)).trans HR7.out
            have Hst8 := Lib.hid (Hst7.out.ended Hc.out Hspan.out hb8 ho8 hs8 ha8 hch8)
            have HR8 := Lib.hid hR8
            have Hb8 := Lib.hid (Hb7.out.trans hbe)
            have Hbr8 := Lib.hid (Hbr7.out.trans hbe)
            have HD0 : Hid (∃ d, shut done cur = d) := Lib.hid ⟨_, rfl⟩
            clear hb8 ho8 hs8 ha8 hch8 hbe hR8 Hst7 HR7 Hbx7 Hb7 Hbr7 Ho7 Hend
            generalize shut done cur = dn at *
            have hclx := Hst8.out.bx
            have hTT := Hst8.out.Tw
            go_wp2_with (refine wpList_load_agg rfl 75 (.tmp 12) rfl ⟨gR, 0, none⟩ rfl [.int .u32 (r.fr.toNat : Int), .slice Aa r.arcs.length ca] HR8.out.cells Try.underlying75 rfl infoRow2 ?_)
            refine (Hput.out w8 Hb8.out Hbr8.out 0 (Nat.zero_le _)).mono ?_
            rintro _ w10 ⟨v10, rfl, ho10, hx10⟩
            rw [List.nil_append] at ho10
            have hb10 := hx10.below (Nat.le_refl _) (by simp [Value.ownBlock])
            obtain ⟨A10, c10, rfl, _, _, _⟩ := ho10.form_
            have Hst10 := Lib.hid (Hst8.out.below hb10)
            have HR10 := Lib.hid (HR8.out.below HR8.out.lt hb10)
            have hs10 := hb10.size
            have Hb10 := Lib.hid (Hb8.out.trans (hb10.mono Hb8.out.size))
            have hz10 := Hb10.out.size
            obtain ⟨Av, cv, hvr, _, _, _⟩ := Hst10.out.rw_.form_
            have hvr0 : Av = Av := rfl
            have hln0 := hrl 0
            have hbx10 := Hst10.out.bx
            rw [hvr] at hbx10
            have Hfit10 := Lib.hid (cufits_any w10 c0 0 0 _ size Av 0 cv _ _ A10 (row1 0 r).length c10 hbx10 (by omega) (by omega) (by omega) hsize)
            have hol : 13 + (vput (0 + 1)).length + 0 + (row1 0 r).length = (senc [r]).length := by rw [senc_one_len, Nat.zero_add, Nat.add_zero]
            rw [hol] at Hfit10
            have Ho10 := Lib.hid ho10
            clear ho10 hx10 hb10 hvr hol hbx10 hclx
            go_wp2_with fail
            refine Hfit10.out.mono ?_
            rintro _ w11 ⟨rfl, hb11⟩
            have Hst11 := Lib.hid (Hst10.out.below hb11)
            have HR11 := Lib.hid (HR10.out.below HR10.out.lt hb11)
            have Hb11 := Lib.hid (Hb10.out.trans (hb11.mono hz10))
            have Ho11 := Lib.hid (Ho10.out.below_ hb11)
            have hs11 := hb11.size
            clear hb11 Hst10 HR10 Ho10 Hfit10
            by_cases hone : (senc [r]).length ≤ size
            · rw [decide_eq_true hone]
              have Hcut3 : Hid (cutR size dn [r] (l.drop (k + 1)) = cutR size [] [] l) := Lib.hid (by have h := Hcut2.out; rw [if_neg (by omega)] at h; exact h)
              have hbx11 := Hst11.out.bx
              have hc0' := hbx11.cell 0 _ rfl
              have hc1' := hbx11.cell 1 _ rfl
              have hc2' := hbx11.cell 2 _ rfl
              have hc4' := hbx11.cell 4 _ rfl
              have hf0' := hbx11.frozen 0
              have hf1' := hbx11.frozen 1
              have hf2' := hbx11.frozen 2
              have hf4' := hbx11.frozen 4
              have hg0' := HR11.out.cell 0 _ rfl
              have hne1 : c0 ≠ gR := by omega
              have hne2 : gR ≠ c0 := by omega
              have hcv2 : IntKind.u64.wrap (r.fr.toNat : Int) = (r.fr.toNat : Int) := by rw [wrap_u64]; omega
              have hcv3 : IntKind.u64.wrap ((r.fr.toNat : Int) + 1) = (r.fr.toNat : Int) + 1 := by rw [wrap_u64]; omega
              have hrel := Hst11.out.one Ho11.out hTT (by omega)
              have Hrel := Lib.hid hrel
              have hset := ((((Chg.refl (fun k => k = c0) w11).trans (Chg.set (P := fun k => k = c0) _ ⟨c0, 0, none⟩ (.int .u32 (r.fr.toNat : Int)) rfl)).trans (Chg.set (P := fun k => k = c0) _ ⟨c0, 1, none⟩ (.int .u32 1) rfl)).trans (Chg.set (P := fun k => k = c0) _ ⟨c0, 2, none⟩ (.int .u32 0) rfl)).trans (Chg.set (P := fun k => k = c0) _ ⟨c0, 4, none⟩ (.slice A10 (row1 0 r).length c10) rfl)
              have Hset := Lib.hid hset
              have hz11 := Hb11.out.size
              clear hbx11 hrel hset hone
              go_wp2_with fail
              refine ⟨⟨k + 1, dn, [r], _, _, _, _, _, _, by omega, by go_num, by rw [Hnk.out]; go_num, Hcu2.out, Hcut3.out, Hrel.out, Hb11.out.trans (Hset.out.below (B := w.heap.size) (by omega) (fun k hk => by omega))⟩, ?_⟩
              simp [intOf]; omega
            · rw [decide_eq_false hone]
              have Hans : Hid (cutR size [] [] l = none) := Lib.hid (by have h := Hcut2.out; rw [if_pos (by omega)] at h; exact h.symm)
              clear hone
              go_wp2_with fail
              rw [Exit.noGoto_ret]
              go_ret3
              exact ⟨.inr (.inl ⟨Hn.out, Hans.out, rfl⟩), Hb11.out⟩
      · obtain rfl : k = l.length := by omega
        rw [List.drop_length, cutR_nil] at hcut
        have Hcut := Lib.hid hcut
        clear hcut hcu hst hbw
        by_cases hc : cur = []
        · subst hc
          have hc1 : wr.cell? ⟨c0, 1, none⟩ = some (.int .u32 0) := Hst.out.bx.cell 1 _ rfl
          have Hcut2 : Hid (cutR size [] [] l = some done) := Lib.hid Hcut.out.symm
          go_wp2_with fail
          refine (ends_zero wr c0 _ _ _ _ _ _ Hst.out.bx).mono ?_
          rintro _ _ ⟨rfl, rfl⟩
          clear hc1
          have Hbx := Lib.hid Hst.out.bx
          go_upto_region 26 with fail
          refine wp_region_typed [some 101, some 102, some 103, some 104, some 105, some 106, some 107, some 108, some 4, some 5, some 6] [101, 102, 103, 104, 105, 106, 107, 108, 4, 5, 6]
            [Ph.is (.pointer (some ⟨c0, 0, none⟩)),
              Ph.is (.pointer (some ⟨c0, 0, none⟩)),
              Ph.is (.pointer (some ⟨c0, 5, none⟩)),
              Ph.is (vs),
              Ph.is (.pointer (some ⟨c0, 0, none⟩)),
              Ph.is (.pointer (some ⟨c0, 0, none⟩)),
              Ph.is (.pointer (some ⟨c0, 6, none⟩)),
              Ph.is (va),
              Ph.is (vs),
              Ph.is (va),
              Ph.is (.int .i64 0)] rfl rfl (by kernel_rfl) (by kernel_rfl) ?_ ?_
          · refine ⟨?_, ?_, ?_, ?_, ?_, ?_, ?_, ?_, ?_, ?_, ?_, trivial⟩
            · -- 0: slot 101 := Op.move t9
              refine ob_yes fun f w' hb hp => ?_
              simp [PreOf, factOf, valOf, Ph.is, Ph.by_, Ph.any, Region.binds] at hp
              refine ⟨by simp [Gd, valOf, hp], ?_⟩
              refine mild_val (.pointer (some ⟨c0, 0, none⟩)) ?_ rfl
              simp [execOp, evalF, hp]
            · -- 1: slot 102 := Op.nilCheck t101
              refine ob_yes fun f w' hb hp => ?_
              simp [PreOf, factOf, valOf, Ph.is, Ph.by_, Ph.any, Region.binds] at hp
              refine ⟨by simp [Gd, valOf, hp], ?_⟩
              refine mild_val (.pointer (some ⟨c0, 0, none⟩)) ?_ rfl
              simp [execOp, evalF, hp, go_sem]
            · -- 2: slot 103 := Op.fieldAddr 125 t102 3
              refine ob_yes fun f w' hb hp => ?_
              simp [PreOf, factOf, valOf, Ph.is, Ph.by_, Ph.any, Region.binds] at hp
              refine ⟨by simp [Gd, valOf, hp], ?_⟩
              refine mild_val (.pointer (some ⟨c0, 5, none⟩)) ?_ rfl
              simp [execOp, evalF, hp, go_sem]
            · -- 3: slot 104 := Op.load 41 t103
              refine ob_yes fun f w' hb hp => ?_
              simp [PreOf, factOf, valOf, Ph.is, Ph.by_, Ph.any, Region.binds] at hp
              refine ⟨by simp [Gd, valOf, hp], ?_⟩
              have hc := (Hbx.out.below Hbx.out.lt hb).cell 5 _ rfl
              refine mild_val (vs) ?_ rfl
              simp [execOp, evalF, hp, hc, go_sem]
            · -- 4: slot 105 := Op.move t9
              refine ob_yes fun f w' hb hp => ?_
              simp [PreOf, factOf, valOf, Ph.is, Ph.by_, Ph.any, Region.binds] at hp
              refine ⟨by simp [Gd, valOf, hp], ?_⟩
              refine mild_val (.pointer (some ⟨c0, 0, none⟩)) ?_ rfl
              simp [execOp, evalF, hp]
            · -- 5: slot 106 := Op.nilCheck t105
              refine ob_yes fun f w' hb hp => ?_
              simp [PreOf, factOf, valOf, Ph.is, Ph.by_, Ph.any, Region.binds] at hp
              refine ⟨by simp [Gd, valOf, hp], ?_⟩
              refine mild_val (.pointer (some ⟨c0, 0, none⟩)) ?_ rfl
              simp [execOp, evalF, hp, go_sem]
            · -- 6: slot 107 := Op.fieldAddr 125 t106 4
              refine ob_yes fun f w' hb hp => ?_
              simp [PreOf, factOf, valOf, Ph.is, Ph.by_, Ph.any, Region.binds] at hp
              refine ⟨by simp [Gd, valOf, hp], ?_⟩
              refine mild_val (.pointer (some ⟨c0, 6, none⟩)) ?_ rfl
              simp [execOp, evalF, hp, go_sem]
            · -- 7: slot 108 := Op.load 52 t107
              refine ob_yes fun f w' hb hp => ?_
              simp [PreOf, factOf, valOf, Ph.is, Ph.by_, Ph.any, Region.binds] at hp
              refine ⟨by simp [Gd, valOf, hp], ?_⟩
              have hc := (Hbx.out.below Hbx.out.lt hb).cell 6 _ rfl
              refine mild_val (va) ?_ rfl
              simp [execOp, evalF, hp, hc, go_sem]
            · -- 8: slot 4 := Op.assign t104
              refine ob_yes fun f w' hb hp => ?_
              simp [PreOf, factOf, valOf, Ph.is, Ph.by_, Ph.any, Region.binds] at hp
              refine ⟨by simp [Gd, valOf, hp], ?_⟩
              refine mild_val (vs) ?_ rfl
              simp [execOp, evalF, hp]
            · -- 9: slot 5 := Op.assign t108
              refine ob_yes fun f w' hb hp => ?_
              simp [PreOf, factOf, valOf, Ph.is, Ph.by_, Ph.any, Region.binds] at hp
              refine ⟨by simp [Gd, valOf, hp], ?_⟩
              refine mild_val (va) ?_ rfl
              simp [execOp, evalF, hp]
            · -- 10: slot 6 := Op.assign (const (0:i64))
              refine ob_yes fun f w' hb hp => ?_
              simp [PreOf, factOf, valOf, Ph.is, Ph.by_, Ph.any, Region.binds] at hp
              refine ⟨by simp [Gd, valOf, hp], ?_⟩
              refine mild_val (.int .i64 0) ?_ rfl
              simp [execOp, evalF, hp, go_sem]
          · intro f w2 hb2 hp
            simp only [PostOf, Ph.is, Ph.by_, Ph.any] at hp
            obtain ⟨h0, h1, h2, h3, h4, h5, h6, h7, h8, h9, h10, _⟩ := hp
            simp only [fills, List.foldl_cons, List.foldl_nil, Act.put, List.setIfInBounds_toArray, List.set_cons_zero, List.set_cons_succ, h0, h1, h2, h3, h4, h5, h6, h7, h8, h9, h10]
            clear h0 h1 h2 h3 h4 h5 h6 h7 h8 h9 h10
            have Hb9 := Lib.hid (Hbw.out.trans (hb2.mono Hbw.out.size))
            have Hst9 := Lib.hid (Hst.out.below hb2)
            clear hb2
            go_wp2_with fail
            rw [Exit.noGoto_ret]
            go_ret3
            exact ⟨.inr (.inr ⟨Hn.out, done, _, _, _, Hcut2.out, rfl, Hst9.out.sp, Hst9.out.al, fun x hx => (Hst9.out.el x hx).1, Hst9.out.en⟩), Hb9.out⟩
        · obtain ⟨lo, hlo, hspan⟩ := loOf_at cur hc
          have hclen : 0 < cur.length := List.length_pos_iff.2 hc
          have hcl2 : cur.length ≤ 20000 := by have := Hcu.out.sz; have := rsz_len cur; omega
          have hbd : (rowsB 0 cur).length ≤ 880000 := by
            have h1 := rowsB_len cur none 0 Hcu.out.ok (by have := Hcu.out.sz; omega)
            have := Hcu.out.sz
            omega
          have hbx6 := Hst.out.bx
          rw [hlo] at hbx6
          obtain ⟨Ar, cr, rfl, _, _, _⟩ := Hst.out.rw_.form_
          have hTw := Hst.out.Tw
          have hdl : done.length ≤ 20000 := by have := Hcu.out.ln; omega
          have hall : alls.length = done.length := by have := congrArg List.length Hst.out.en; simpa using this
          have Hend := Lib.hid (ends_any wr c0 w.heap.size lo cur.length sz size (rowsB 0 cur) Ar cr vs va (done.map spanOf) (alls.map Prod.snd) hbx6 hclen (by omega) (Hst.out.rw_.by_) (by omega) Hst.out.sp Hst.out.al (by rw [List.length_map]; omega) (by rw [List.length_map]; omega) Hbw.out.size)
          rw [← senc_eq] at Hend
          have Hc := Lib.hid hc
          have Hspan := Lib.hid hspan
          have Hcut2 : Hid (cutR size [] [] l = some (shut done cur)) := Lib.hid Hcut.out.symm
          clear hbx6 hc hlo hspan
          go_wp2_with fail
          refine Hend.out.mono ?_
          rintro _ w8 ⟨rfl, vb, vs8, va8, hb8, ho8, hs8, ha8, hch8⟩
          have hbe : Below w.heap.size wr w8 := hch8.below (B := w.heap.size) hszr (fun k hk => by
              rcases hk with hk | hk | hk
              · omega
              · exact (Hst.out.sp.blk k hk).1
              · exact (Hst.out.al.blk k hk).1)
          have Hst8 := Lib.hid (Hst.out.ended Hc.out Hspan.out hb8 ho8 hs8 ha8 hch8)
          have Hb8 := Lib.hid (Hbw.out.trans hbe)
          clear hb8 ho8 hs8 ha8 hch8 hbe Hst Hbw Hend
          generalize shut done cur = dn at *
          have Hbx := Lib.hid Hst8.out.bx
          go_upto_region 26 with fail
          refine wp_region_typed [some 101, some 102, some 103, some 104, some 105, some 106, some 107, some 108, some 4, some 5, some 6] [101, 102, 103, 104, 105, 106, 107, 108, 4, 5, 6]
            [Ph.is (.pointer (some ⟨c0, 0, none⟩)),
              Ph.is (.pointer (some ⟨c0, 0, none⟩)),
              Ph.is (.pointer (some ⟨c0, 5, none⟩)),
              Ph.is (vs8),
              Ph.is (.pointer (some ⟨c0, 0, none⟩)),
              Ph.is (.pointer (some ⟨c0, 0, none⟩)),
              Ph.is (.pointer (some ⟨c0, 6, none⟩)),
              Ph.is (va8),
              Ph.is (vs8),
              Ph.is (va8),
              Ph.is (.int .i64 0)] rfl rfl (by kernel_rfl) (by kernel_rfl) ?_ ?_
          · refine ⟨?_, ?_, ?_, ?_, ?_, ?_, ?_, ?_, ?_, ?_, ?_, trivial⟩
            · -- 0: slot 101 := Op.move t9
              refine ob_yes fun f w' hb hp => ?_
              simp [PreOf, factOf, valOf, Ph.is, Ph.by_, Ph.any, Region.binds] at hp
              refine ⟨by simp [Gd, valOf, hp], ?_⟩
              refine mild_val (.pointer (some ⟨c0, 0, none⟩)) ?_ rfl
              simp [execOp, evalF, hp]
            · -- 1: slot 102 := Op.nilCheck t101
              refine ob_yes fun f w' hb hp => ?_
              simp [PreOf, factOf, valOf, Ph.is, Ph.by_, Ph.any, Region.binds] at hp
              refine ⟨by simp [Gd, valOf, hp], ?_⟩
              refine mild_val (.pointer (some ⟨c0, 0, none⟩)) ?_ rfl
              simp [execOp, evalF, hp, go_sem]
            · -- 2: slot 103 := Op.fieldAddr 125 t102 3
              refine ob_yes fun f w' hb hp => ?_
              simp [PreOf, factOf, valOf, Ph.is, Ph.by_, Ph.any, Region.binds] at hp
              refine ⟨by simp [Gd, valOf, hp], ?_⟩
              refine mild_val (.pointer (some ⟨c0, 5, none⟩)) ?_ rfl
              simp [execOp, evalF, hp, go_sem]
            · -- 3: slot 104 := Op.load 41 t103
              refine ob_yes fun f w' hb hp => ?_
              simp [PreOf, factOf, valOf, Ph.is, Ph.by_, Ph.any, Region.binds] at hp
              refine ⟨by simp [Gd, valOf, hp], ?_⟩
              have hc := (Hbx.out.below Hbx.out.lt hb).cell 5 _ rfl
              refine mild_val (vs8) ?_ rfl
              simp [execOp, evalF, hp, hc, go_sem]
            · -- 4: slot 105 := Op.move t9
              refine ob_yes fun f w' hb hp => ?_
              simp [PreOf, factOf, valOf, Ph.is, Ph.by_, Ph.any, Region.binds] at hp
              refine ⟨by simp [Gd, valOf, hp], ?_⟩
              refine mild_val (.pointer (some ⟨c0, 0, none⟩)) ?_ rfl
              simp [execOp, evalF, hp]
            · -- 5: slot 106 := Op.nilCheck t105
              refine ob_yes fun f w' hb hp => ?_
              simp [PreOf, factOf, valOf, Ph.is, Ph.by_, Ph.any, Region.binds] at hp
              refine ⟨by simp [Gd, valOf, hp], ?_⟩
              refine mild_val (.pointer (some ⟨c0, 0, none⟩)) ?_ rfl
              simp [execOp, evalF, hp, go_sem]
            · -- 6: slot 107 := Op.fieldAddr 125 t106 4
              refine ob_yes fun f w' hb hp => ?_
              simp [PreOf, factOf, valOf, Ph.is, Ph.by_, Ph.any, Region.binds] at hp
              refine ⟨by simp [Gd, valOf, hp], ?_⟩
              refine mild_val (.pointer (some ⟨c0, 6, none⟩)) ?_ rfl
              simp [execOp, evalF, hp, go_sem]
            · -- 7: slot 108 := Op.load 52 t107
              refine ob_yes fun f w' hb hp => ?_
              simp [PreOf, factOf, valOf, Ph.is, Ph.by_, Ph.any, Region.binds] at hp
              refine ⟨by simp [Gd, valOf, hp], ?_⟩
              have hc := (Hbx.out.below Hbx.out.lt hb).cell 6 _ rfl
              refine mild_val (va8) ?_ rfl
              simp [execOp, evalF, hp, hc, go_sem]
            · -- 8: slot 4 := Op.assign t104
              refine ob_yes fun f w' hb hp => ?_
              simp [PreOf, factOf, valOf, Ph.is, Ph.by_, Ph.any, Region.binds] at hp
              refine ⟨by simp [Gd, valOf, hp], ?_⟩
              refine mild_val (vs8) ?_ rfl
              simp [execOp, evalF, hp]
            · -- 9: slot 5 := Op.assign t108
              refine ob_yes fun f w' hb hp => ?_
              simp [PreOf, factOf, valOf, Ph.is, Ph.by_, Ph.any, Region.binds] at hp
              refine ⟨by simp [Gd, valOf, hp], ?_⟩
              refine mild_val (va8) ?_ rfl
              simp [execOp, evalF, hp]
            · -- 10: slot 6 := Op.assign (const (0:i64))
              refine ob_yes fun f w' hb hp => ?_
              simp [PreOf, factOf, valOf, Ph.is, Ph.by_, Ph.any, Region.binds] at hp
              refine ⟨by simp [Gd, valOf, hp], ?_⟩
              refine mild_val (.int .i64 0) ?_ rfl
              simp [execOp, evalF, hp, go_sem]
          · intro f w2 hb2 hp
            simp only [PostOf, Ph.is, Ph.by_, Ph.any] at hp
            obtain ⟨h0, h1, h2, h3, h4, h5, h6, h7, h8, h9, h10, _⟩ := hp
            simp only [fills, List.foldl_cons, List.foldl_nil, Act.put, List.setIfInBounds_toArray, List.set_cons_zero, List.set_cons_succ, h0, h1, h2, h3, h4, h5, h6, h7, h8, h9, h10]
            clear h0 h1 h2 h3 h4 h5 h6 h7 h8 h9 h10
            have Hb9 := Lib.hid (Hb8.out.trans (hb2.mono Hb8.out.size))
            have Hst9 := Lib.hid (Hst8.out.below hb2)
            clear hb2
            go_wp2_with fail
            rw [Exit.noGoto_ret]
            go_ret3
            exact ⟨.inr (.inr ⟨Hn.out, dn, _, _, _, Hcut2.out, rfl, Hst9.out.sp, Hst9.out.al, fun x hx => (Hst9.out.el x hx).1, Hst9.out.en⟩), Hb9.out⟩
  · have hne : (newE none l == 0) = false := by simpa using hn
    have hne' : (newE none l != 0) = true := by simpa using hn
    have hans : ∀ W', CutAns w W' (.returned (.tuple #[.slice none 0 0, .slice none 0 0, .int .i64 (newE none l)])) l size := fun W' => .inl ⟨hn, rfl⟩
    have Hans := Lib.hid hans
    have Hnew := Lib.hid hnew
    clear hn hnew hans
    obtain ⟨er, her⟩ : ∃ er, er = newE none l := ⟨_, rfl⟩
    rw [← her] at hne hne' Hans Hnew
    go_enter Try.func27, Try.ntmps27
    go_wp2_with fail
    go_step3
    go_wp2_with fail
    refine Hnew.out.mono ?_
    rintro _ w2 ⟨g2, rfl, hb2⟩
    clear her
    go_wp2_with fail
    rw [Exit.noGoto_ret]
    go_ret3
    exact ⟨Hans.out _, hb2⟩
end Go.Proofs.Ythfnikdapknohaa

namespace Go.Proofs.Ythfnikdapknohaa
set_option linter.unusedSimpArgs false
set_option linter.unusedVariables false
open Go.RowKit

set_option maxRecDepth 100000 in
set_option maxHeartbeats 800000 in
theorem isnan32 (w : World) (a : Nat) (ha : a < 4294967296) : Calls Try.prog 88 #[.int .u32 (a : Int)] w fun e w' => e = .returned (.bool false) ∧ w = w' := by
  go_enter Try.func88, Try.ntmps88
  go_wp2_with fail
  go_ret
  exact ⟨rfl, rfl⟩
def cmp3 (a b : Nat) : Int := if a < b then -1 else if b < a then 1 else 0
set_option maxRecDepth 100000 in
set_option maxHeartbeats 800000 in
theorem compare32 (w : World) (a b : Nat) (ha : a < 4294967296) (hb : b < 4294967296) : Calls Try.prog 66 #[.int .u32 (a : Int), .int .u32 (b : Int)] w fun e w' => e = .returned (.int .i64 (cmp3 a b)) ∧ w = w' := by
  have hc : cmp3 a b = if a < b then -1 else if b < a then 1 else 0 := rfl
  by_cases h1 : a < b
  · rw [if_pos h1] at hc
    rw [hc]
    clear hc
    go_enter Try.func66, Try.ntmps66
    go_wp2_with fail
    refine (isnan32 w a ha).mono ?_
    rintro _ _ ⟨rfl, rfl⟩
    go_wp2_with fail
    refine (isnan32 w b hb).mono ?_
    rintro _ _ ⟨rfl, rfl⟩
    go_wp2_with fail
    go_ret
    exact ⟨rfl, rfl⟩
  · rw [if_neg h1] at hc
    have hd1 : decide ((a : Int) < (b : Int)) = false := by simp; omega
    have hd1' : decide (a < b) = false := by simp; omega
    by_cases h2 : b < a
    · rw [if_pos h2] at hc
      rw [hc]
      clear hc h1
      go_enter Try.func66, Try.ntmps66
      go_wp2_with fail
      refine (isnan32 w a ha).mono ?_
      rintro _ _ ⟨rfl, rfl⟩
      go_wp2_with fail
      refine (isnan32 w b hb).mono ?_
      rintro _ _ ⟨rfl, rfl⟩
      go_wp2_with fail
      go_ret
      exact ⟨rfl, rfl⟩
    · rw [if_neg h2] at hc
      rw [hc]
      have hd2 : decide ((b : Int) < (a : Int)) = false := by simp; omega
      have hd2' : decide (b < a) = false := by simp; omega
      clear hc h1 h2
      go_enter Try.func66, Try.ntmps66
      go_wp2_with fail
      refine (isnan32 w a ha).mono ?_
      rintro _ _ ⟨rfl, rfl⟩
      go_wp2_with fail
      refine (isnan32 w b hb).mono ?_
      rintro _ _ ⟨rfl, rfl⟩
      go_wp2_with fail
      go_ret
      exact ⟨rfl, rfl⟩
/-- where an end stands among rising ones -/
def FoundAt (l : List GArc) (t : Nat) (i : Nat) (b : Bool) : Prop :=
  i ≤ l.length ∧ (∀ j, (h : j < l.length) → j < i → (l[j]).to.toNat < t) ∧ (∀ j, (h : j < l.length) → i ≤ j → t ≤ (l[j]).to.toNat) ∧ b = decide (∃ h : i < l.length, (l[i]).to.toNat = t)
theorem rise_lt (l : List GArc) (hr : rise none l = true) : ∀ i j, (hi : i < j) → (hj : j < l.length) → (l[i]'(by omega)).to.toNat < (l[j]).to.toNat := by
  intro i j hi hj
  induction j with
  | zero => omega
  | succ j ih =>
    have h1 := nextOf_le l (j + 1) hj hr
    rw [nextOf_succ l j (by omega)] at h1
    rcases Nat.lt_or_ge i j with h | h
    · have := ih h (by omega); omega
    · obtain rfl : i = j := by omega
      omega
end Go.Proofs.Ythfnikdapknohaa

namespace Go.Proofs.Ythfnikdapknohaa
set_option linter.unusedSimpArgs false
set_option linter.unusedVariables false
open Go.RowKit

set_option maxRecDepth 100000 in
set_option maxHeartbeats 800000 in
theorem row1_any (w : World) (a : Nat) (x y : Value) (b : Nat) (hx : x.oneCell' = true) (hy : y.oneCell' = true) (ha : a < 4294967296) (hb : b < 4294967296) : Calls Try.prog 68 #[.agg #[.int .u32 (a : Int), x, y], .int .u32 (b : Int)] w fun e w' => e = .returned (.int .i64 (cmp3 a b)) ∧ Below w.heap.size w w' := by
  have hc := fun W => compare32 W a b ha hb
  have Hc := Lib.hid hc
  clear hc
  generalize cmp3 a b = c at *
  go_enter Try.func68, Try.ntmps68
  go_wp2_with fail
  refine (Hc.out _).mono ?_
  rintro _ _ ⟨rfl, rfl⟩
  go_wp2_with fail
  go_ret
  exact ⟨rfl, balloc _ _⟩
/-- where an end stands among rising ones -/
def FoundL (l : List GLine) (t : Nat) (i : Nat) (b : Bool) : Prop :=
  i ≤ l.length ∧ (∀ j, (h : j < l.length) → j < i → (l[j]).1.fr.toNat < t) ∧ (∀ j, (h : j < l.length) → i ≤ j → t ≤ (l[j]).1.fr.toNat) ∧ b = decide (∃ h : i < l.length, (l[i]).1.fr.toNat = t)
set_option maxRecDepth 100000 in
set_option maxHeartbeats 1600000 in
theorem lbsf_any (w : World) (B : Nat) (v : Value) (l : List GLine) (hl : l.length ≤ 4294967296) (t : Nat) (ht : t < 4294967296) (h : RowOn cLine w (fun k => k < B) (fun k => k < B) v l) (hB : B ≤ w.heap.size) (hs : ∀ i j, (hi : i < j) → (hj : j < l.length) → (l[i]'(by omega)).1.fr.toNat < (l[j]).1.fr.toNat) :
    Calls Try.prog 67 #[v, .int .u32 (t : Int), .func (.func 68) #[] #[]] w fun e w' => ∃ i b, e = .returned (.tuple #[.int .i64 (i : Nat), .bool b]) ∧ FoundL l t i b ∧ Below w.heap.size w w' := by
  obtain ⟨A, c, rfl, hc1, hc2⟩ := h.form
  unfold maxLen at hc2
  have Hs := Lib.hid hs
  clear hs
  go_enter Try.func67, Try.ntmps67
  go_wp2_with fail
  go_loopw [9, 10] (fun lo hi wr => ∃ a b : Nat, lo = .int .i64 a ∧ hi = .int .i64 b ∧ a ≤ b ∧ b ≤ l.length ∧ (∀ j, (h : j < l.length) → j < a → (l[j]).1.fr.toNat < t) ∧ (∀ j, (h : j < l.length) → b ≤ j → t ≤ (l[j]).1.fr.toNat) ∧ Below w.heap.size w wr) (fun lo hi _ => (intOf hi).toNat - (intOf lo).toNat)
  case atStart => exact ⟨0, l.length, rfl, rfl, by omega, by omega, fun j _ hj => by omega, fun j hj1 hj2 => by omega, Below.refl _ _⟩
  case round =>
    obtain ⟨a, b, rfl, rfl, hab, hbn, hlo, hhi, hbl⟩ := hrel
    have hsz := hbl.size
    have Hlo := Lib.hid hlo
    have Hhi := Lib.hid hhi
    clear hlo hhi
    by_cases hlt : a < b
    · obtain ⟨m, hm⟩ : ∃ m, m = (a + b) / 2 := ⟨_, rfl⟩
      have hmi : ((a : Int) + (b : Int)) / 2 = ((m : Nat) : Int) := by omega
      have hml : m < l.length := by omega
      obtain ⟨ad, Aa, ca, At, ct, rfl, hadb, hcl, _, _⟩ := LinesAt.line (h.keep (fun p hp => (hbl.mono hB).cell hp) (fun p hp => (hbl.mono hB).cell hp)) m hml
      have hx0 : wr.cell? (ad.add (m * 3)) = some (.int .u32 ((l[m]).1.fr.toNat : Int)) := by have := hcl 0 _ rfl; simpa [Addr.add] using this
      have hx1 : wr.cell? { block := (ad.add (m * 3)).block, off := (ad.add (m * 3)).off + 1 } = some (.slice Aa (l[m]).1.arcs.length ca) := by have := hcl 1 _ rfl; simpa [Addr.add] using this
      have hx2 : wr.cell? { block := (ad.add (m * 3)).block, off := (ad.add (m * 3)).off + 2 } = some (.slice At (l[m]).2.length ct) := by have := hcl 2 _ rfl; simpa [Addr.add] using this
      have Hcl := Lib.hid hcl
      clear hcl
      have hto := u32_lt (l[m]).1.fr
      have hf := fun W => row1_any W (l[m]).1.fr.toNat (.slice Aa (l[m]).1.arcs.length ca) (.slice At (l[m]).2.length ct) t rfl rfl hto ht
      have Hf := Lib.hid hf
      have hcm : cmp3 (l[m]).1.fr.toNat t = if (l[m]).1.fr.toNat < t then -1 else if t < (l[m]).1.fr.toNat then 1 else 0 := rfl
      have hlow : (l[m]).1.fr.toNat < t → ∀ j, (h : j < l.length) → j < m + 1 → (l[j]).1.fr.toNat < t := fun hl j hj hjm => by
        rcases Nat.lt_or_ge j m with h | h
        · have := Hs.out j m h hml; omega
        · obtain rfl : j = m := by omega
          exact hl
      have hhigh : ¬ (l[m]).1.fr.toNat < t → ∀ j, (h : j < l.length) → m ≤ j → t ≤ (l[j]).1.fr.toNat := fun hl j hj hjm => by
        rcases Nat.lt_or_ge m j with h | h
        · have := Hs.out m j h hj; omega
        · obtain rfl : j = m := by omega
          omega
      have Hlow := Lib.hid hlow
      have Hhigh := Lib.hid hhigh
      have Hcm := Lib.hid hcm
      have Hm := Lib.hid hm
      clear hf hlow hhigh hcm hm
      generalize cmp3 (l[m]).1.fr.toNat t = C at *
      generalize (l[m]).1.arcs.length = wx at *
      generalize (l[m]).2.length = wy at *
      generalize (l[m]).1.fr.toNat = x at *
      by_cases hcase : x < t
      · have hC : C = -1 := by rw [Hcm.out, if_pos hcase]
        subst hC
        have hlow := Hlow.out hcase
        have Hlow2 := Lib.hid hlow
        clear hlow hcase Hcm Hhigh Hlow
        go_wp2_with (go_at_call 68; refine (Hf.out _).mono ?_; rintro _ w1 ⟨rfl, hb1⟩)
        go_roundw
        case rel => exact ⟨m + 1, b, by go_num, rfl, by have := Hm.out; omega, hbn, Hlow2.out, Hhi.out, bstep hbl hb1⟩
        case measure => have := Hm.out; simp [intOf]; omega
      · have hC : C = 0 ∨ C = 1 := by
          rw [Hcm.out, if_neg hcase]
          split
          · right; rfl
          · left; rfl
        have hhigh := Hhigh.out hcase
        have Hhigh2 := Lib.hid hhigh
        clear hhigh hcase Hcm Hhigh Hlow
        rcases hC with rfl | rfl
        all_goals
          go_wp2_with (go_at_call 68; refine (Hf.out _).mono ?_; rintro _ w1 ⟨rfl, hb1⟩)
          go_roundw
          case rel => exact ⟨a, m, rfl, by go_num, by have := Hm.out; omega, by omega, Hlo.out, Hhigh2.out, bstep hbl hb1⟩
          case measure => have := Hm.out; simp [intOf]; omega
    · obtain rfl : b = a := by omega
      by_cases hbl2 : b < l.length
      · obtain ⟨ad, Aa, ca, At, ct, rfl, hadb, hcl, _, _⟩ := LinesAt.line (h.keep (fun p hp => (hbl.mono hB).cell hp) (fun p hp => (hbl.mono hB).cell hp)) b hbl2
        have hx0 : wr.cell? (ad.add (b * 3)) = some (.int .u32 ((l[b]).1.fr.toNat : Int)) := by have := hcl 0 _ rfl; simpa [Addr.add] using this
        have hx1 : wr.cell? { block := (ad.add (b * 3)).block, off := (ad.add (b * 3)).off + 1 } = some (.slice Aa (l[b]).1.arcs.length ca) := by have := hcl 1 _ rfl; simpa [Addr.add] using this
        have hx2 : wr.cell? { block := (ad.add (b * 3)).block, off := (ad.add (b * 3)).off + 2 } = some (.slice At (l[b]).2.length ct) := by have := hcl 2 _ rfl; simpa [Addr.add] using this
        have Hcl := Lib.hid hcl
        clear hcl
        have hto := u32_lt (l[b]).1.fr
        have hf := fun W => row1_any W (l[b]).1.fr.toNat (.slice Aa (l[b]).1.arcs.length ca) (.slice At (l[b]).2.length ct) t rfl rfl hto ht
        have Hf := Lib.hid hf
        have hcm : cmp3 (l[b]).1.fr.toNat t = if (l[b]).1.fr.toNat < t then -1 else if t < (l[b]).1.fr.toNat then 1 else 0 := rfl
        have hge := Hhi.out b hbl2 (Nat.le_refl _)
        have hfd : FoundL l t b (decide (∃ h : b < l.length, (l[b]).1.fr.toNat = t)) := ⟨hbn, Hlo.out, Hhi.out, rfl⟩
        rw [if_neg (by omega)] at hcm
        have hdec : decide (∃ h : b < l.length, (l[b]).1.fr.toNat = t) = decide ((l[b]).1.fr.toNat = t) := decide_eq_decide.2 ⟨fun ⟨_, h⟩ => h, fun h => ⟨hbl2, h⟩⟩
        rw [hdec] at hfd
        have Hfd := Lib.hid hfd
        clear hf hdec hfd
        generalize cmp3 (l[b]).1.fr.toNat t = C at *
        generalize (l[b]).1.arcs.length = wx at *
        generalize (l[b]).2.length = wy at *
        generalize (l[b]).1.fr.toNat = x at *
        by_cases hcase : t < x
        · rw [if_pos hcase] at hcm
          subst hcm
          have hD : decide (x = t) = false := by simp; omega
          rw [hD] at Hfd
          clear hcase hD hge
          go_wp2_with (go_at_call 68; refine (Hf.out _).mono ?_; rintro _ w1 ⟨rfl, hb1⟩)
          go_ret2
          exact ⟨b, _, rfl, Hfd.out, bstep hbl hb1⟩
        · rw [if_neg hcase] at hcm
          subst hcm
          have hD : decide (x = t) = true := by simp; omega
          rw [hD] at Hfd
          clear hcase hD hge
          go_wp2_with (go_at_call 68; refine (Hf.out _).mono ?_; rintro _ w1 ⟨rfl, hb1⟩)
          go_ret2
          exact ⟨b, _, rfl, Hfd.out, bstep hbl hb1⟩
      · have hfd : FoundL l t b (decide (∃ h : b < l.length, (l[b]).1.fr.toNat = t)) := ⟨hbn, Hlo.out, Hhi.out, rfl⟩
        rw [decide_eq_false (fun ⟨h, _⟩ => hbl2 h)] at hfd
        have Hfd := Lib.hid hfd
        have hd : decide (b < l.length) = false := by simpa using hbl2
        clear hfd
        go_wp2_with fail
        go_ret2
        exact ⟨b, _, rfl, Hfd.out, hbl⟩


end Go.Proofs.Ythfnikdapknohaa

namespace Go.Proofs.Ythfnikdapknohaa
set_option linter.unusedSimpArgs false
set_option linter.unusedVariables false
open Go.RowKit

def lineAt (l : List GLine) (t : Nat) : Option GLine := l.find? fun x => decide (x.1.fr.toNat = t)
def arcsL (l : List GLine) (t : Nat) : List GArc := match lineAt l t with | some x => x.1.arcs | none => []
def tabL (l : List GLine) (t : Nat) : List GCell := match lineAt l t with | some x => x.2 | none => []
theorem lineAt_true {l : List GLine} {t i : Nat} (h : FoundL l t i true) : ∃ hi : i < l.length, lineAt l t = some l[i] := by
  obtain ⟨h1, h2, h3, h4⟩ := h
  obtain ⟨hi, he⟩ := of_decide_eq_true h4.symm
  refine ⟨hi, ?_⟩
  unfold lineAt
  rw [List.find?_eq_some_iff_getElem]
  refine ⟨by simpa using he, i, hi, rfl, fun j hj => ?_⟩
  have := h2 j (by omega) hj
  simp only [Bool.not_eq_true', decide_eq_false_iff_not]
  omega
theorem lineAt_false {l : List GLine} {t i : Nat} (h : FoundL l t i false) (hs : ∀ i j, (hi : i < j) → (hj : j < l.length) → (l[i]'(by omega)).1.fr.toNat < (l[j]).1.fr.toNat) : lineAt l t = none := by
  obtain ⟨h1, h2, h3, h4⟩ := h
  unfold lineAt
  rw [List.find?_eq_none]
  intro x hx
  obtain ⟨j, hj, rfl⟩ := List.mem_iff_getElem.1 hx
  simp only [decide_eq_true_eq]
  intro e
  rcases Nat.lt_trichotomy j i with hji | hji | hji
  · have := h2 j hj hji; omega
  · subst hji
    have := decide_eq_true (p := ∃ h : j < l.length, (l[j]).1.fr.toNat = t) ⟨hj, e⟩
    rw [this] at h4
    cases h4
  · have h5 := h3 i (by omega) (Nat.le_refl _)
    have h6 := hs i j hji hj
    omega
def Ph.ownC (base : Nat) (l : List GCell) : Ph := ⟨fun v w => OwnF 73 cCell w base v l, fun _ _ _ h hb => h.below_ hb⟩
theorem srow_nil (w : World) (t : Nat) : Calls Try.prog 32 #[.pointer none, .int .u32 (t : Int)] w fun e w' => e = .returned (.tuple #[.slice none 0 0, .slice none 0 0]) ∧ w = w' := by
  go_enter Try.func32, Try.ntmps32
  go_wp2_with fail
  go_ret2
  exact ⟨rfl, rfl⟩
set_option maxRecDepth 100000 in
set_option maxHeartbeats 4000000 in
theorem srow_any (w : World) (L0 g : Nat) (lines : List GLine) (t : Nat) (ht : t < 4294967296) (h : LinesAt w L0 g lines) (hL : L0 ≤ w.heap.size) (hn : lines.length ≤ 4294967296) (hs : ∀ i j, (hi : i < j) → (hj : j < lines.length) → (lines[i]'(by omega)).1.fr.toNat < (lines[j]).1.fr.toNat)
    (hz : ∀ x ∈ lines, x.1.arcs.length ≤ 4294967296 ∧ x.2.length ≤ 4294967296) :
    Calls Try.prog 32 #[.pointer (some ⟨g, 0, none⟩), .int .u32 (t : Int)] w fun e w' => ∃ va vt, e = .returned (.tuple #[va, vt]) ∧ OwnF 70 cArc w' w.heap.size va (arcsL lines t) ∧ OwnF 73 cCell w' w.heap.size vt (tabL lines t) ∧ Below w.heap.size w w' := by
  obtain ⟨A, c, hbx, hg, hc1, hc2, hrow⟩ := h
  have hb := lbsf_any w L0 _ lines hn t ht hrow hL hs
  have hc := hbx.cell 0 _ rfl
  have Hbx := Lib.hid hbx
  have Hrow := Lib.hid hrow
  have Hb := Lib.hid hb
  have Hs := Lib.hid hs
  have Hz := Lib.hid hz
  unfold maxLen at hc2
  clear hb hrow hbx hs hz
  go_enter Try.func32, Try.ntmps32
  go_wp2_with fail
  refine Hb.out.mono ?_
  rintro _ w1 ⟨i, b, rfl, hf, hb1⟩
  cases b with
  | false =>
    have hla := lineAt_false hf Hs.out
    have Hfin : Hid (arcsL lines t = [] ∧ tabL lines t = []) := Lib.hid (by unfold arcsL tabL; rw [hla]; exact ⟨rfl, rfl⟩)
    clear hf hla
    go_wp2_with fail
    go_ret2
    obtain ⟨e1, e2⟩ := Hfin.out
    rw [e1, e2]
    exact ⟨_, _, rfl, OwnF.nil_ _ _, OwnF.nil_ _ _, hb1⟩
  | true =>
    obtain ⟨hi, hla⟩ := lineAt_true hf
    have Hfin : Hid (arcsL lines t = (lines[i]).1.arcs ∧ tabL lines t = (lines[i]).2) := Lib.hid (by unfold arcsL tabL; rw [hla]; exact ⟨rfl, rfl⟩)
    obtain ⟨hz1, hz2⟩ := Hz.out _ (List.getElem_mem hi)
    clear hf hla Hz Hs
    have hb1L := hb1.mono hL
    have hs1 := hb1.size
    have hrow1 : RowOn cLine w1 (fun k => k < L0) (fun k => k < L0) (.slice A lines.length c) lines := Hrow.out.keep (fun p hp => hb1L.cell hp) (fun p hp => hb1L.cell hp)
    obtain ⟨ad, Aa, ca, At, ct, rfl, hadb, hcl, hya, hyc⟩ := LinesAt.line hrow1 i hi
    have Hx1 : Hid (w1.cell? ⟨(ad.add (i * 3)).block, (ad.add (i * 3)).off + 1, none⟩ = some (.slice Aa (lines[i]).1.arcs.length ca)) := Lib.hid (by have := hcl 1 _ rfl; simpa [Addr.add] using this)
    have Hx2 : Hid (w1.cell? ⟨(ad.add (i * 3)).block, (ad.add (i * 3)).off + 2, none⟩ = some (.slice At (lines[i]).2.length ct)) := Lib.hid (by have := hcl 2 _ rfl; simpa [Addr.add] using this)
    have Hya := Lib.hid (hya.more (B' := w1.heap.size) (by omega))
    have Hyc := Lib.hid (show ByC w1 w1.heap.size _ _ from hyc.mono (fun _ hk => by omega) fun _ hk => hk)
    have hblk : (ad.add (i * 3)).block < w1.heap.size := by rw [add_block]; omega
    have Hbx1 := Lib.hid (Hbx.out.below hg hb1L)
    have Hb1 := Lib.hid hb1
    clear hcl hya hyc hrow1 Hrow hb1 hb1L
    generalize (lines[i]).1.arcs = aa at *
    generalize (lines[i]).2 = ts at *
    generalize hpp : ad.add (i * 3) = pp at *
    go_upto_region 6 with fail
    refine wp_region_typed [some 21, some 22, some 23, some 24, some 25, some 26, some 27, some 28, some 29, some 30, some 31, some 32, some 33, some 34, some 35, some 36, some 37, some 38, some 39, some 4, some 5] [21, 22, 23, 24, 25, 26, 27, 28, 29, 30, 31, 32, 33, 34, 35, 36, 37, 38, 39, 4, 5]
      [Ph.is (.pointer (some ⟨g, 0, none⟩)),
        Ph.is (.pointer (some ⟨g, 0, none⟩)),
        Ph.is (.pointer (some ⟨g, 0, none⟩)),
        Ph.is (.slice (some ad) lines.length c),
        Ph.is (.int .i64 (i : Int)),
        Ph.is (.pointer (some pp)),
        Ph.is (.pointer (some pp)),
        Ph.is (.pointer (some ⟨pp.block, pp.off + 1, none⟩)),
        Ph.is (.slice Aa aa.length ca),
        Ph.ownA w1.heap.size aa,
        Ph.is (.pointer (some ⟨g, 0, none⟩)),
        Ph.is (.pointer (some ⟨g, 0, none⟩)),
        Ph.is (.pointer (some ⟨g, 0, none⟩)),
        Ph.is (.slice (some ad) lines.length c),
        Ph.is (.int .i64 (i : Int)),
        Ph.is (.pointer (some pp)),
        Ph.is (.pointer (some ⟨pp.block, pp.off + 2, none⟩)),
        Ph.is (.slice At ts.length ct),
        Ph.ownC w1.heap.size ts,
        Ph.ownA w1.heap.size aa,
        Ph.ownC w1.heap.size ts] rfl rfl (by kernel_rfl) (by kernel_rfl) ?_ ?_
    · refine ⟨?_, ?_, ?_, ?_, ?_, ?_, ?_, ?_, ?_, ?_, ?_, ?_, ?_, ?_, ?_, ?_, ?_, ?_, ?_, ?_, ?_, trivial⟩
      · -- 0: slot 21 := Op.move t0
        refine ob_yes fun f w' hb hp => ?_
        simp [PreOf, factOf, valOf, Ph.is, Ph.by_, Ph.any, Region.binds, Ph.ownA, Ph.ownC] at hp
        refine ⟨by simp [Gd, valOf, hp], ?_⟩
        refine mild_val (.pointer (some ⟨g, 0, none⟩)) ?_ rfl
        simp [execOp, evalF, hp]
      · -- 1: slot 22 := Op.nilCheck t21
        refine ob_yes fun f w' hb hp => ?_
        simp [PreOf, factOf, valOf, Ph.is, Ph.by_, Ph.any, Region.binds, Ph.ownA, Ph.ownC] at hp
        refine ⟨by simp [Gd, valOf, hp], ?_⟩
        refine mild_val (.pointer (some ⟨g, 0, none⟩)) ?_ rfl
        simp [execOp, evalF, hp, go_sem]
      · -- 2: slot 23 := Op.fieldAddr 94 t22 0
        refine ob_yes fun f w' hb hp => ?_
        simp [PreOf, factOf, valOf, Ph.is, Ph.by_, Ph.any, Region.binds, Ph.ownA, Ph.ownC] at hp
        refine ⟨by simp [Gd, valOf, hp], ?_⟩
        refine mild_val (.pointer (some ⟨g, 0, none⟩)) ?_ rfl
        simp [execOp, evalF, hp, go_sem]
      · -- 3: slot 24 := Op.load 92 t23
        refine ob_yes fun f w' hb hp => ?_
        simp [PreOf, factOf, valOf, Ph.is, Ph.by_, Ph.any, Region.binds, Ph.ownA, Ph.ownC] at hp
        refine ⟨by simp [Gd, valOf, hp], ?_⟩
        have hc := (Hbx1.out.below Hbx1.out.lt hb).cell 0 _ rfl
        refine mild_val (.slice (some ad) lines.length c) ?_ rfl
        simp [execOp, evalF, hp, hc, go_sem]
      · -- 4: slot 25 := Op.move t6
        refine ob_yes fun f w' hb hp => ?_
        simp [PreOf, factOf, valOf, Ph.is, Ph.by_, Ph.any, Region.binds, Ph.ownA, Ph.ownC] at hp
        refine ⟨by simp [Gd, valOf, hp], ?_⟩
        refine mild_val (.int .i64 (i : Int)) ?_ rfl
        simp [execOp, evalF, hp]
      · -- 5: slot 26 := Op.indexAddr 92 t24 t25
        refine ob_yes fun f w' hb hp => ?_
        simp [PreOf, factOf, valOf, Ph.is, Ph.by_, Ph.any, Region.binds, Ph.ownA, Ph.ownC] at hp
        refine ⟨by simp [Gd, valOf, hp], ?_⟩
        refine mild_val (.pointer (some pp)) ?_ rfl
        simp [execOp, evalF, hp, go_sem, hi, hpp]
        try exact fun h => absurd (h (by omega)) (by omega)
      · -- 6: slot 27 := Op.fieldAddr 98 t26 0
        refine ob_yes fun f w' hb hp => ?_
        simp [PreOf, factOf, valOf, Ph.is, Ph.by_, Ph.any, Region.binds, Ph.ownA, Ph.ownC] at hp
        refine ⟨by simp [Gd, valOf, hp], ?_⟩
        refine mild_val (.pointer (some pp)) ?_ rfl
        simp [execOp, evalF, hp, go_sem]
      · -- 7: slot 28 := Op.fieldAddr 75 t27 1
        refine ob_yes fun f w' hb hp => ?_
        simp [PreOf, factOf, valOf, Ph.is, Ph.by_, Ph.any, Region.binds, Ph.ownA, Ph.ownC] at hp
        refine ⟨by simp [Gd, valOf, hp], ?_⟩
        refine mild_val (.pointer (some ⟨pp.block, pp.off + 1, none⟩)) ?_ rfl
        simp [execOp, evalF, hp, go_sem]
      · -- 8: slot 29 := Op.load 65 t28
        refine ob_yes fun f w' hb hp => ?_
        simp [PreOf, factOf, valOf, Ph.is, Ph.by_, Ph.any, Region.binds, Ph.ownA, Ph.ownC] at hp
        refine ⟨by simp [Gd, valOf, hp], ?_⟩
        have hc := (hb.cell (p := ⟨pp.block, pp.off + 1, none⟩) hblk).trans Hx1.out
        refine mild_val (.slice Aa aa.length ca) ?_ rfl
        simp [execOp, evalF, hp, hc, go_sem]
      · -- 9: slot 30 := Op.call   value (Operand.func 69), args := #[t29], argTypes := #[65]  
        refine ob_yes fun f w' hb hp => ?_
        simp [PreOf, factOf, valOf, Ph.is, Ph.by_, Ph.any, Region.binds, Ph.ownA, Ph.ownC] at hp
        refine ⟨by simp [Gd, valOf, hp], ?_⟩
        refine mild_call 69 _ _ Try.f69 Try.func69 (by kernel_rfl) (by kernel_rfl) rfl ?_
        simp [evalF, hp, Ph.is, Ph.by_, Ph.any, Ph.ownA, Ph.ownC]
        refine (cloneA w' _ aa (Hya.out.step hb) (by omega)).mono ?_
        rintro _ w7 ⟨v7, rfl, ho, hb7⟩
        exact ⟨_, rfl, hb7, ho.more hb.size⟩
      · -- 10: slot 31 := Op.move t0
        refine ob_yes fun f w' hb hp => ?_
        simp [PreOf, factOf, valOf, Ph.is, Ph.by_, Ph.any, Region.binds, Ph.ownA, Ph.ownC] at hp
        refine ⟨by simp [Gd, valOf, hp], ?_⟩
        refine mild_val (.pointer (some ⟨g, 0, none⟩)) ?_ rfl
        simp [execOp, evalF, hp]
      · -- 11: slot 32 := Op.nilCheck t31
        refine ob_yes fun f w' hb hp => ?_
        simp [PreOf, factOf, valOf, Ph.is, Ph.by_, Ph.any, Region.binds, Ph.ownA, Ph.ownC] at hp
        refine ⟨by simp [Gd, valOf, hp], ?_⟩
        refine mild_val (.pointer (some ⟨g, 0, none⟩)) ?_ rfl
        simp [execOp, evalF, hp, go_sem]
      · -- 12: slot 33 := Op.fieldAddr 94 t32 0
        refine ob_yes fun f w' hb hp => ?_
        simp [PreOf, factOf, valOf, Ph.is, Ph.by_, Ph.any, Region.binds, Ph.ownA, Ph.ownC] at hp
        refine ⟨by simp [Gd, valOf, hp], ?_⟩
        refine mild_val (.pointer (some ⟨g, 0, none⟩)) ?_ rfl
        simp [execOp, evalF, hp, go_sem]
      · -- 13: slot 34 := Op.load 92 t33
        refine ob_yes fun f w' hb hp => ?_
        simp [PreOf, factOf, valOf, Ph.is, Ph.by_, Ph.any, Region.binds, Ph.ownA, Ph.ownC] at hp
        refine ⟨by simp [Gd, valOf, hp], ?_⟩
        have hc := (Hbx1.out.below Hbx1.out.lt hb).cell 0 _ rfl
        refine mild_val (.slice (some ad) lines.length c) ?_ rfl
        simp [execOp, evalF, hp, hc, go_sem]
      · -- 14: slot 35 := Op.move t6
        refine ob_yes fun f w' hb hp => ?_
        simp [PreOf, factOf, valOf, Ph.is, Ph.by_, Ph.any, Region.binds, Ph.ownA, Ph.ownC] at hp
        refine ⟨by simp [Gd, valOf, hp], ?_⟩
        refine mild_val (.int .i64 (i : Int)) ?_ rfl
        simp [execOp, evalF, hp]
      · -- 15: slot 36 := Op.indexAddr 92 t34 t35
        refine ob_yes fun f w' hb hp => ?_
        simp [PreOf, factOf, valOf, Ph.is, Ph.by_, Ph.any, Region.binds, Ph.ownA, Ph.ownC] at hp
        refine ⟨by simp [Gd, valOf, hp], ?_⟩
        refine mild_val (.pointer (some pp)) ?_ rfl
        simp [execOp, evalF, hp, go_sem, hi, hpp]
        try exact fun h => absurd (h (by omega)) (by omega)
      · -- 16: slot 37 := Op.fieldAddr 98 t36 1
        refine ob_yes fun f w' hb hp => ?_
        simp [PreOf, factOf, valOf, Ph.is, Ph.by_, Ph.any, Region.binds, Ph.ownA, Ph.ownC] at hp
        refine ⟨by simp [Gd, valOf, hp], ?_⟩
        refine mild_val (.pointer (some ⟨pp.block, pp.off + 2, none⟩)) ?_ rfl
        simp [execOp, evalF, hp, go_sem]
      · -- 17: slot 38 := Op.load 66 t37
        refine ob_yes fun f w' hb hp => ?_
        simp [PreOf, factOf, valOf, Ph.is, Ph.by_, Ph.any, Region.binds, Ph.ownA, Ph.ownC] at hp
        refine ⟨by simp [Gd, valOf, hp], ?_⟩
        have hc := (hb.cell (p := ⟨pp.block, pp.off + 2, none⟩) hblk).trans Hx2.out
        refine mild_val (.slice At ts.length ct) ?_ rfl
        simp [execOp, evalF, hp, hc, go_sem]
      · -- 18: slot 39 := Op.call   value (Operand.func 70), args := #[t38], argTypes := #[66]  
        refine ob_yes fun f w' hb hp => ?_
        simp [PreOf, factOf, valOf, Ph.is, Ph.by_, Ph.any, Region.binds, Ph.ownA, Ph.ownC] at hp
        refine ⟨by simp [Gd, valOf, hp], ?_⟩
        refine mild_call 70 _ _ Try.f70 Try.func70 (by kernel_rfl) (by kernel_rfl) rfl ?_
        simp [evalF, hp, Ph.is, Ph.by_, Ph.any, Ph.ownA, Ph.ownC]
        refine (cloneC w' _ ts (Hyc.out.step hb) (by omega)).mono ?_
        rintro _ w7 ⟨v7, rfl, ho, hb7⟩
        exact ⟨_, rfl, hb7, ho.more hb.size⟩
      · -- 19: slot 4 := Op.assign t30
        refine ob_yes fun f w' hb hp => ?_
        simp [PreOf, factOf, valOf, Ph.is, Ph.by_, Ph.any, Region.binds, Ph.ownA, Ph.ownC] at hp
        refine ⟨by simp [Gd, valOf, hp], ?_⟩
        exact mild_val (f 30) (by simp [execOp, evalF]) hp.1
      · -- 20: slot 5 := Op.assign t39
        refine ob_yes fun f w' hb hp => ?_
        simp [PreOf, factOf, valOf, Ph.is, Ph.by_, Ph.any, Region.binds, Ph.ownA, Ph.ownC] at hp
        refine ⟨by simp [Gd, valOf, hp], ?_⟩
        exact mild_val (f 39) (by simp [execOp, evalF]) hp.1
    · intro f w2 hb2 hp
      simp only [PostOf, Ph.is, Ph.by_, Ph.any, Ph.ownA, Ph.ownC] at hp
      obtain ⟨h0, h1, h2, h3, h4, h5, h6, h7, h8, h9, h10, h11, h12, h13, h14, h15, h16, h17, h18, h19, h20, _⟩ := hp
      simp only [fills, List.foldl_cons, List.foldl_nil, Act.put, List.setIfInBounds_toArray, List.set_cons_zero, List.set_cons_succ, h0, h1, h2, h3, h4, h5, h6, h7, h8, h10, h11, h12, h13, h14, h15, h16, h17]
      clear h0 h1 h2 h3 h4 h5 h6 h7 h8 h10 h11 h12 h13 h14 h15 h16 h17
      generalize f 30 = v30 at *
      generalize f 39 = v39 at *
      generalize f 4 = v4 at *
      generalize f 5 = v5 at *
      go_wp2_with fail
      go_ret2
      obtain ⟨e1, e2⟩ := Hfin.out
      rw [e1, e2]
      exact ⟨_, _, rfl, h19.more Hb1.out.size, h20.more Hb1.out.size, bstep Hb1.out hb2⟩
end Go.Proofs.Ythfnikdapknohaa

namespace Go.Proofs.Ythfnikdapknohaa
set_option linter.unusedSimpArgs false
set_option linter.unusedVariables false
open Go.RowKit

theorem lineAt_withT (l : List GRow) (x : UInt32) : lineAt (withT l) x.toNat = (l.find? fun r => r.fr == x).map fun r => (r, btab r.arcs) := by
  unfold lineAt withT
  rw [List.find?_map]
  congr 2
  funext r
  simp only [Function.comp]
  rw [Bool.eq_iff_iff]
  simp only [decide_eq_true_eq, beq_iff_eq]
  exact ⟨fun h => UInt32.toNat_inj.1 h, fun h => by rw [h]⟩
theorem arcsL_withT (l : List GRow) (x : UInt32) : arcsL (withT l) x.toNat = arcsOf l x := by
  unfold arcsL arcsOf
  rw [lineAt_withT]
  cases l.find? (fun r => r.fr == x) <;> rfl
theorem fr_rise (l : List GRow) (h : newE none l = 0) : ∀ i j, (hi : i < j) → (hj : j < l.length) → (l[i]'(by omega)).fr.toNat < (l[j]).fr.toNat := by
  intro i j hi hj
  induction j with
  | zero => omega
  | succ j ih =>
    have h1 := (newE_row l (j + 1) hj h).2
    have h2 : nxt 0 (l.take (j + 1)) = (l[j]).fr.toNat + 1 := by
      rw [List.take_succ_eq_append_getElem (by omega), nxt_snoc]
    rw [h2] at h1
    rcases Nat.lt_or_ge i j with h | h
    · have := ih h (by omega); omega
    · obtain rfl : i = j := by omega
      omega
theorem withT_rise (l : List GRow) (h : newE none l = 0) : ∀ i j, (hi : i < j) → (hj : j < (withT l).length) → ((withT l)[i]'(by omega)).1.fr.toNat < ((withT l)[j]).1.fr.toNat := by
  intro i j hi hj
  have hl : (withT l).length = l.length := by simp [withT]
  have := fr_rise l h i j hi (by omega)
  simpa [withT] using this
theorem find_row (l : List GRow) (h : newE none l = 0) (k : Nat) (hk : k < l.length) : l.find? (fun r => r.fr == (l[k]).fr) = some l[k] := by
  rw [List.find?_eq_some_iff_getElem]
  refine ⟨by simp, k, hk, rfl, fun j hj => ?_⟩
  have := fr_rise l h j k hj hk
  simp only [Bool.not_eq_true', beq_eq_false_iff_ne]
  intro e
  rw [e] at this
  omega
theorem arcsL_row (l : List GRow) (h : newE none l = 0) (k : Nat) (hk : k < l.length) : arcsL (withT l) (l[k]).fr.toNat = (l[k]).arcs := by
  unfold arcsL
  rw [lineAt_withT, find_row l h k hk]
  rfl
theorem tabL_row (l : List GRow) (h : newE none l = 0) (k : Nat) (hk : k < l.length) : tabL (withT l) (l[k]).fr.toNat = btab (l[k]).arcs := by
  unfold tabL
  rw [lineAt_withT, find_row l h k hk]
  rfl
theorem row_arcs_le (l : List GRow) (x : GRow) (hx : x ∈ l) : x.arcs.length ≤ rsz l := by
  induction l with
  | nil => cases hx
  | cons a t ih =>
    have e : rsz (a :: t) = a.arcs.length + 1 + rsz t := by simp [rsz]
    rcases List.mem_cons.1 hx with rfl | hx
    · omega
    · have := ih hx; omega
theorem row_nbrs (l : List GRow) (h : newE none l = 0) (x : GRow) (hx : x ∈ l) : nbrs x.arcs = true := by
  obtain ⟨k, hk, rfl⟩ := List.mem_iff_getElem.1 hx
  exact (newE_row l k hk h).1
theorem btab_row (l : List GRow) (h : newE none l = 0) (hs : rsz l ≤ 1048576) (x : GRow) (hx : x ∈ l) : (btab x.arcs).length = x.arcs.length :=
  btab_len _ (by have := row_arcs_le l x hx; omega) (gmay_sum' (nbrs_gmay (row_nbrs l h x hx)).1)
theorem tabL_len (l : List GRow) (h : newE none l = 0) (hs : rsz l ≤ 1048576) (x : UInt32) : (tabL (withT l) x.toNat).length = (arcsOf l x).length := by
  unfold tabL arcsOf
  rw [lineAt_withT]
  cases hf : l.find? (fun r => r.fr == x) with
  | none => rfl
  | some r => exact btab_row l h hs r (List.mem_of_find?_eq_some hf)

/-- a row, of a block of one's own, in which each element has a number in cell o -/
def WBox (T : TypeId) (K : IntKind) (m o lo : Nat) (A : Option Addr) (n : Nat) (W : World) : Prop :=
  n = 0 ∨ ∃ g cs, A = some ⟨g, 0, none⟩ ∧ lo ≤ g ∧ BoxAt T W g cs ∧ ∀ k, k < n → ∃ x : Int, cs[k * m + o]? = some (.int K x)
theorem WBox.below {T : TypeId} {K : IntKind} {m o lo n : Nat} {A : Option Addr} {W W' : World} (h : WBox T K m o lo A n W) (hb : Below W.heap.size W W') : WBox T K m o lo A n W' := by
  rcases h with h | ⟨g, cs, h1, h2, h3, h4⟩
  · exact .inl h
  · exact .inr ⟨g, cs, h1, h2, h3.below h3.lt hb, h4⟩
theorem WBox.at_ {T : TypeId} {K : IntKind} {m o lo n : Nat} {A : Option Addr} {W : World} (h : WBox T K m o lo A n W) (k : Nat) (hk : k < n) :
    ∃ g x, A = some ⟨g, 0, none⟩ ∧ lo ≤ g ∧ g < W.heap.size ∧ (∃ cs, BoxAt T W g cs) ∧ W.cell? ⟨g, k * m + o, none⟩ = some (.int K x) ∧ W.frozen? ⟨g, k * m + o, none⟩ = false ∧
      ∀ y, WBox T K m o lo A n (W.setCell ⟨g, k * m + o, none⟩ (.int K y)) := by
  rcases h with h | ⟨g, cs, h1, h2, h3, h4⟩
  · omega
  · obtain ⟨x, hx⟩ := h4 k hk
    refine ⟨g, x, h1, h2, h3.lt, ⟨cs, h3⟩, h3.cell _ _ hx, h3.frozen _, fun y => .inr ⟨g, _, h1, h2, h3.put _ _, fun j hj => ?_⟩⟩
    by_cases e : j * m + o = k * m + o
    · rw [e]
      refine ⟨y, ?_⟩
      rw [List.getElem?_set_self (by
        rcases Nat.lt_or_ge (k * m + o) cs.length with h | h
        · exact h
        · rw [List.getElem?_eq_none h] at hx; cases hx)]
    · obtain ⟨z, hz⟩ := h4 j hj
      exact ⟨z, by rw [List.getElem?_set_ne (fun h => e h.symm)]; exact hz⟩
theorem WBox.other {T T2 : TypeId} {K : IntKind} {m o lo n : Nat} {A : Option Addr} {W : World} (h : WBox T K m o lo A n W) (hT : T2 ≠ T) {g : Nat} {cs : List Value} (hg : BoxAt T2 W g cs) (j : Nat) (v : Value) : WBox T K m o lo A n (W.setCell ⟨g, j, none⟩ v) := by
  rcases h with h | ⟨g', cs', h1, h2, h3, h4⟩
  · exact .inl h
  · refine .inr ⟨g', cs', h1, h2, h3.other _ _ (fun e => ?_), h4⟩
    simp only at e
    subst e
    have := hg.symm.trans h3
    injection this with this
    injection this with _ e _
    exact hT e
theorem WBox.ofA {W : World} {base : Nat} {A : Option Addr} {c : Nat} {l : List GArc} (h : OwnF 70 cArc W base (.slice A l.length c) l) : WBox 70 .u32 2 1 base A l.length W := by
  obtain ⟨css, hl, ⟨h1, h2⟩, h3, h4⟩ := h
  have hcl := OwnR.clen hl h3
  rcases h2 with ⟨e, hn⟩ | ⟨g, cap, cur, e, hg, h5, h6, h7, h8, h9⟩
  · exact .inl hn
  · injection e with e _ _
    refine .inr ⟨g, cur.toList, e, hg, by simpa [BoxAt] using h5, fun k hk => ?_⟩
    obtain ⟨cs, hcs⟩ : ∃ cs, css[k]? = some cs := ⟨_, List.getElem?_eq_getElem (by omega)⟩
    obtain ⟨rfl, _⟩ := h3 k cs l[k] hcs (List.getElem?_eq_getElem hk)
    have := flat_get 2 css hcl k _ 1 hcs (by omega)
    refine ⟨((l[k]).wt.toNat : Int), ?_⟩
    have h10 : (cur.toList.take (l.length * cArc.n))[k * 2 + 1]? = some (.int .u32 ((l[k]).wt.toNat : Int)) := by rw [h9]; exact this
    rw [List.getElem?_take] at h10
    split at h10
    · exact h10
    · cases h10
theorem WBox.ofC {W : World} {base : Nat} {A : Option Addr} {c : Nat} {l : List GCell} (h : OwnF 73 cCell W base (.slice A l.length c) l) : WBox 73 .u64 2 0 base A l.length W := by
  obtain ⟨css, hl, ⟨h1, h2⟩, h3, h4⟩ := h
  have hcl := OwnR.clen hl h3
  rcases h2 with ⟨e, hn⟩ | ⟨g, cap, cur, e, hg, h5, h6, h7, h8, h9⟩
  · exact .inl hn
  · injection e with e _ _
    refine .inr ⟨g, cur.toList, e, hg, by simpa [BoxAt] using h5, fun k hk => ?_⟩
    obtain ⟨cs, hcs⟩ : ∃ cs, css[k]? = some cs := ⟨_, List.getElem?_eq_getElem (by omega)⟩
    obtain ⟨rfl, _⟩ := h3 k cs l[k] hcs (List.getElem?_eq_getElem hk)
    have := flat_get 2 css hcl k _ 0 hcs (by omega)
    refine ⟨((l[k]).cut.toNat : Int), ?_⟩
    have h10 : (cur.toList.take (l.length * cCell.n))[k * 2 + 0]? = some (.int .u64 ((l[k]).cut.toNat : Int)) := by rw [h9]; exact this
    rw [List.getElem?_take] at h10
    split at h10
    · exact h10
    · cases h10
end Go.Proofs.Ythfnikdapknohaa

namespace Go.Proofs.Ythfnikdapknohaa
set_option linter.unusedSimpArgs false
set_option linter.unusedVariables false
open Go.RowKit

set_option maxRecDepth 100000 in
set_option maxHeartbeats 800000 in
theorem sfind1_any (w : World) (a x y b : Nat) (ha : a < 4294967296) (hb : b < 4294967296) : Calls Try.prog 65 #[.agg #[.int .u32 (a : Int), .int .u32 (x : Int), .int .u32 (y : Int)], .int .u32 (b : Int)] w fun e w' => e = .returned (.int .i64 (cmp3 a b)) ∧ Below w.heap.size w w' := by
  have hc := fun W => compare32 W a b ha hb
  have Hc := Lib.hid hc
  clear hc
  generalize cmp3 a b = c at *
  go_enter Try.func65, Try.ntmps65
  go_wp2_with fail
  refine (Hc.out _).mono ?_
  rintro _ _ ⟨rfl, rfl⟩
  go_wp2_with fail
  go_ret
  exact ⟨rfl, balloc _ _⟩
/-- where an end stands among rising ones -/
def FoundS (l : List GSpan) (t : Nat) (i : Nat) (b : Bool) : Prop :=
  i ≤ l.length ∧ (∀ j, (h : j < l.length) → j < i → (l[j]).low.toNat < t) ∧ (∀ j, (h : j < l.length) → i ≤ j → t ≤ (l[j]).low.toNat) ∧ b = decide (∃ h : i < l.length, (l[i]).low.toNat = t)
set_option maxRecDepth 100000 in
set_option maxHeartbeats 1600000 in
theorem sbsf_any (w : World) (B : Nat) (v : Value) (l : List GSpan) (hl : l.length ≤ 4294967296) (t : Nat) (ht : t < 4294967296) (h : ByS w B v l) (hB : B ≤ w.heap.size) (hs : ∀ i j, (hi : i < j) → (hj : j < l.length) → (l[i]'(by omega)).low.toNat < (l[j]).low.toNat) :
    Calls Try.prog 64 #[v, .int .u32 (t : Int), .func (.func 65) #[] #[]] w fun e w' => ∃ i b, e = .returned (.tuple #[.int .i64 (i : Nat), .bool b]) ∧ FoundS l t i b ∧ Below w.heap.size w w' := by
  obtain ⟨A, c, rfl, hc1, hc2⟩ := h.form
  unfold maxLen at hc2
  have Hs := Lib.hid hs
  clear hs
  go_enter Try.func64, Try.ntmps64
  go_wp2_with fail
  go_loopw [9, 10] (fun lo hi wr => ∃ a b : Nat, lo = .int .i64 a ∧ hi = .int .i64 b ∧ a ≤ b ∧ b ≤ l.length ∧ (∀ j, (h : j < l.length) → j < a → (l[j]).low.toNat < t) ∧ (∀ j, (h : j < l.length) → b ≤ j → t ≤ (l[j]).low.toNat) ∧ Below w.heap.size w wr) (fun lo hi _ => (intOf hi).toNat - (intOf lo).toNat)
  case atStart => exact ⟨0, l.length, rfl, rfl, by omega, by omega, fun j _ hj => by omega, fun j hj1 hj2 => by omega, Below.refl _ _⟩
  case round =>
    obtain ⟨a, b, rfl, rfl, hab, hbn, hlo, hhi, hbl⟩ := hrel
    have hsz := hbl.size
    have Hlo := Lib.hid hlo
    have Hhi := Lib.hid hhi
    clear hlo hhi
    by_cases hlt : a < b
    · obtain ⟨m, hm⟩ : ∃ m, m = (a + b) / 2 := ⟨_, rfl⟩
      have hmi : ((a : Int) + (b : Int)) / 2 = ((m : Nat) : Int) := by omega
      have hml : m < l.length := by omega
      obtain ⟨ad, rfl, hadb, hx0, hx1, hx2⟩ := (h.below (hbl.mono hB)).cells m hml
      have hto := u32_lt (l[m]).low
      have hf := fun W => sfind1_any W (l[m]).low.toNat (l[m]).rows.toNat (l[m]).size.toNat t hto ht
      have Hf := Lib.hid hf
      have hcm : cmp3 (l[m]).low.toNat t = if (l[m]).low.toNat < t then -1 else if t < (l[m]).low.toNat then 1 else 0 := rfl
      have hlow : (l[m]).low.toNat < t → ∀ j, (h : j < l.length) → j < m + 1 → (l[j]).low.toNat < t := fun hl j hj hjm => by
        rcases Nat.lt_or_ge j m with h | h
        · have := Hs.out j m h hml; omega
        · obtain rfl : j = m := by omega
          exact hl
      have hhigh : ¬ (l[m]).low.toNat < t → ∀ j, (h : j < l.length) → m ≤ j → t ≤ (l[j]).low.toNat := fun hl j hj hjm => by
        rcases Nat.lt_or_ge m j with h | h
        · have := Hs.out m j h hj; omega
        · obtain rfl : j = m := by omega
          omega
      have Hlow := Lib.hid hlow
      have Hhigh := Lib.hid hhigh
      have Hcm := Lib.hid hcm
      have Hm := Lib.hid hm
      clear hf hlow hhigh hcm hm
      generalize cmp3 (l[m]).low.toNat t = C at *
      generalize (l[m]).rows.toNat = wx at *
      generalize (l[m]).size.toNat = wy at *
      generalize (l[m]).low.toNat = x at *
      by_cases hcase : x < t
      · have hC : C = -1 := by rw [Hcm.out, if_pos hcase]
        subst hC
        have hlow := Hlow.out hcase
        have Hlow2 := Lib.hid hlow
        clear hlow hcase Hcm Hhigh Hlow
        go_wp2_with (go_at_call 65; refine (Hf.out _).mono ?_; rintro _ w1 ⟨rfl, hb1⟩)
        go_roundw
        case rel => exact ⟨m + 1, b, by go_num, rfl, by have := Hm.out; omega, hbn, Hlow2.out, Hhi.out, bstep hbl hb1⟩
        case measure => have := Hm.out; simp [intOf]; omega
      · have hC : C = 0 ∨ C = 1 := by
          rw [Hcm.out, if_neg hcase]
          split
          · right; rfl
          · left; rfl
        have hhigh := Hhigh.out hcase
        have Hhigh2 := Lib.hid hhigh
        clear hhigh hcase Hcm Hhigh Hlow
        rcases hC with rfl | rfl
        all_goals
          go_wp2_with (go_at_call 65; refine (Hf.out _).mono ?_; rintro _ w1 ⟨rfl, hb1⟩)
          go_roundw
          case rel => exact ⟨a, m, rfl, by go_num, by have := Hm.out; omega, by omega, Hlo.out, Hhigh2.out, bstep hbl hb1⟩
          case measure => have := Hm.out; simp [intOf]; omega
    · obtain rfl : b = a := by omega
      by_cases hbl2 : b < l.length
      · obtain ⟨ad, rfl, hadb, hx0, hx1, hx2⟩ := (h.below (hbl.mono hB)).cells b hbl2
        have hto := u32_lt (l[b]).low
        have hf := fun W => sfind1_any W (l[b]).low.toNat (l[b]).rows.toNat (l[b]).size.toNat t hto ht
        have Hf := Lib.hid hf
        have hcm : cmp3 (l[b]).low.toNat t = if (l[b]).low.toNat < t then -1 else if t < (l[b]).low.toNat then 1 else 0 := rfl
        have hge := Hhi.out b hbl2 (Nat.le_refl _)
        have hfd : FoundS l t b (decide (∃ h : b < l.length, (l[b]).low.toNat = t)) := ⟨hbn, Hlo.out, Hhi.out, rfl⟩
        rw [if_neg (by omega)] at hcm
        have hdec : decide (∃ h : b < l.length, (l[b]).low.toNat = t) = decide ((l[b]).low.toNat = t) := decide_eq_decide.2 ⟨fun ⟨_, h⟩ => h, fun h => ⟨hbl2, h⟩⟩
        rw [hdec] at hfd
        have Hfd := Lib.hid hfd
        clear hf hdec hfd
        generalize cmp3 (l[b]).low.toNat t = C at *
        generalize (l[b]).rows.toNat = wx at *
        generalize (l[b]).size.toNat = wy at *
        generalize (l[b]).low.toNat = x at *
        by_cases hcase : t < x
        · rw [if_pos hcase] at hcm
          subst hcm
          have hD : decide (x = t) = false := by simp; omega
          rw [hD] at Hfd
          clear hcase hD hge
          go_wp2_with (go_at_call 65; refine (Hf.out _).mono ?_; rintro _ w1 ⟨rfl, hb1⟩)
          go_ret2
          exact ⟨b, _, rfl, Hfd.out, bstep hbl hb1⟩
        · rw [if_neg hcase] at hcm
          subst hcm
          have hD : decide (x = t) = true := by simp; omega
          rw [hD] at Hfd
          clear hcase hD hge
          go_wp2_with (go_at_call 65; refine (Hf.out _).mono ?_; rintro _ w1 ⟨rfl, hb1⟩)
          go_ret2
          exact ⟨b, _, rfl, Hfd.out, bstep hbl hb1⟩
      · have hfd : FoundS l t b (decide (∃ h : b < l.length, (l[b]).low.toNat = t)) := ⟨hbn, Hlo.out, Hhi.out, rfl⟩
        rw [decide_eq_false (fun ⟨h, _⟩ => hbl2 h)] at hfd
        have Hfd := Lib.hid hfd
        have hd : decide (b < l.length) = false := by simpa using hbl2
        clear hfd
        go_wp2_with fail
        go_ret2
        exact ⟨b, _, rfl, Hfd.out, hbl⟩


/-- where the vertex is: the last span whose Low is not above it -/
def FindS (l : List GSpan) (v : Nat) (at_ : Nat) : Prop := (at_ < l.length ∨ (at_ = 0 ∧ l = [])) ∧ (∀ j, (h : j < l.length) → at_ < j → v < (l[j]).low.toNat) ∧ (∀ h : at_ < l.length, 0 < at_ → (l[at_]).low.toNat ≤ v)
set_option maxRecDepth 100000 in
set_option maxHeartbeats 800000 in
theorem sfind_any (w : World) (B : Nat) (v : Value) (l : List GSpan) (hl : l.length ≤ 4294967296) (t : Nat) (ht : t < 4294967296) (h : ByS w B v l) (hB : B ≤ w.heap.size) (hs : ∀ i j, (hi : i < j) → (hj : j < l.length) → (l[i]'(by omega)).low.toNat < (l[j]).low.toNat) :
    Calls Try.prog 30 #[v, .int .u32 (t : Int)] w fun e w' => ∃ i, e = .returned (.tuple #[.int .i64 (i : Nat), .bool (decide (0 < l.length))]) ∧ FindS l t i ∧ Below w.heap.size w w' := by
  have hs0 := hs
  have hs := sbsf_any w B v l hl t ht h hB hs
  have Hs := Lib.hid hs
  obtain ⟨A, c, rfl, hc1, hc2⟩ := h.form
  clear hs h
  go_enter Try.func30, Try.ntmps30
  go_wp2_with fail
  refine Hs.out.mono ?_
  rintro _ w1 ⟨i, b, rfl, hf, hb1⟩
  obtain ⟨f1, f2, f3, f4⟩ := hf
  unfold maxLen at hc2
  cases b with
  | true =>
    obtain ⟨hi, he⟩ := of_decide_eq_true f4.symm
    have hfin : Hid (FindS l t i) := Lib.hid ⟨.inl hi, fun j hj hij => by have := hs0 i j hij hj; omega, fun _ _ => by omega⟩
    clear f2 f3 f4 he
    go_wp2_with fail
    go_ret2
    exact ⟨i, rfl, hfin.out, hb1⟩
  | false =>
    by_cases hi0 : i = 0
    · subst hi0
      have hfin : Hid (FindS l t 0) := Lib.hid ⟨by cases l with | nil => exact .inr ⟨rfl, rfl⟩ | cons => exact .inl (by simp), fun j hj hij => by
        have h1 := f3 j hj (by omega)
        have h2 : (l[0]'(by omega)).low.toNat < (l[j]).low.toNat := hs0 0 j hij hj
        have h3 := f3 0 (by omega) (by omega)
        omega, fun _ h => by omega⟩
      clear f2 f3 f4
      have hmx : max (0 : Int) (-1) = 0 := by decide
      go_wp2_with fail
      go_ret2
      exact ⟨0, rfl, hfin.out, hb1⟩
    · obtain ⟨k, rfl⟩ : ∃ k, i = k + 1 := ⟨i - 1, by omega⟩
      have hfin : Hid (FindS l t k) := Lib.hid ⟨.inl (by omega), fun j hj hij => by
        have h1 := f3 j hj (by omega)
        have h0 : (l[j]).low.toNat ≠ t := fun e => by
          rcases Nat.lt_or_ge (k + 1) j with h | h
          · have h2 : (l[k + 1]'(by omega)).low.toNat < (l[j]).low.toNat := hs0 (k + 1) j h hj
            have h3 := f3 (k + 1) (by omega) (by omega)
            omega
          · obtain rfl : j = k + 1 := by omega
            have := decide_eq_true (p := ∃ h : k + 1 < l.length, (l[k + 1]).low.toNat = t) ⟨hj, e⟩
            rw [this] at f4
            cases f4
        omega, fun h _ => by have := f2 k h (by omega); omega⟩
      clear f2 f3 f4
      have hmx : max (0 : Int) (k : Int) = (k : Int) := by omega
      have hk1 : ((k + 1 : Nat) : Int) - 1 = (k : Int) := by omega
      have hk2 : (k : Int) + 1 - 1 = (k : Int) := by omega
      go_wp2_with fail
      go_ret2
      exact ⟨k, rfl, hfin.out, hb1⟩
theorem findS_uniq {l : List GSpan} {v a b : Nat} (ha : FindS l v a) (hb : FindS l v b) : a = b := by
  obtain ⟨a1, a2, a3⟩ := ha
  obtain ⟨b1, b2, b3⟩ := hb
  rcases a1 with a1 | ⟨rfl, rfl⟩
  · rcases b1 with b1 | ⟨rfl, rfl⟩
    · rcases Nat.lt_trichotomy a b with h | h | h
      · have h1 := a2 b b1 h
        have h2 := b3 b1 (by omega)
        omega
      · exact h
      · have h1 := b2 a a1 h
        have h2 := a3 a1 (by omega)
        omega
    · simp at a1
  · rcases b1 with b1 | ⟨rfl, _⟩
    · simp at b1
    · rfl
set_option maxRecDepth 100000 in
set_option maxHeartbeats 800000 in
theorem rfind_any (w : World) (B : Nat) (v : Value) (l : List GSpan) (hl : l.length ≤ 4294967296) (t : Nat) (ht : t < 4294967296) (h : ByS w B v l) (hB : B ≤ w.heap.size) (hs : ∀ i j, (hi : i < j) → (hj : j < l.length) → (l[i]'(by omega)).low.toNat < (l[j]).low.toNat) :
    Calls Try.prog 31 #[v, .int .u32 (t : Int)] w fun e w' => ∃ i, e = .returned (.tuple #[.int .i64 (i : Nat), .bool (decide (0 < l.length))]) ∧ FindS l t i ∧ Below w.heap.size w w' := by
  obtain ⟨A, c, rfl, hc1, hc2⟩ := h.form
  unfold maxLen at hc2
  have Hs := Lib.hid hs
  clear hs
  go_enter Try.func31, Try.ntmps31
  go_wp2_with fail
  go_loopw [6, 10] (fun at_ i wr => ∃ k a : Nat, k ≤ l.length ∧ i = .int .i64 k ∧ at_ = .int .i64 a ∧ (a < k ∨ (a = 0 ∧ k = 0)) ∧ (∀ j, (h : j < l.length) → a < j → j < k → t < (l[j]).low.toNat) ∧ (∀ h : a < l.length, 0 < a → (l[a]).low.toNat ≤ t) ∧ ∃ q, wr = w.drewN q) (fun _ i _ => l.length - (intOf i).toNat)
  case atStart => exact ⟨0, 0, by omega, rfl, rfl, .inr ⟨rfl, rfl⟩, fun j _ h1 h2 => by omega, fun _ h => by omega, 0, rfl⟩
  case round =>
    obtain ⟨k, a, hk, rfl, rfl, ha, h1, h2, q, rfl⟩ := hrel
    by_cases hlt : k < l.length
    · obtain ⟨ad, rfl, hab, hx0, hx1, hx2⟩ := (show ByS (w.drewN q) B (.slice A l.length c) l from h).cells k hlt
      have hlo := u32_lt (l[k]).low
      have hlow : (l[k]).low.toNat ≤ t → ∀ j, (h : j < l.length) → j < k → (l[j]).low.toNat ≤ t := fun hh j hj hjk => by have := Hs.out j k hjk hlt; omega
      by_cases hle : (l[k]).low.toNat ≤ t
      · have H1 : Hid ((∀ j, (h : j < l.length) → k < j → j < k + 1 → t < (l[j]).low.toNat) ∧ (∀ h : k < l.length, 0 < k → (l[k]).low.toNat ≤ t)) := Lib.hid ⟨fun j _ _ _ => by omega, fun _ _ => hle⟩
        clear h1 h2 hlow
        generalize (l[k]).low.toNat = y at *
        have hd1 : decide (y ≤ t) = true := decide_eq_true hle
        have hd2 : decide ((y : Int) ≤ (t : Int)) = true := decide_eq_true (by omega)
        go_wp2_with fail
        go_roundw
        case rel => exact ⟨k + 1, k, by omega, by go_num, rfl, .inl (by omega), H1.out.1, H1.out.2, q, rfl⟩
        case measure => simp [intOf]; omega
      · have H1 : Hid ((∀ j, (h : j < l.length) → a < j → j < k + 1 → t < (l[j]).low.toNat) ∧ (∀ h : a < l.length, 0 < a → (l[a]).low.toNat ≤ t)) := Lib.hid ⟨fun j hj hj1 hj2 => by
          rcases Nat.lt_or_ge j k with h | h
          · exact h1 j hj hj1 h
          · obtain rfl : j = k := by omega
            omega, h2⟩
        clear h1 h2 hlow
        generalize (l[k]).low.toNat = y at *
        have hd1 : decide (y ≤ t) = false := decide_eq_false hle
        have hd2 : decide ((y : Int) ≤ (t : Int)) = false := decide_eq_false (by omega)
        go_wp2_with fail
        go_roundw
        case rel => exact ⟨k + 1, a, by omega, by go_num, rfl, ha.elim (fun h => .inl (by omega)) (fun h => .inl (by omega)), H1.out.1, H1.out.2, q, rfl⟩
        case measure => simp [intOf]; omega
    · obtain rfl : k = l.length := by omega
      have hfin : Hid (FindS l t a) := Lib.hid ⟨ha.imp id fun h => ⟨h.1, List.length_eq_zero_iff.1 h.2⟩, fun j hj hj1 => h1 j hj hj1 hj, h2⟩
      clear h1 h2
      go_wp2_with fail
      go_ret2
      exact ⟨a, rfl, hfin.out, by first | exact bdrewN (Below.refl _ _) _ | exact Below.refl _ _⟩
end Go.Proofs.Ythfnikdapknohaa

namespace Go.Proofs.Ythfnikdapknohaa
set_option linter.unusedSimpArgs false
set_option linter.unusedVariables false
open Go.RowKit

theorem shut_flat (done : List (List GRow)) (cur : List GRow) : (shut done cur).flatten = done.flatten ++ cur := by
  unfold shut
  split
  · rename_i h; subst h; simp
  · simp
theorem cutR_flat (size : Nat) : ∀ (t : List GRow) (done : List (List GRow)) (cur : List GRow) (outs : List (List GRow)), cutR size done cur t = some outs → outs.flatten = done.flatten ++ cur ++ t
  | [], done, cur, outs, h => by
    rw [cutR_nil] at h
    injection h with h
    subst h
    rw [shut_flat, List.append_nil]
  | r :: t, done, cur, outs, h => by
    rw [cutR_cons] at h
    split at h
    · rw [cutR_flat size t done _ outs h]; simp
    · split at h
      · cases h
      · rw [cutR_flat size t _ _ outs h, shut_flat]; simp
theorem cutR_size (size : Nat) : ∀ (t : List GRow) (done : List (List GRow)) (cur : List GRow) (outs : List (List GRow)), cutR size done cur t = some outs → (∀ x ∈ done, (senc x).length ≤ size) → (cur ≠ [] → (senc cur).length ≤ size) → ∀ x ∈ outs, (senc x).length ≤ size
  | [], done, cur, outs, h, h1, h2 => by
    rw [cutR_nil] at h
    injection h with h
    subst h
    intro x hx
    unfold shut at hx
    split at hx
    · exact h1 x hx
    · rename_i hne
      rcases List.mem_append.1 hx with hx | hx
      · exact h1 x hx
      · rw [List.mem_singleton] at hx
        subst hx
        exact h2 hne
  | r :: t, done, cur, outs, h, h1, h2 => by
    rw [cutR_cons] at h
    split at h
    · rename_i hif
      exact cutR_size size t done _ outs h h1 (fun _ => hif.2)
    · split at h
      · cases h
      · rename_i hno
        refine cutR_size size t _ _ outs h ?_ (fun _ => by omega)
        intro x hx
        unfold shut at hx
        split at hx
        · exact h1 x hx
        · rename_i hne
          rcases List.mem_append.1 hx with hx | hx
          · exact h1 x hx
          · rw [List.mem_singleton] at hx
            subst hx
            exact h2 hne
/-- rows that rise, cut: the ones of a later part are above those of an earlier one -/
theorem flat_rise (outs : List (List GRow)) (hl : ∀ i j, (hi : i < j) → (hj : j < outs.flatten.length) → (outs.flatten[i]'(by omega)).fr.toNat < (outs.flatten[j]).fr.toNat) :
    ∀ i j, (hi : i < j) → (hj : j < outs.length) → ∀ a ∈ outs[i]'(by omega), ∀ b ∈ outs[j], a.fr.toNat < b.fr.toNat := by
  intro i j hi hj a ha b hb
  have e : outs = outs.take j ++ outs[j] :: outs.drop (j + 1) := by
    rw [← List.drop_eq_getElem_cons hj, List.take_append_drop]
  have hpa : ∃ p, ∃ h : p < (outs.take j).flatten.length, (outs.take j).flatten[p] = a := by
    have : a ∈ (outs.take j).flatten := List.mem_flatten.2 ⟨outs[i]'(by omega), by
      rw [List.mem_iff_getElem]
      exact ⟨i, by rw [List.length_take]; omega, by rw [List.getElem_take]⟩, ha⟩
    obtain ⟨p, h, e⟩ := List.mem_iff_getElem.1 this
    exact ⟨p, h, e⟩
  obtain ⟨p, hp, ep⟩ := hpa
  obtain ⟨q, hq, eq⟩ := List.mem_iff_getElem.1 hb
  have hf : outs.flatten = (outs.take j).flatten ++ (outs[j] ++ (outs.drop (j + 1)).flatten) := by
    conv => lhs; rw [e]
    rw [List.flatten_append, List.flatten_cons]
  have hlen : (outs.take j).flatten.length + q < outs.flatten.length := by
    rw [hf, List.length_append, List.length_append]; omega
  have := hl p ((outs.take j).flatten.length + q) (by omega) hlen
  have e1 : (outs.flatten[p]'(by omega)) = a := by
    rw [← ep]
    simp only [hf]
    rw [List.getElem_append_left hp]
  have e2 : outs.flatten[(outs.take j).flatten.length + q] = b := by
    rw [← eq]
    simp only [hf]
    rw [List.getElem_append_right (by omega)]
    rw [List.getElem_append_left (by omega)]
    congr 1
    omega
  rw [e1, e2] at this
  exact this
theorem spanOf_low (x : List GRow) (hx : x ≠ []) : ∃ r ∈ x, (spanOf x).low = r.fr ∧ ∀ b ∈ x, newE none x = 0 → r.fr.toNat ≤ b.fr.toNat := by
  cases x with
  | nil => exact absurd rfl hx
  | cons r t =>
    refine ⟨r, List.mem_cons_self .., rfl, fun b hb hn => ?_⟩
    obtain ⟨q, hq, eq⟩ := List.mem_iff_getElem.1 hb
    rcases Nat.eq_zero_or_pos q with h0 | h0
    · subst h0; rw [← eq]; exact Nat.le_refl _
    · have := fr_rise (r :: t) hn 0 q h0 hq
      rw [eq] at this
      exact Nat.le_of_lt this
theorem lows_rise (l : List GRow) (outs : List (List GRow)) (hl : newE none l = 0) (hf : outs.flatten = l) (hg : ∀ x ∈ outs, x ≠ [] ∧ newE none x = 0) :
    ∀ i j, (hi : i < j) → (hj : j < (outs.map spanOf).length) → ((outs.map spanOf)[i]'(by omega)).low.toNat < ((outs.map spanOf)[j]).low.toNat := by
  intro i j hi hj
  have hj' : j < outs.length := by simpa using hj
  rw [List.getElem_map, List.getElem_map]
  obtain ⟨a, ha, ea, _⟩ := spanOf_low (outs[i]'(by omega)) (hg _ (List.getElem_mem _)).1
  obtain ⟨b, hb, eb, _⟩ := spanOf_low outs[j] (hg _ (List.getElem_mem _)).1
  rw [ea, eb]
  exact flat_rise outs (by subst hf; exact fr_rise _ hl) i j hi hj' a ha b hb
/-- a vertex' row is in the shard that is found for it -/
theorem found_in (l : List GRow) (outs : List (List GRow)) (hl : newE none l = 0) (hf : outs.flatten = l) (hg : ∀ x ∈ outs, x ≠ [] ∧ newE none x = 0) (r : GRow) (hr : r ∈ l) (k : Nat) (hk : FindS (outs.map spanOf) r.fr.toNat k) :
    ∃ h : k < outs.length, r ∈ outs[k] := by
  rw [← hf] at hr
  obtain ⟨x, hx, hrx⟩ := List.mem_flatten.1 hr
  obtain ⟨m, hm, em⟩ := List.mem_iff_getElem.1 hx
  subst em
  have hF : FindS (outs.map spanOf) r.fr.toNat m := by
    refine ⟨.inl (by simpa using hm), fun j hj hmj => ?_, fun h _ => ?_⟩
    · have hj' : j < outs.length := by simpa using hj
      rw [List.getElem_map]
      obtain ⟨b, hb, eb, _⟩ := spanOf_low outs[j] (hg _ (List.getElem_mem _)).1
      rw [eb]
      exact flat_rise outs (by subst hf; exact fr_rise _ hl) m j hmj hj' r hrx b hb
    · rw [List.getElem_map]
      obtain ⟨a, ha, ea, hle⟩ := spanOf_low outs[m] (hg _ (List.getElem_mem _)).1
      rw [ea]
      exact hle r hrx (hg _ (List.getElem_mem _)).2
  have := findS_uniq hk hF
  subst this
  exact ⟨hm, hrx⟩
theorem arcsL_in (x : List GRow) (hn : newE none x = 0) (r : GRow) (hr : r ∈ x) : arcsL (withT x) r.fr.toNat = r.arcs := by
  obtain ⟨k, hk, e⟩ := List.mem_iff_getElem.1 hr
  subst e
  exact arcsL_row x hn k hk
end Go.Proofs.Ythfnikdapknohaa

namespace Go.Proofs.Ythfnikdapknohaa
set_option linter.unusedSimpArgs false
set_option linter.unusedVariables false
open Go.RowKit

/-- one shard's rows: a row of the call's own, whose arcs are the caller's -/
def ElOk (W : World) (base B : Nat) (x : List GRow × Value) : Prop := ∃ xs : List (GRow × Value), OwnF 75 cRaw W base x.2 (xs.map rawY) ∧ xs.map Prod.fst = x.1 ∧ ∀ y ∈ xs, ByA W B y.2 y.1.arcs
section
variable {W W' : World} {base B : Nat} {x : List GRow × Value}
theorem ElOk.below (h : ElOk W base B x) (hB : B ≤ W.heap.size) (hb : Below W.heap.size W W') : ElOk W' base B x := by
  obtain ⟨xs, h1, h2, h3⟩ := h
  exact ⟨xs, h1.below_ hb, h2, fun y hy => (h3 y hy).below (hb.mono hB)⟩
theorem ElOk.kept {α : Type} {E : TypeId} {C : Cdc α} {v v' : Value} {ys : List α} {base2 : Nat} (hE : E ≠ 75) (ho : OwnF E C W base2 v ys) (hB : B ≤ base2) (hx : Ext W W' v v') (hBW : B ≤ W.heap.size) (h : ElOk W base B x) : ElOk W' base B x := by
  obtain ⟨xs, h1, h2, h3⟩ := h
  exact ⟨xs, ownKept hE ho h1 hx, h2, fun y hy => (h3 y hy).below (hx.below hBW fun q hq => Nat.le_trans hB (ho.blk q hq).1)⟩
theorem ElOk.rows (h : ElOk W base B x) (hB : B ≤ base) : ByRw W W.heap.size x.2 x.1 := by
  obtain ⟨xs, h1, h2, h3⟩ := h
  have hb := h1.blk
  obtain ⟨A, c, e, h4, h5, h6⟩ := h1.row
  rw [← h2]
  refine ⟨A, c, by simpa using e, by simpa using h4, h5, fun hn => ?_⟩
  obtain ⟨ad, e1, hO, hc⟩ := h6 (by simpa using hn)
  refine ⟨ad, e1, hO.2, fun i x hx => ?_⟩
  rw [List.getElem?_map] at hx
  obtain ⟨y, hy, rfl⟩ := Option.map_eq_some_iff.1 hx
  obtain ⟨cs, ⟨rfl, _, _⟩, hcs⟩ := hc i (rawY y) (by rw [List.getElem?_map, hy]; rfl)
  refine ⟨_, ⟨y.2, rfl, ?_⟩, hcs⟩
  exact (h3 y (List.mem_of_getElem? hy)).mono (fun _ h => by have := hO.1; have := hO.2; omega) (fun _ h => h)
end
/-- a value put into an own row of raw values -/
theorem OwnF.setV {T : TypeId} {W : World} {base g c : Nat} {xs : List Value} (h : OwnF T cVal W base (.slice (some ⟨g, 0, none⟩) xs.length c) xs) (i : Nat) (hi : i < xs.length) (v : Value) (hv : v.oneCell' = true) :
    OwnF T cVal (W.setCell ⟨g, i, none⟩ v) base (.slice (some ⟨g, 0, none⟩) xs.length c) (xs.set i v) := by
  obtain ⟨css, hl, ⟨h1, h2⟩, h3, h4⟩ := h
  have hcl := OwnR.clen hl h3
  rcases h2 with ⟨e, hn⟩ | ⟨g', cap, cur, e, hg, h5, h6, h7, h8, h9⟩
  · cases e
  · injection e with e1 e2 e3
    injection e1 with e1
    injection e1 with e1 _ _
    subst e1 e3
    have hcur : i < cur.size := by rw [h8]; show i < c * 1; omega
    have hbx : BoxAt T W g cur.toList := by simpa [BoxAt] using h5
    have hput := hbx.put i v
    have hfl : css.flatten = xs := by
      refine List.ext_getElem? fun j => ?_
      rcases Nat.lt_or_ge j xs.length with hj | hj
      · have hcj : css[j]? = some css[j] := List.getElem?_eq_getElem (by omega)
        have h10 := h3 j css[j] xs[j] hcj (List.getElem?_eq_getElem hj)
        have h11 := flat_get 1 css hcl j _ 0 hcj (by omega)
        rw [h10.1] at h11
        simp only [Nat.mul_one, Nat.add_zero] at h11
        rw [h11, List.getElem?_eq_getElem hj]
        rfl
      · have h12 := flat_len 1 css hcl
        rw [List.getElem?_eq_none (by omega), List.getElem?_eq_none hj]
    refine ⟨(xs.set i v).map fun u => [u], by simp, ⟨?_, .inr ⟨g, c, (cur.toList.set i v).toArray, by simp, hg, ?_, by simpa using h6, h7, ?_, ?_⟩⟩, fun j cs x hc hx => ?_, fun k hk => hk.elim⟩
    · have : ((xs.set i v).map fun u => [u]).flatten = xs.set i v := by
        rw [← List.flatMap_def]; simp
      rw [this]; simp [cVal]
    · simpa [BoxAt] using hput
    · simpa using h8
    · have : ((xs.set i v).map fun u => [u]).flatten = xs.set i v := by
        rw [← List.flatMap_def]; simp
      rw [this]
      have h13 : cur.toList.take xs.length = xs := by
        have : xs.length * cVal.n = xs.length := by simp [cVal]
        rw [this, hfl] at h9
        exact h9
      have e1 : (xs.set i v).length * cVal.n = xs.length := by simp [cVal]
      simp only [e1, List.toList_toArray, List.take_set, h13]
    · rw [List.getElem?_map, hx] at hc
      injection hc with hc
      refine ⟨hc.symm, ?_⟩
      rcases Decidable.em (i = j) with e | e
      · subst e
        rw [List.getElem?_set_self hi] at hx
        injection hx with hx
        subst hx
        exact hv
      · rw [List.getElem?_set_ne e] at hx
        have hj : j < xs.length := by
          rcases Nat.lt_or_ge j xs.length with h | h
          · exact h
          · rw [List.getElem?_eq_none h] at hx; cases hx
        exact (h3 j css[j] x (List.getElem?_eq_getElem (by omega)) hx).2
theorem addr0 (g i : Nat) : (⟨g, 0, none⟩ : Addr).add i = ⟨g, i, none⟩ := by cases i <;> simp [Addr.add]
theorem OwnR.box {α : Type} {E : TypeId} {C : Cdc α} {w : World} {base : Nat} {S : Nat → Prop} {xs : List α} {g n c : Nat} (h : OwnR E C w base S (.slice (some ⟨g, 0, none⟩) n c) xs) : ∃ cs, BoxAt E w g cs := by
  obtain ⟨_, _, ⟨_, h2⟩, _⟩ := h
  rcases h2 with ⟨e, _⟩ | ⟨g', cap, cur, e, _, h3, _⟩
  · cases e
  · injection e with e _ _
    injection e with e
    injection e with e _ _
    subst e
    exact ⟨cur.toList, by simpa [BoxAt] using h3⟩
theorem ElOk.set {W : World} {base B g : Nat} {cs : List Value} {x : List GRow × Value} {T : TypeId} (hT : 75 ≠ T) (h : ElOk W base B x) (hb : BoxAt T W g cs) (hg : B ≤ g) (j : Nat) (u : Value) : ElOk (W.setCell ⟨g, j, none⟩ u) base B x := by
  obtain ⟨xs, h1, h2, h3⟩ := h
  exact ⟨xs, ownSet hT h1 hb j u, h2, fun y hy => (h3 y hy).below ((Chg.set (P := fun k => k = g) W ⟨g, j, none⟩ u rfl).below (B := B) (by have := hb.lt; omega) (fun k hk => by omega))⟩
/-- one row, in a new block -/
theorem ElOk.one {W : World} {B : Nat} {r : GRow} {Aa : Option Addr} {ca : Nat} (h : ByA W B (.slice Aa r.arcs.length ca) r.arcs) (hB : B ≤ W.heap.size) :
    ElOk (W.alloc (.cells #[.int .u32 (r.fr.toNat : Int), .slice Aa r.arcs.length ca] 75)) W.heap.size B ([r], .slice (some ⟨W.heap.size, 0, none⟩) 1 1) := by
  refine ⟨[(r, .slice Aa r.arcs.length ca)], ?_, rfl, fun y hy => ?_⟩
  · have := OwnR.new_ (E := 75) (C := cRaw) (xs := [rawY (r, Value.slice Aa r.arcs.length ca)]) (S := fun _ => False) W [[.int .u32 (r.fr.toNat : Int), .slice Aa r.arcs.length ca]] rfl (by simp [maxLen]) (fun i cs x h1 h2 => by
      match i, h1, h2 with
      | 0, h1, h2 => injection h1 with h1; injection h2 with h2; subst h1; subst h2; exact ⟨rfl, rfl, rfl⟩
      | i + 1, h1, h2 => simp at h1) (fun _ h => h.elim)
    exact this
  · rw [List.mem_singleton] at hy
    subst hy
    exact h.below ((balloc W _).mono hB)
theorem ElOk.more {W : World} {base base2 B : Nat} {x : List GRow × Value} (h : ElOk W base B x) (hb : base2 ≤ base) : ElOk W base2 B x := by
  obtain ⟨xs, h1, h2⟩ := h
  exact ⟨xs, h1.more hb, h2⟩
theorem infoRs : (Try.prog.info? 22).map (fun i => (i.zero, i.size, i.bytes)) = some (some (.slice none 0 0), cVal.n, 24) := by kernel_rfl
end Go.Proofs.Ythfnikdapknohaa

namespace Go.Proofs.Ythfnikdapknohaa
set_option linter.unusedSimpArgs false
set_option linter.unusedVariables false
open Go.RowKit

/-- the k-th raw value of an own row -/
theorem valAtM {T : TypeId} {W : World} {base n c : Nat} {A : Option Addr} {xs : List Value} (h : OwnF T cVal W base (.slice A n c) xs) (k : Nat) (hk : k < xs.length) : ∃ g, A = some ⟨g, 0, none⟩ ∧ base ≤ g ∧ g < W.heap.size ∧ W.cell? ⟨g, k, none⟩ = some xs[k] := by
  rcases h.form with ⟨_, hn⟩ | ⟨g, cap, e, _, _, hb, hg⟩
  · rw [hn] at hk; simp at hk
  · injection e with e _ _
    subst e
    obtain ⟨ad', cs, e, _, ⟨rfl, _⟩, hcs⟩ := h.row.at_ k xs[k] (List.getElem?_eq_getElem hk)
    injection e with e
    subst e
    have := hcs 0 _ rfl
    rw [show k * cVal.n + 0 = k from by simp [cVal], addr0] at this
    exact ⟨g, rfl, hb, hg, this⟩
/-- rows that are read, as raw values -/
theorem rawsOf {W : World} {base : Nat} {v : Value} {rows : List GRow} (h : RowsF W base v rows) : ∃ xs : List (GRow × Value), xs.map Prod.fst = rows ∧ RowOn cRaw W (fun k => base ≤ k ∧ k < W.heap.size) (fun _ => False) v (xs.map rawY) ∧
    ∀ y ∈ xs, RowOn cArc W (fun k => base ≤ k ∧ k < W.heap.size) (fun _ => True) y.2 y.1.arcs := by
  obtain ⟨A, c, rfl, h1, h2, h3⟩ := h
  by_cases hn : 0 < rows.length
  · obtain ⟨ad, rfl, hO, hc⟩ := h3 hn
    have key : ∀ i : Fin rows.length, ∃ va, RowOn cArc W (fun k => base ≤ k ∧ k < W.heap.size) (fun _ => True) va rows[i].arcs ∧ W.cell? (ad.add (i.val * 2 + 0)) = some (.int .u32 (rows[i].fr.toNat : Int)) ∧ W.cell? (ad.add (i.val * 2 + 1)) = some va := by
      intro i
      obtain ⟨cs, ⟨va, rfl, hva⟩, hcs⟩ := hc i.val rows[i] (List.getElem?_eq_getElem i.isLt)
      exact ⟨va, hva, hcs 0 _ rfl, hcs 1 _ rfl⟩
    have f := fun i => Classical.choose (key i)
    obtain ⟨f, hf⟩ : ∃ f : Fin rows.length → Value, ∀ i, RowOn cArc W (fun k => base ≤ k ∧ k < W.heap.size) (fun _ => True) (f i) rows[i].arcs ∧ W.cell? (ad.add (i.val * 2 + 0)) = some (.int .u32 (rows[i].fr.toNat : Int)) ∧ W.cell? (ad.add (i.val * 2 + 1)) = some (f i) :=
      ⟨fun i => Classical.choose (key i), fun i => Classical.choose_spec (key i)⟩
    refine ⟨List.ofFn fun i : Fin rows.length => (rows[i], f i), ?_, ?_, ?_⟩
    · apply List.ext_getElem
      · simp
      · intro i h1 h2
        simp
    · refine ⟨some ad, c, by simp, by simpa using h1, h2, fun _ => ⟨ad, rfl, hO, fun i x hx => ?_⟩⟩
      have hi : i < rows.length := by
        rcases Nat.lt_or_ge i rows.length with h | h
        · exact h
        · rw [List.getElem?_eq_none (by simpa using h)] at hx; cases hx
      have hx2 : x = (.int .u32 (rows[i].fr.toNat : Int), f ⟨i, hi⟩) := by
        rw [List.getElem?_map, List.getElem?_eq_getElem (by simpa using hi)] at hx
        simp only [Option.map_some, Option.some.injEq, List.getElem_ofFn, rawY] at hx
        exact hx.symm
      obtain ⟨k1, k2, k3⟩ := hf ⟨i, hi⟩
      obtain ⟨Aq, cq, eq, _⟩ := k1
      refine ⟨[.int .u32 (rows[i].fr.toNat : Int), f ⟨i, hi⟩], ⟨by rw [hx2], by rw [hx2]; rfl, by rw [hx2, eq]; rfl⟩, fun j u hu => ?_⟩
      match j, hu with
      | 0, hu => injection hu with hu; subst hu; exact k2
      | 1, hu => injection hu with hu; subst hu; exact k3
      | j + 2, hu => simp at hu
    · intro y hy
      obtain ⟨i, hi, e⟩ := List.mem_iff_getElem.1 hy
      rw [List.getElem_ofFn] at e
      subst e
      exact (hf _).1
  · have hr : rows = [] := by cases rows with | nil => rfl | cons => simp at hn
    subst hr
    exact ⟨[], rfl, ⟨A, c, rfl, h1, h2, fun h => absurd h (by simp)⟩, fun y hy => by cases hy⟩
/-- rows that were met: the row is one's own, their arcs lie elsewhere -/
def MetOk (W : World) (base : Nat) (v : Value) (rows : List GRow) : Prop := ∃ xs : List (GRow × Value), OwnF 75 cRaw W base v (xs.map rawY) ∧ xs.map Prod.fst = rows ∧
  ∀ y ∈ xs, RowOn cArc W (fun b => v.ownBlock ≠ some b ∧ b < W.heap.size) (fun _ => True) y.2 y.1.arcs
theorem arcsKeep {W W' : World} {O O' : Nat → Prop} {v : Value} {l : List GArc} (h : RowOn cArc W O (fun _ => True) v l) (hO : ∀ b, O b → O' b) (hc : ∀ p : Addr, O p.block → W'.cell? p = W.cell? p) : RowOn cArc W' O' (fun _ => True) v l :=
  (RowOn.keepO (fun _ _ _ _ _ h => h) h hc).mono hO (fun _ h => h)
section
variable {W W' : World} {base : Nat} {v v' : Value} {rows rows2 : List GRow}
theorem MetOk.below (h : MetOk W base v rows) (hb : Below W.heap.size W W') : MetOk W' base v rows := by
  obtain ⟨xs, h1, h2, h3⟩ := h
  exact ⟨xs, h1.below_ hb, h2, fun y hy => arcsKeep (h3 y hy) (fun b hq => ⟨hq.1, Nat.lt_of_lt_of_le hq.2 hb.size⟩) (fun p hp => hb.cell hp.2)⟩
theorem metApp {xs ys : List (GRow × Value)} (h3 : ∀ y ∈ xs, RowOn cArc W (fun b => v.ownBlock ≠ some b ∧ b < W.heap.size) (fun _ => True) y.2 y.1.arcs) (hya : ∀ y ∈ ys, RowOn cArc W (fun b => v.ownBlock ≠ some b ∧ b < W.heap.size) (fun _ => True) y.2 y.1.arcs)
    (ho : OwnF 75 cRaw W' base v' (xs.map rawY ++ ys.map rawY)) (hx : Ext W W' v v') (hr : xs.map Prod.fst ++ ys.map Prod.fst = rows) : MetOk W' base v' rows := by
  refine ⟨xs ++ ys, by rw [List.map_append]; exact ho, by rw [List.map_append, hr], fun y hy => ?_⟩
  have hq : RowOn cArc W (fun b => v.ownBlock ≠ some b ∧ b < W.heap.size) (fun _ => True) y.2 y.1.arcs := by
    rcases List.mem_append.1 hy with hy | hy
    · exact h3 y hy
    · exact hya y hy
  refine arcsKeep hq (fun b hb => ⟨fun e => ?_, Nat.lt_of_lt_of_le hb.2 hx.gr.size⟩) (fun p hp => ?_)
  · rcases hx.at_ with h | h
    · exact hb.1 (h ▸ e)
    · have := h b e; omega
  · have := hx.gr.block p.block hp.2 (fun e => hp.1 e.symm)
    exact World.cell?_of_block this
theorem MetOk.byRw (h : MetOk W base v rows) : ByRw W W.heap.size v rows := by
  obtain ⟨xs, h1, h2, h3⟩ := h
  obtain ⟨A, c, e, h4, h5, h6⟩ := h1.row
  rw [← h2]
  refine ⟨A, c, by simpa using e, by simpa using h4, h5, fun hn => ?_⟩
  obtain ⟨ad, e1, hO, hc⟩ := h6 (by simpa using hn)
  refine ⟨ad, e1, hO.2, fun i x hx => ?_⟩
  rw [List.getElem?_map] at hx
  obtain ⟨y, hy, rfl⟩ := Option.map_eq_some_iff.1 hx
  obtain ⟨cs, ⟨rfl, _, _⟩, hcs⟩ := hc i (rawY y) (by rw [List.getElem?_map, hy]; rfl)
  exact ⟨_, ⟨y.2, rfl, (h3 y (List.mem_of_getElem? hy)).mono (fun _ h => h.2) (fun _ h => h)⟩, hcs⟩
end
end Go.Proofs.Ythfnikdapknohaa

namespace Go.Proofs.Ythfnikdapknohaa.shardWhole
open Go.Proofs.Ythfnikdapknohaa
open Go.ChangeShapes Go.WideShapes Go.ChangeAt Go.RowKit
set_option linter.unusedVariables false
set_option linter.unusedSimpArgs false

theorem own : ownKnob Try.prog.godebug = none := by kernel_rfl
theorem laidOut : laidOutB Try.prog = true := by kernel_rfl

theorem len_flat : ∀ (outs : List (List GRow)), (∀ x ∈ outs, x ≠ []) → outs.length ≤ outs.flatten.length
  | [], _ => by simp
  | a :: t, h => by
    have h1 := len_flat t (fun x hx => h x (List.mem_cons_of_mem _ hx))
    have h2 := List.length_pos_iff.2 (h a (List.mem_cons_self ..))
    rw [List.flatten_cons, List.length_append, List.length_cons]
    omega
set_option maxRecDepth 100000 in
set_option maxHeartbeats 8000000 in
theorem walk0 (v0 : Value) (l : List GRow) (sz : UInt32) (w : World) (hr : ByRw w w.heap.size v0 l) :
    Calls Try.prog 10 #[v0, .int .u32 (sz.toNat : Int)] w fun e w' => e = .returned (.bool true) ∧ Below w.heap.size w w' := by
  obtain ⟨A, c, rfl, hc1, hc2⟩ := hr.form
  unfold maxLen at hc2
  have hfew := few_any w w.heap.size _ l hr
  have hsz := u32_lt sz
  generalize sz.toNat = size at *
  have hwi : IntKind.i64.wrap (size : Int) = (size : Int) := by rw [wrap_i64]; omega
  have hw64 : wrap64 (size : Int) = (size : Int) := by unfold wrap64; omega
  have H := Lib.hid hr
  clear hr
  cases hf : fewR l with
  | false =>
    rw [hf] at hfew
    go_enter Try.func10, Try.ntmps10
    go_wp2_with fail
    refine hfew.mono ?_
    rintro _ _ ⟨rfl, rfl⟩
    go_wp2_with (go_at_call 12; refine (awake23 _).mono ?_; rintro e wa ⟨rfl, hba⟩)
    go_ret
    exact ⟨rfl, hba⟩
  | true =>
    rw [hf] at hfew
    have hrs := fewR_rsz l hf
    have hll := rsz_len l
    have Hfew := Lib.hid hfew
    have Hrn := Lib.hid (rnew_any w w.heap.size (.slice A l.length c) l (by omega) H.out)
    clear hf hfew
    by_cases hn : newE none l = 0
    · have Hn := Lib.hid hn
      rw [hn] at Hrn
      have Hcut := Lib.hid (fun q => shcut_any (w.drewN q) w.heap.size (.slice A l.length c) l size hsz (by omega) (show ByRw (w.drewN q) w.heap.size (.slice A l.length c) l from H.out) (Nat.le_refl _))
      clear hn
      go_enter Try.func10, Try.ntmps10
      go_wp2_with fail
      refine Hfew.out.mono ?_
      rintro _ _ ⟨rfl, rfl⟩
      go_wp2_with fail
      refine Hrn.out.mono ?_
      rintro _ _ ⟨rfl, q, rfl⟩
      go_wp2_with fail
      refine (Hcut.out q).mono ?_
      rintro _ w3 ⟨hans, hb3⟩
      have Hb3 := Lib.hid ((bdrewN (Below.refl w.heap.size w) q).trans hb3)
      have hw3 := Hb3.out.size
      clear Hcut hb3
      rcases hans with ⟨hno, _⟩ | ⟨_, hno, rfl⟩ | ⟨_, outs, vs, va, alls, hyes, rfl, hsp, hal, hel, hen⟩
      · exact absurd Hn.out hno
      · go_wp2_with (go_at_call 12; refine (awake23 _).mono ?_; rintro e wa ⟨rfl, hba⟩)
        go_ret
        exact ⟨rfl, bstep Hb3.out hba⟩
      · have hlal : alls.length = outs.length := by have := congrArg List.length hen; simpa using this
        have hgood := cutR_good size l outs Hn.out hyes
        have hflat : outs.flatten = l := by have := cutR_flat size l [] [] outs hyes; simpa using this
        have hsize := cutR_size size l [] [] outs hyes (fun x hx => by cases hx) (fun h => absurd rfl h)
        have Hgood : Hid (∀ x ∈ outs, x ≠ [] ∧ rsz x ≤ 1640 ∧ newE none x = 0) := Lib.hid (fun x hx => by obtain ⟨h1, h2, h3⟩ := hgood x hx; exact ⟨h1, by omega, h3⟩)
        have Hflat := Lib.hid hflat
        have Hsize := Lib.hid hsize
        have Hrise := Lib.hid (lows_rise l outs Hn.out hflat (fun x hx => ⟨(hgood x hx).1, (hgood x hx).2.2⟩))
        have Hfound := Lib.hid (found_in l outs Hn.out hflat (fun x hx => ⟨(hgood x hx).1, (hgood x hx).2.2⟩))
        have hol : outs.length ≤ 1640 := by
          have := len_flat outs (fun x hx => (hgood x hx).1)
          rw [hflat] at this
          omega
        have Hsp : Hid (ByS w3 w3.heap.size vs (outs.map spanOf)) := Lib.hid (hsp.row.mono (fun _ hk => hk.2) fun _ h => h.elim)
        have Hal := Lib.hid hal
        have Hel := Lib.hid (fun (x : List UInt8 × Value) hx => (hel x hx).by_)
        have hk : ∀ k, (h : k < outs.length) → ∃ h2 : k < alls.length, (alls[k]).1 = senc outs[k] := fun k h => by
          refine ⟨by omega, ?_⟩
          have h1 : (alls.map Prod.fst)[k]? = (outs.map senc)[k]? := by rw [hen]
          rw [List.getElem?_map, List.getElem?_map, List.getElem?_eq_getElem (show k < alls.length by omega), List.getElem?_eq_getElem h] at h1
          simpa using h1
        have Hk := Lib.hid hk
        obtain ⟨As, cs, rfl, hcs1, hcs2⟩ := hsp.row.form
        obtain ⟨Ab, cb, rfl, hcb1, hcb2, _⟩ := hal.form'
        have e1 : (outs.map spanOf).length = outs.length := List.length_map ..
        have e2 : (alls.map Prod.snd).length = outs.length := by rw [List.length_map, hlal]
        rw [e1] at Hsp
        rw [e2] at Hal
        try rw [e1]
        try rw [e2]
        clear hgood hflat hsize hyes hsp hal hel hen hk e1 hcs1 hcb1
        /- what a Get of the k-th shard brings -/
        have Hget : Hid (∀ (W : World) (hW : Below w3.heap.size w3 W) (k : Nat) (hk : k < outs.length), ∃ g vb, Ab = some ⟨g, 0, none⟩ ∧ g < w3.heap.size ∧ W.cell? ⟨g, k, none⟩ = some vb ∧ (∃ A2 c2, vb = .slice A2 (senc outs[k]).length c2) ∧
            Calls Try.prog 15 #[vb] W fun e w' => Below W.heap.size W w' ∧ ∃ g2, e = .returned (.tuple #[.pointer (some ⟨g2, 0, none⟩), .int .i64 0]) ∧ LinesAt w' w'.heap.size g2 (withT outs[k])) := Lib.hid (by
          intro W hW k hk
          obtain ⟨hk2, hs1⟩ := Hk.out k hk
          obtain ⟨g, rfl, hg1, hg2, hcb⟩ := valAtM Hal.out k (by rw [e2]; exact hk)
          rw [List.getElem_map] at hcb
          have hby := Hel.out (alls[k]) (List.getElem_mem hk2)
          rw [hs1] at hby
          obtain ⟨g1, g2, g3⟩ := Hgood.out outs[k] (List.getElem_mem hk)
          have hpl := plines_ok outs[k] g3 (by omega)
          have hlen : (senc outs[k]).length ≤ 100000 := by
            have h1 := rowsB_len outs[k] none 0 g3 (by omega)
            have h2 := vput_len64 (outs[k]).length (by have := rsz_len outs[k]; omega)
            rw [senc_len]; omega
          obtain ⟨A2, c2, e3, _⟩ := id hby
          refine ⟨g, (alls[k]).2, rfl, hg2, (hW.cell hg2).trans hcb, ⟨A2, c2, e3⟩, ?_⟩
          refine (shget_any W (alls[k]).2 (senc outs[k]) (hby.step hW) hlen (by rw [hpl, rowsOf_withT]; omega)).mono ?_
          rintro e w' ⟨hb, ⟨_, g3', he, _, hL⟩ | ⟨hns, _⟩⟩
          · rw [hpl] at hL
            exact ⟨hb, g3', he, hL⟩
          · exact absurd (isSh_enc outs[k] g1 g3 (by omega)) hns)
        clear Hal Hel Hk e2 hlal
        go_wp2_with fail
        have hb4 := balloc w3 (.cells #[] 75)
        have hmet4 : MetOk (w3.alloc (.cells #[] 75)) w3.heap.size (.slice (some ⟨w3.heap.size, 0, none⟩) 0 0) (outs.take 0).flatten :=
          ⟨[], OwnR.new_ (E := 75) (C := cRaw) (xs := ([] : List (Value × Value))) (S := fun _ => False) w3 [] rfl (by simp) (fun i cs x h => by simp at h) (fun _ h => h.elim), rfl, fun y hy => by cases hy⟩
        have Hb4 := Lib.hid hb4
        have Hmet4 := Lib.hid hmet4
        clear hb4 hmet4
        go_loopw [8, 9] (fun vm vi wr => ∃ k : Nat, k ≤ outs.length ∧ vi = .int .i64 (k : Int) ∧ MetOk wr w3.heap.size vm (outs.take k).flatten ∧ Below w3.heap.size w3 wr) (fun _ i _ => outs.length + 1 - (intOf i).toNat)
        case atStart => exact ⟨0, by omega, rfl, Hmet4.out, Hb4.out⟩
        case round =>
          obtain ⟨k, hk, rfl, hmet, hbl⟩ := hrel
          have Hbl := Lib.hid hbl
          have hsl := hbl.size
          obtain ⟨xs0, hx0, hx02, _⟩ := id hmet
          obtain ⟨Am, cm, rfl, _, _, _⟩ := hx0.form'
          have hlen0 : (xs0.map rawY).length = xs0.length := List.length_map ..
          rw [hlen0] at hmet hx0 ⊢
          have hmb0 : ∀ b, (Value.slice Am xs0.length cm).ownBlock = some b → b < wr.heap.size := fun b hb => (hx0.blk b hb).2
          have Hmb0 := Lib.hid hmb0
          clear hx0 hlen0 hmb0
          by_cases hlt : k < outs.length
          · obtain ⟨ga, vb, rfl, hga, hcb, ⟨A2, c2, rfl⟩, hget⟩ := Hget.out wr hbl k hlt
            have hx := Hgood.out outs[k] (List.getElem_mem hlt)
            have hss := Hsize.out outs[k] (List.getElem_mem hlt)
            have htk : Hid ((outs.take (k + 1)).flatten = (outs.take k).flatten ++ outs[k]) := Lib.hid (by rw [List.take_succ_eq_append_getElem hlt, List.flatten_append]; simp)
            have Hmet := Lib.hid hmet
            have Hget' := Lib.hid hget
            have Hcb : Hid (∀ W, Below w3.heap.size w3 W → W.cell? ⟨ga, k, none⟩ = some (.slice A2 (senc outs[k]).length c2)) := Lib.hid (fun W hW => (hW.cell hga).trans ((hbl.cell hga).symm.trans hcb))
            have hd1 : decide ((size : Int) < ((senc outs[k]).length : Int)) = false := decide_eq_false (by omega)
            have hd2 : decide (size < (senc outs[k]).length) = false := decide_eq_false (by omega)
            clear hmet hget hbl hss
            generalize outs[k] = x at *
            generalize (senc x).length = sn at *
            go_wp2_with fail
            refine Hget'.out.mono ?_
            rintro _ w6 ⟨hb6, g6, rfl, hL6⟩
            have Hb06 := Lib.hid (Hbl.out.trans (hb6.mono hsl))
            have hcb6 := Hcb.out w6 Hb06.out
            have Hmet6 := Lib.hid (Hmet.out.below hb6)
            have Hrows := Lib.hid (lrows_any w6 w6.heap.size g6 (withT x) hL6 (Nat.le_refl _) (by rw [rowsOf_withT]; omega))
            have hs6 := hb6.size
            clear hb6 hL6 Hmet Hget' hcb
            go_wp2_with fail
            refine Hrows.out.mono ?_
            rintro _ w7 ⟨v7, rfl, hv7, hb7⟩
            rw [rowsOf_withT] at hv7
            obtain ⟨ys, hy1, hy2, hy3⟩ := rawsOf hv7
            have Hb07 := Lib.hid (Hb06.out.trans (hb7.mono (Nat.le_trans hsl hs6)))
            have hmet7 := Hmet6.out.below hb7
            obtain ⟨xs, hx1, hx2, hx3⟩ := hmet7
            have hmb : ∀ b, (w6.heap.size ≤ b ∧ b < w7.heap.size) → ((Value.slice Am xs0.length cm).ownBlock ≠ some b ∧ b < w7.heap.size) := by
              intro b hb
              refine ⟨fun e => ?_, hb.2⟩
              have := Hmb0.out b e
              omega
            have hyl : ys.length = x.length := by rw [← hy1, List.length_map]
            have hxl : xs.length = (outs.take k).flatten.length := by rw [← hx2, List.length_map]
            have hxl2 : xs.length ≤ 1640 := by
              have h1 : ((outs.take k).flatten ++ (outs.drop k).flatten).length ≤ 1640 := by rw [← List.flatten_append, List.take_append_drop, Hflat.out]; omega
              rw [List.length_append] at h1
              omega
            have hxr := rsz_len x
            have hyl3 : ys.length ≤ 1640 := by omega
            obtain ⟨A7, c7, rfl, _, _⟩ := hy2.form
            have hyl2 : (ys.map rawY).length = ys.length := List.length_map ..
            rw [hyl2] at hy2 ⊢
            clear hyl2
            have Hx1 := Lib.hid hx1
            have Hx2 := Lib.hid hx2
            have Hx3 := Lib.hid hx3
            have Hy1 := Lib.hid hy1
            have Hy2 := Lib.hid (hy2.mono (O' := fun _ => True) (S' := fun _ => False) (fun _ _ => trivial) (fun _ h => h))
            have Hy3 := Lib.hid (fun y hy => arcsKeep (W' := w7) (hy3 y hy) hmb (fun _ _ => rfl))
            have hs07 := Hb07.out.size
            clear hx1 hx2 hx3 hy1 hy2 hy3 hmb hv7 hb7 Hmet6 hxl hyl Hrows
            go_wp2_with (at_builtin
                         go_loud (refine wpList_appR (C := cRaw) rfl (.tmp 69) (.tmp 71) 22 rfl Try.underlying22 infoRow (by kernel_rfl) (by decide) (by decide) Hx1.out Hy2.out rfl rfl (by rw [List.length_map, List.length_map]; omega) (by omega) ?_)
                         intro v8 w8 ho8 hx8
                         have Ho8 := Lib.hid ho8
                         have Hx8 := Lib.hid hx8
                         clear ho8 hx8)
            go_roundw
            case rel => exact ⟨k + 1, by omega, by go_num, metApp Hx3.out Hy3.out Ho8.out Hx8.out (by rw [Hx2.out, Hy1.out, htk.out]), Hb07.out.trans (Hx8.out.below hs07 (fun q hq => (Hx1.out.blk q hq).1))⟩
            case measure => simp [intOf]; omega
          · obtain rfl : k = outs.length := by omega
            rw [List.take_length, Hflat.out] at hmet
            have Hmet := Lib.hid hmet
            clear hmet
            go_wp2_with fail
            go_loopw [12] (fun vi w2 => ∃ k : Nat, k ≤ l.length ∧ vi = .int .i64 (k : Int) ∧ Below wr.heap.size wr w2) (fun i _ => l.length + 1 - (intOf i).toNat)
            case atStart => exact ⟨0, by omega, rfl, Below.refl _ _⟩
            case round =>
              obtain ⟨k2, hk2, rfl, hbl2⟩ := hrel
              have Hbl2 := Lib.hid hbl2
              have Hbl3 := Lib.hid (Hbl.out.trans (hbl2.mono hsl))
              have hsl2 := hbl2.size
              by_cases hlt2 : k2 < l.length
              · have hwW : Below w.heap.size w wr := Hb3.out.trans (Hbl3.out.mono hw3)
                have hcells := fun (W : World) (hW : Below w.heap.size w W) => (H.out.below hW).cells k2 hlt2
                obtain ⟨ad, Aa, ca, rfl, hab, hc0, hc1', hya⟩ := hcells _ hwW
                have hfi := sfind_any wr w3.heap.size (.slice As outs.length cs) (outs.map spanOf) (by rw [List.length_map]; omega) (l[k2]).fr.toNat (u32_lt _) (Hsp.out.below Hbl3.out) Hbl3.out.size Hrise.out
                have hop : 0 < outs.length := by
                  rcases Nat.eq_zero_or_pos outs.length with h | h
                  · have h1 := Hflat.out
                    rw [List.length_eq_zero_iff.1 h] at h1
                    have h2 := congrArg List.length h1
                    simp at h2
                    omega
                  · exact h
                rw [decide_eq_true (by rw [List.length_map]; exact hop)] at hfi
                have hfo := fun (i : Nat) (hF : FindS (outs.map spanOf) (l[k2]).fr.toNat i) => Hfound.out l[k2] (List.getElem_mem hlt2) i hF
                have hin := fun x (hx : x ∈ outs) (hr : l[k2] ∈ x) => arcsL_in x (Hgood.out x hx).2.2 l[k2] hr
                have hfr := u32_lt (l[k2]).fr
                have Hfi := Lib.hid hfi
                have Hfo := Lib.hid hfo
                have Hin := Lib.hid hin
                have Hcells := Lib.hid hcells
                clear hfi hfo hin hcells hya
                generalize l[k2] = r at *
                go_wp2_with fail
                refine Hfi.out.mono ?_
                rintro _ w5 ⟨i, rfl, hF, hb5⟩
                obtain ⟨hi, hri⟩ := Hfo.out i hF
                have hW5 := Hbl3.out.trans (hb5.mono Hbl3.out.size)
                have hwW5 : Below w.heap.size w w5 := Hb3.out.trans (hW5.mono hw3)
                have hxi := List.getElem_mem hi
                have hin := Hin.out outs[i] hxi hri
                obtain ⟨x1, x2, x3⟩ := Hgood.out outs[i] hxi
                obtain ⟨ga, vb, rfl, hga, hcb, ⟨A2, c2, rfl⟩, hget⟩ := Hget.out w5 hW5 i hi
                have hq1 : decide ((i : Int) < 0) = false := decide_eq_false (by omega)
                have hq2 : decide ((outs.length : Int) ≤ (i : Int)) = false := decide_eq_false (by omega)
                have hq3 : decide (outs.length ≤ i) = false := decide_eq_false (by omega)
                have hq4 : decide ((i : Int) ≥ (outs.length : Int)) = false := decide_eq_false (by omega)
                have hnl : (withT outs[i]).length ≤ 4294967296 := by have := rsz_len outs[i]; simp [withT]; omega
                have hrise := withT_rise outs[i] x3
                have hzz : ∀ y ∈ withT outs[i], y.1.arcs.length ≤ 4294967296 ∧ y.2.length ≤ 4294967296 := by
                  intro y hy
                  obtain ⟨r', hr', rfl⟩ := List.mem_map.1 hy
                  have h1 := row_arcs_le outs[i] r' hr'
                  have h2 := btab_row outs[i] x3 (by omega) r' hr'
                  exact ⟨by show r'.arcs.length ≤ _; omega, by show (btab r'.arcs).length ≤ _; omega⟩
                have Hrow := Lib.hid (fun (W : World) (g : Nat) (hL : LinesAt W W.heap.size g (withT outs[i])) => srow_any W W.heap.size g (withT outs[i]) r.fr.toNat hfr hL (Nat.le_refl _) hnl hrise hzz)
                rw [hin] at Hrow
                have Hgt := Lib.hid hget
                have HW5 := Lib.hid hW5
                have hs5 := hb5.size
                have Hc5 := Lib.hid (bstep hbl2 hb5)
                clear hget hW5 hwW5 hin hnl hrise hzz x1 x2 x3 hri hF hb5 hc0 hc1' Hfi
                generalize withT outs[i] = ls at *
                generalize (senc outs[i]).length = sn at *
                go_wp2_with fail
                refine Hgt.out.mono ?_
                rintro _ w6 ⟨hb6, g6, rfl, hL6⟩
                have hW6 := HW5.out.trans (hb6.mono HW5.out.size)
                have HW6 := Lib.hid hW6
                have Hc6 := Lib.hid (bstep Hc5.out hb6)
                obtain ⟨ad2, Aa2, ca2, e2, _, hc0, hc1', _⟩ := Hcells.out w6 (Hb3.out.trans (hW6.mono hw3))
                injection e2 with e2
                subst e2
                have Hrow6 := Lib.hid (Hrow.out w6 g6 hL6)
                clear hb6 hL6 hW6 hcb Hgt Hrow
                go_wp2_with fail
                refine Hrow6.out.mono ?_
                rintro _ w7 ⟨va, vt, rfl, hoa, _, hb7⟩
                have hW7 := HW6.out.trans (hb7.mono HW6.out.size)
                have HW7 := Lib.hid hW7
                have Hc7 := Lib.hid (bstep Hc6.out hb7)
                obtain ⟨ad3, Aa3, ca3, e3, _, hd0, hd1, hya⟩ := Hcells.out w7 (Hb3.out.trans (hW7.mono hw3))
                injection e3 with e3
                subst e3
                have Hoa := Lib.hid hoa
                have Hya := Lib.hid hya
                have hs67 := hb7.size
                clear hb7 hoa hya hW7 hc0 hc1' Hrow6
                go_wp2_with fail
                refine (gsame_any w7 w7.heap.size w.heap.size va _ r.arcs r.arcs (OwnF.byA Hoa.out) Hya.out).mono ?_
                rintro _ _ ⟨rfl, q2, rfl⟩
                rw [decide_eq_true rfl]
                go_wp2_with fail
                refine ⟨⟨k2 + 1, by omega, by go_num, bdrewN Hc7.out q2⟩, ?_⟩
                simp [intOf]; omega
              · obtain rfl : k2 = l.length := by omega
                have Hmet2 := Lib.hid (Hmet.out.below hbl2)
                have hbf : Below w.heap.size w wr := Hb3.out.trans (Hbl3.out.mono hw3)
                have Hbf := Lib.hid hbf
                clear hbf
                go_wp2_with fail
                refine (rsame_any wr wr.heap.size w.heap.size _ _ l l Hmet2.out.byRw (H.out.below Hbf.out)).mono ?_
                rintro _ _ ⟨rfl, q2, rfl⟩
                rw [decide_eq_true rfl]
                go_wp2_with (go_at_call 12; refine (awake23 _).mono ?_; rintro e wa ⟨rfl, hba⟩)
                go_ret
                exact ⟨rfl, bstep (bdrewN Hbf.out q2) hba⟩
    · have hne : (newE none l == 0) = false := by simpa using hn
      have hne' : (newE none l != 0) = true := by simpa using hn
      clear hn
      generalize newE none l = e at *
      go_enter Try.func10, Try.ntmps10
      go_wp2_with fail
      refine Hfew.out.mono ?_
      rintro _ _ ⟨rfl, rfl⟩
      go_wp2_with fail
      refine Hrn.out.mono ?_
      rintro _ _ ⟨rfl, q, rfl⟩
      go_wp2_with (go_at_call 12; refine (awake23 _).mono ?_; rintro e wa ⟨rfl, hba⟩)
      go_ret
      exact ⟨rfl, (bdrewN (Below.refl w.heap.size w) q).trans (hba.mono (Nat.le_refl _))⟩
theorem walk (v0 v1 : Value) (w : World) (h0 : InC w 22 [v0]) (h1 : InC w 51 [v1]) :
    Calls Try.prog 10 #[v0, v1] w fun e w' => e = .returned (.bool true) ∧ Below w.heap.size w w' := by
  obtain ⟨l, hr⟩ := h0.rows
  obtain ⟨t, e, _⟩ := InC.u32 (S := fun _ => True) Try.underlying51 h1
  simp at e
  subst e
  exact walk0 v0 l t w hr

set_option maxRecDepth 100000 in
theorem lifted (os : Os) (started : os.Started) (H : Type) (enc : TypeId × Value → H) :
    ReturnsInHanded {} Try.checked os 10 .any (Rows.shardWholeSpec.pre6 enc Try.prog Try.f10 Rows.shardWholeRow.domain false) (Rows.shardWholeSpec.post enc Try.prog Try.f10 false true false false) := by
  refine returnsInHanded_of_change (C := Try.checked) own started (by kernel_rfl) Try.func10
    (ChangeSpec.witness6 (enc := enc) (C := Try.checked) false ⟨#[], #[.slice none 0 0, .int .u32 0], []⟩ 8 (by kernel_rfl) (by kernel_rfl) (by kernel_rfl) (by kernel_rfl)) ?_
  intro W base args ds gs before hval0 hW hcnd _
  have hval : ∀ (j : Nat) t v, Try.f10.params[j]? = some t → args[j]? = some v → Value.okWide Try.prog W .any base t v := hval0
  have hW' := hW
  obtain ⟨p, q, hA0, hV, rfl, hfz, hnd⟩ := hW
  have hA : DataW.TrodAll enc Try.prog W 0 (fun _ => true) true Try.f10.params.toList args.toList ds p := hA0
  rw [Try.params10] at hA hval
  obtain ⟨v0, vs0, d0, ds0, p0, q0, hargs, rfl, rfl, h0, r0⟩ := trodAll_cons hA
  obtain ⟨v1, vs1, d1, ds1, p1, q1, rfl, rfl, rfl, h1, r1⟩ := trodAll_cons r0
  obtain ⟨rfl, rfl, rfl⟩ := trodAll_nil r1
  obtain rfl : args = #[v0, v1] := by cases args; simp_all
  obtain ⟨rfl, rfl⟩ := trodVars_none hV
  have k0 := h0
  have lt0 : ∀ x ∈ p0, x.block < W.heap.size := by obtain ⟨m, hm⟩ := k0; exact DataW.trod_lt m _ _ _ hm
  have i0 := InC.of h0
  obtain ⟨a0, len0, cap0, rfl⟩ := okWide_slice Try.underlying22 (hval 0 22 v0 rfl rfl)
  have j0 : InC W 22 [_] := i0
  have k1 := h1
  have lt1 : ∀ x ∈ p1, x.block < W.heap.size := by obtain ⟨m, hm⟩ := k1; exact DataW.trod_lt m _ _ _ hm
  have i1 := InC.of h1
  obtain ⟨a1, rfl⟩ := okWide_int Try.underlying51 (hval 1 51 v1 rfl rfl)
  have j1 : InC W 51 [_] := i1
  clear hA0 hval0
  refine (walk _ _ W j0 j1).mono fun e W' ⟨he, bel⟩ => ?_
  subst he
  exact ⟨_, rfl, _, _, _, [], _, [], hW', trodAll_mk1 (shut_bool Try.underlying4 _), (trodAll_cons_mk (Below.trod laidOut (by kernel_rfl) (of_decide_eq_true (by kernel_rfl)) k0 bel lt0) (trodAll_cons_mk (Below.trod laidOut (by kernel_rfl) (of_decide_eq_true (by kernel_rfl)) k1 bel lt1) trodAll_mk0)), rfl, bel.frame _, fun h => by cases h⟩

theorem over : Rows.shardWholeRow.holds Try.pinned (OpenSpec.ofChange Rows.shardWholeSpec) :=
  OpenClaim.holds_of_wide 10 Try.f10 rfl rfl rfl rfl rfl rfl rfl ⟨rfl, rfl, rfl, rfl, rfl⟩ rfl rfl rfl rfl rfl (by kernel_rfl) Try.func10 (by kernel_rfl)
    (of_decide_eq_true (by kernel_rfl)) (by unfold Func.isWrapper; first | (rw [if_pos (by decide +kernel)]; kernel_rfl) | (rw [if_neg (by decide +kernel)]; exact ⟨rfl, rfl⟩))
    (fun os started H enc _ => lifted os started H enc)

theorem proved : Rows.ShardWholeSaid := over
#print axioms proved
end Go.Proofs.Ythfnikdapknohaa.shardWhole
