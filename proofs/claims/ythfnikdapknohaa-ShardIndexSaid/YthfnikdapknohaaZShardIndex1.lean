/- Lemmas for the law ShardIndex: An index of spans as bytes, and what is read of bytes, plainly; a section is just its bytes. No condition.; Rows of spans: how they lie in memory.; palmerref23.Index (printed by wip/gen/idxindex.py); shard.PutIndex (printed by wip/gen/idxsput.py); shard.GetIndex (printed by wip/gen/idxget.py); Boxes and own rows of other types lie apart.; palmerref23.GetIndex (printed by wip/gen/idxrget.py); palmerref23.PutIndex (printed by wip/gen/idxput.py); '==' of two spans; palmerref23.Same. No condition. -/
import Derived.Test.YthfnikdapknohaaZShardPuts5
import Derived.Deep.CutRange
import Derived.Laws.StructEq
import Derived.BigQuiet
namespace Go.Proofs.Ythfnikdapknohaa
set_option linter.unusedSimpArgs false
set_option linter.unusedVariables false
open Go.RowKit

/-! ### a section that is read is just its bytes -/
theorem four_inv (a b c d : UInt8) : four (UInt32.ofNat (a.toNat + 256 * b.toNat + 65536 * c.toNat + 16777216 * d.toNat)) = [a, b, c, d] := by
  have h1 := u8_lt a
  have h2 := u8_lt b
  have h3 := u8_lt c
  have h4 := u8_lt d
  unfold four
  have e : (UInt32.ofNat (a.toNat + 256 * b.toNat + 65536 * c.toNat + 16777216 * d.toNat)).toNat = a.toNat + 256 * b.toNat + 65536 * c.toNat + 16777216 * d.toNat := by rw [UInt32.toNat_ofNat']; omega
  generalize UInt32.ofNat (a.toNat + 256 * b.toNat + 65536 * c.toNat + 16777216 * d.toNat) = x at *
  have s8 : (x >>> 8).toNat = x.toNat / 256 := by rw [UInt32.toNat_shiftRight]; simp [Nat.shiftRight_eq_div_pow]
  have s16 : (x >>> 16).toNat = x.toNat / 65536 := by rw [UInt32.toNat_shiftRight]; simp [Nat.shiftRight_eq_div_pow]
  have s24 : (x >>> 24).toNat = x.toNat / 16777216 := by rw [UInt32.toNat_shiftRight]; simp [Nat.shiftRight_eq_div_pow]
  simp only [List.cons.injEq, and_true]
  refine ⟨?_, ?_, ?_, ?_⟩ <;> rw [← UInt8.toNat_inj, UInt32.toNat_toUInt8]
  · omega
  · rw [s8]; omega
  · rw [s16]; omega
  · rw [s24]; omega
theorem fits_mark {l : List UInt8} (h : fitsB l = true) : markOf (l.take (l.length - 4)) = l := by
  unfold fitsB at h
  exact (of_decide_eq_true h).2
theorem sec_inv (b : List UInt8) (h : sE b = 0) (hn : sN b = b.length) : b = frameOf (sK b) (sL b) := by
  have hN : sN b = sLen b + 13 := by unfold sN; rw [if_pos h]
  have hL : sL b = (b.drop 9).take (sLen b) := by unfold sL; rw [if_pos h]
  have hK : sK b = b.getD 0 0 := by unfold sK; rw [if_pos h]
  rw [hN] at hn
  unfold sE at h
  rw [if_neg (by omega)] at h
  split at h
  · simp at h
  · rename_i h1
    have h1 : fitsB (b.take 9) = true := by simpa using h1
    split at h
    · simp at h
    · rename_i h2
      rw [if_neg (by omega)] at h
      split at h
      · rename_i h3
        have m1 := fits_mark h1
        have m2 := fits_mark h3
        have e1 : (b.take 9).length - 4 = 5 := by simp; omega
        have e2 : ((b.drop 9).take (sLen b + 4)).length - 4 = sLen b := by simp; omega
        rw [e1, List.take_take, show min 5 9 = 5 from rfl] at m1
        rw [e2, List.take_take, show min (sLen b) (sLen b + 4) = sLen b from by omega] at m2
        have e3 : (b.drop 9).take (sLen b + 4) = b.drop 9 := List.take_of_length_le (by simp; omega)
        rw [e3] at m2
        have hlen : ((b.drop 9).take (sLen b)).length = sLen b := by simp; omega
        have h5 : b.take 5 = sK b :: four (UInt32.ofNat (sLen b)) := by
          rw [hK]
          unfold sLen
          rw [four_inv]
          match b, hn with
          | b0 :: b1 :: b2 :: b3 :: b4 :: t, _ => rfl
          | [], hn => simp at hn
          | [_], hn => simp at hn
          | [_, _], hn => simp at hn
          | [_, _, _], hn => simp at hn
          | [_, _, _, _], hn => simp at hn
        have : b = b.take 9 ++ b.drop 9 := (List.take_append_drop 9 b).symm
        rw [frameOf, hL, hlen, m2, ← h5, m1, List.take_append_drop]
      · simp at h

/-! ### an index -/
structure GSpan where
  low : UInt32
  rows : UInt32
  size : UInt32
deriving DecidableEq
def idxOk : Option UInt32 → List GSpan → Bool
  | _, [] => true
  | p, s :: t => decide (lowP p ≤ s.low.toNat) && (s.rows != 0) && (s.size != 0) && idxOk (some s.low) t
def span1 (next : Nat) (s : GSpan) : List UInt8 := vput (s.low.toNat - next) ++ vput s.rows.toNat ++ vput s.size.toNat
def spansB : Nat → List GSpan → List UInt8
  | _, [] => []
  | n, s :: t => span1 n s ++ spansB (s.low.toNat + 1) t
def ibody (l : List GSpan) : List UInt8 := vput l.length ++ spansB 0 l
def ienc (l : List GSpan) : List UInt8 := frameOf 73 (ibody l)
def nxtS (n : Nat) (l : List GSpan) : Nat := match l.getLast? with | none => n | some r => r.low.toNat + 1
theorem nxtS_snoc (n : Nat) (l : List GSpan) (r : GSpan) : nxtS n (l ++ [r]) = r.low.toNat + 1 := by simp [nxtS]
theorem nxtS_cons (n : Nat) (a : GSpan) (t : List GSpan) : nxtS n (a :: t) = nxtS (a.low.toNat + 1) t := by
  cases t with
  | nil => simp [nxtS]
  | cons b t =>
    simp only [nxtS, List.getLast?_cons_cons]
    cases h : (b :: t).getLast? with
    | none => simp at h
    | some r => rfl
theorem nxtS_le (l : List GSpan) : nxtS 0 l ≤ 4294967296 := by
  unfold nxtS
  split
  · omega
  · rename_i r _; have := u32_lt r.low; omega
theorem spansB_snoc : ∀ (l : List GSpan) (n : Nat) (r : GSpan), spansB n (l ++ [r]) = spansB n l ++ span1 (nxtS n l) r
  | [], n, r => by simp [spansB, nxtS]
  | a :: t, n, r => by
    rw [List.cons_append, spansB, spansB, spansB_snoc t, nxtS_cons, List.append_assoc]
theorem idxOk_snoc : ∀ (l : List GSpan) (p : Option UInt32) (r : GSpan), idxOk p (l ++ [r]) = (idxOk p l && (decide (nxtS (lowP p) l ≤ r.low.toNat) && (r.rows != 0) && (r.size != 0)))
  | [], p, r => by simp [idxOk, nxtS]; rfl
  | a :: t, p, r => by
    rw [List.cons_append, idxOk, idxOk, idxOk_snoc t, nxtS_cons]
    simp only [Bool.and_assoc]
    rfl
theorem idxOk_false : ∀ (l m : List GSpan) (p : Option UInt32), idxOk p l = false → idxOk p (l ++ m) = false
  | [], m, p, h => by simp [idxOk] at h
  | a :: t, m, p, h => by
    rw [List.cons_append, idxOk]
    rw [idxOk] at h
    rw [Bool.and_eq_false_iff] at h ⊢
    rcases h with h | h
    · exact .inl h
    · exact .inr (idxOk_false t m _ h)
theorem idxOk_take (l : List GSpan) (k : Nat) (h : idxOk none l = true) : idxOk none (l.take k) = true := by
  cases h1 : idxOk none (l.take k) with
  | true => rfl
  | false =>
    have := idxOk_false (l.take k) (l.drop k) none h1
    rw [List.take_append_drop, h] at this
    cases this
theorem idxOk_at (l : List GSpan) (k : Nat) (hk : k < l.length) (h0 : idxOk none (l.take k) = true) :
    idxOk none (l.take (k + 1)) = (decide (nxtS 0 (l.take k) ≤ (l[k]).low.toNat) && ((l[k]).rows != 0) && ((l[k]).size != 0)) := by
  rw [List.take_add_one, List.getElem?_eq_getElem hk]
  show idxOk none (l.take k ++ [l[k]]) = _
  rw [idxOk_snoc, h0]
  rfl
theorem idxOk_stop (l : List GSpan) (k : Nat) (h0 : idxOk none (l.take k) = false) : idxOk none l = false := by
  have := idxOk_false (l.take k) (l.drop k) none h0
  rwa [List.take_append_drop] at this
theorem span1_len (n : Nat) (s : GSpan) : (span1 n s).length ≤ 33 ∧ 1 ≤ (span1 n s).length := by
  have h1 := vput_len64 (s.low.toNat - n) (by have := u32_lt s.low; omega)
  have h2 := vput_len64 s.rows.toNat (by have := u32_lt s.rows; omega)
  have h3 := vput_len64 s.size.toNat (by have := u32_lt s.size; omega)
  simp only [span1, List.length_append]
  omega
theorem spansB_len : ∀ (l : List GSpan) (n : Nat), (spansB n l).length ≤ 33 * l.length ∧ l.length ≤ (spansB n l).length
  | [], _ => by simp [spansB]
  | r :: t, n => by
    have h4 := span1_len n r
    have h5 := spansB_len t (r.low.toNat + 1)
    rw [spansB, List.length_append, List.length_cons]
    omega
theorem ibody_len (l : List GSpan) (hs : l.length ≤ 20000) : (ibody l).length ≤ 1000000 ∧ l.length ≤ (ibody l).length := by
  have h1 := spansB_len l 0
  have h2 := vput_len64 l.length (by omega)
  rw [ibody, List.length_append]
  omega

/-! ### reading -/
def spN (next : Nat) (s : List UInt8) (e : Int) : Nat × List UInt8 × Int := numS (4294967295 - next) s e
def spR (a : Nat × List UInt8 × Int) : Nat × List UInt8 × Int := numS 4294967295 a.2.1 a.2.2
def sp2 (next : Nat) (s : List UInt8) (e : Int) : Nat × List UInt8 × Int := spR (spN next s e)
def sp3 (next : Nat) (s : List UInt8) (e : Int) : Nat × List UInt8 × Int := spR (sp2 next s e)
def spL (next : Nat) (s : List UInt8) (e : Int) : GSpan := ⟨UInt32.ofNat (next + (spN next s e).1), UInt32.ofNat (sp2 next s e).1, UInt32.ofNat (sp3 next s e).1⟩
def pspans : Nat → Nat → List GSpan → List UInt8 → Int → List GSpan × List UInt8 × Int
  | 0, _, acc, s, e => (acc, s, e)
  | n + 1, next, acc, s, e => if e ≠ 0 ∨ 4294967295 < next then (acc, s, e)
    else pspans n (next + (spN next s e).1 + 1) (acc ++ [spL next s e]) (sp3 next s e).2.1 (sp3 next s e).2.2
def pidx (b : List UInt8) : List GSpan := (pspans (numS b.length (sL b) 0).1 0 [] (numS b.length (sL b) 0).2.1 (numS b.length (sL b) 0).2.2).1
theorem span1_tail (next : Nat) (r : GSpan) (t : List UInt8) : span1 next r ++ t = vput (r.low.toNat - next) ++ (vput r.rows.toNat ++ (vput r.size.toNat ++ t)) := by simp [span1]
theorem numS_u32 (x : UInt32) (t : List UInt8) : numS 4294967295 (vput x.toNat ++ t) 0 = (x.toNat, t, 0) := by
  have := u32_lt x
  rw [numS_zero, numR_vput _ _ _ (by omega) (by omega)]
theorem span_ok (next : Nat) (r : GSpan) (t : List UInt8) (h1 : next ≤ r.low.toNat) :
    (spN next (span1 next r ++ t) 0).1 = r.low.toNat - next ∧ spL next (span1 next r ++ t) 0 = r ∧ (sp3 next (span1 next r ++ t) 0).2 = (t, 0) := by
  have hf := u32_lt r.low
  have e1 : spN next (span1 next r ++ t) 0 = (r.low.toNat - next, vput r.rows.toNat ++ (vput r.size.toNat ++ t), 0) := by
    unfold spN
    rw [numS_zero, span1_tail, numR_vput _ _ _ (by omega) (by omega)]
  have e2 : sp2 next (span1 next r ++ t) 0 = (r.rows.toNat, vput r.size.toNat ++ t, 0) := by
    unfold sp2
    rw [e1]
    exact numS_u32 _ _
  have e3 : sp3 next (span1 next r ++ t) 0 = (r.size.toNat, t, 0) := by
    unfold sp3
    rw [e2]
    exact numS_u32 _ _
  refine ⟨by rw [e1], ?_, by rw [e3]⟩
  unfold spL
  rw [e1, e2, e3]
  simp only
  rw [show next + (r.low.toNat - next) = r.low.toNat from by omega, UInt32.ofNat_toNat, UInt32.ofNat_toNat, UInt32.ofNat_toNat]
theorem idxOk_cons {p : Option UInt32} {r : GSpan} {t : List GSpan} (h : idxOk p (r :: t) = true) : lowP p ≤ r.low.toNat ∧ r.rows ≠ 0 ∧ r.size ≠ 0 ∧ idxOk (some r.low) t = true := by
  rw [idxOk] at h
  simp only [Bool.and_eq_true, decide_eq_true_eq, bne_iff_ne] at h
  exact ⟨h.1.1.1, h.1.1.2, h.1.2, h.2⟩
theorem pspans_ok : ∀ (l : List GSpan) (p : Option UInt32) (acc : List GSpan) (t : List UInt8), idxOk p l = true →
    pspans l.length (lowP p) acc (spansB (lowP p) l ++ t) 0 = (acc ++ l, t, 0)
  | [], p, acc, t, _ => by simp [pspans, spansB]
  | r :: l, p, acc, t, h => by
    obtain ⟨h2, _, _, h3⟩ := idxOk_cons h
    have hf := u32_lt r.low
    obtain ⟨e1, e2, e3⟩ := span_ok (lowP p) r (spansB (r.low.toNat + 1) l ++ t) h2
    rw [List.length_cons, pspans, if_neg (by omega), spansB, List.append_assoc, e1, e2, e3]
    simp only
    have := pspans_ok l (some r.low) (acc ++ [r]) t h3
    simp only [lowP] at this
    rw [show lowP p + (r.low.toNat - lowP p) + 1 = r.low.toNat + 1 from by omega, this]
    simp
/-- these bytes are an index' -/
def isIdx (b : List UInt8) : Prop := sE b = 0 ∧ sK b = 73 ∧ idxOk none (pidx b) = true ∧ ienc (pidx b) = b
theorem idx_read (l : List GSpan) (hs : l.length ≤ 20000) :
    sE (ienc l) = 0 ∧ sN (ienc l) = (ienc l).length ∧ sK (ienc l) = 73 ∧ sL (ienc l) = ibody l := by
  have hb := ibody_len l hs
  have h1 := sE_frame 73 (ibody l) [] (by omega)
  have h2 := sN_frame 73 (ibody l) [] (by omega)
  have h3 := sK_frame 73 (ibody l) [] (by omega)
  have h4 := sL_frame 73 (ibody l) [] (by omega)
  rw [List.append_nil] at h1 h2 h3 h4
  exact ⟨h1, by rw [ienc, h2, frameOf_length], h3, h4⟩
theorem pidx_ok (l : List GSpan) (h : idxOk none l = true) (hs : l.length ≤ 20000) : pidx (ienc l) = l := by
  obtain ⟨_, _, _, h4⟩ := idx_read l hs
  have hn : l.length ≤ (ienc l).length := by
    rw [ienc, frameOf_length]
    have := ibody_len l hs
    omega
  unfold pidx
  rw [h4, numS_zero, ibody, numR_vput _ _ _ (by omega) hn]
  have := pspans_ok l none [] [] h
  simp only [lowP, List.append_nil, List.nil_append] at this
  simp only
  rw [this]
theorem isIdx_enc (l : List GSpan) (h : idxOk none l = true) (hs : l.length ≤ 20000) : isIdx (ienc l) := by
  obtain ⟨h1, h2, h3, _⟩ := idx_read l hs
  refine ⟨h1, h3, ?_⟩
  rw [pidx_ok l h hs]
  exact ⟨h, rfl⟩

/-! ### the document's reader -/
def rspN (s : List UInt8) (e : Int) : Nat × List UInt8 × Int := numS 4294967295 s e
def rsp2 (s : List UInt8) (e : Int) : Nat × List UInt8 × Int := spR (rspN s e)
def rsp3 (s : List UInt8) (e : Int) : Nat × List UInt8 × Int := spR (rsp2 s e)
def rspL (p : Option UInt32) (s : List UInt8) (e : Int) : GSpan := ⟨UInt32.ofNat (rfrom p (rspN s e).1), UInt32.ofNat (rsp2 s e).1, UInt32.ofNat (rsp3 s e).1⟩
def rspans : Nat → Option UInt32 → List GSpan → List UInt8 → Int → Option (List GSpan × List UInt8 × Int)
  | 0, _, acc, s, e => some (acc, s, e)
  | n + 1, p, acc, s, e => if e ≠ 0 then some (acc, s, e)
    else if 4294967295 < rfrom p (rspN s e).1 then none
    else rspans n (some (UInt32.ofNat (rfrom p (rspN s e).1))) (acc ++ [rspL p s e]) (rsp3 s e).2.1 (rsp3 s e).2.2
def ridx (b : List UInt8) : Option (List GSpan × List UInt8 × Int) := rspans (numS 18446744073709551615 (sL b) 0).1 none [] (numS 18446744073709551615 (sL b) 0).2.1 (numS 18446744073709551615 (sL b) 0).2.2
theorem rspan_ok (p : Option UInt32) (r : GSpan) (t : List UInt8) (h1 : lowP p ≤ r.low.toNat) :
    rfrom p (rspN (span1 (lowP p) r ++ t) 0).1 = r.low.toNat ∧ rspL p (span1 (lowP p) r ++ t) 0 = r ∧ (rsp3 (span1 (lowP p) r ++ t) 0).2 = (t, 0) := by
  have hf := u32_lt r.low
  have e1 : rspN (span1 (lowP p) r ++ t) 0 = (r.low.toNat - lowP p, vput r.rows.toNat ++ (vput r.size.toNat ++ t), 0) := by
    unfold rspN
    rw [numS_zero, span1_tail, numR_vput _ _ _ (by omega) (by omega)]
  have e2 : rsp2 (span1 (lowP p) r ++ t) 0 = (r.rows.toNat, vput r.size.toNat ++ t, 0) := by
    unfold rsp2
    rw [e1]
    exact numS_u32 _ _
  have e3 : rsp3 (span1 (lowP p) r ++ t) 0 = (r.size.toNat, t, 0) := by
    unfold rsp3
    rw [e2]
    exact numS_u32 _ _
  have e4 : rfrom p (rspN (span1 (lowP p) r ++ t) 0).1 = r.low.toNat := by
    rw [e1]
    cases p with
    | none => simp [rfrom, lowP]
    | some q => simp only [rfrom, lowP] at *; omega
  refine ⟨e4, ?_, by rw [e3]⟩
  unfold rspL
  rw [e4, e2, e3]
  simp only
  rw [UInt32.ofNat_toNat, UInt32.ofNat_toNat, UInt32.ofNat_toNat]
theorem rspans_ok : ∀ (l : List GSpan) (p : Option UInt32) (acc : List GSpan) (t : List UInt8), idxOk p l = true →
    rspans l.length p acc (spansB (lowP p) l ++ t) 0 = some (acc ++ l, t, 0)
  | [], p, acc, t, _ => by simp [rspans, spansB]
  | r :: l, p, acc, t, h => by
    obtain ⟨h2, _, _, h3⟩ := idxOk_cons h
    have hf := u32_lt r.low
    obtain ⟨e1, e2, e3⟩ := rspan_ok p r (spansB (r.low.toNat + 1) l ++ t) h2
    rw [List.length_cons, rspans, if_neg (by simp), spansB, List.append_assoc, e1, if_neg (by omega), e2, e3, UInt32.ofNat_toNat]
    have := rspans_ok l (some r.low) (acc ++ [r]) t h3
    simp only [lowP] at this
    rw [this]
    simp
theorem ridx_ok (l : List GSpan) (h : idxOk none l = true) (hs : l.length ≤ 20000) : ridx (ienc l) = some (l, [], 0) := by
  obtain ⟨_, _, _, h4⟩ := idx_read l hs
  unfold ridx
  rw [h4, numS_zero, ibody, numR_vput _ _ _ (by omega) (by omega)]
  have := rspans_ok l none [] [] h
  simp only [lowP, List.append_nil, List.nil_append] at this
  exact this

/-! ### what is read to the end is just its bytes -/
theorem numS_ok (most : Nat) (s : List UInt8) (e : Int) (h : (numS most s e).2.2 = 0) : e = 0 ∧ s = vput (numS most s e).1 ++ (numS most s e).2.1 ∧ (numS most s e).1 ≤ most := by
  have h0 : e = 0 := by
    rcases Decidable.em (e = 0) with h0 | h0
    · exact h0
    · exfalso
      unfold numS at h
      rw [if_pos h0] at h
      exact h0 h
  subst h0
  refine ⟨rfl, ?_, (numS_lt most s 0).2⟩
  rw [numS_zero] at h ⊢
  exact numR_one most s _ _ (by rw [← h])
theorem rspans_inv : ∀ (n : Nat) (p : Option UInt32) (acc : List GSpan) (s : List UInt8) (e : Int) (out : List GSpan) (s' : List UInt8),
    rspans n p acc s e = some (out, s', 0) → e = 0 ∧ ∃ l, out = acc ++ l ∧ l.length = n ∧ s = spansB (lowP p) l ++ s'
  | 0, p, acc, s, e, out, s', h => by
    simp only [rspans, Option.some.injEq, Prod.mk.injEq] at h
    obtain ⟨rfl, rfl, rfl⟩ := h
    exact ⟨rfl, [], by simp, rfl, by simp [spansB]⟩
  | n + 1, p, acc, s, e, out, s', h => by
    rw [rspans] at h
    split at h
    · rename_i h0
      simp only [Option.some.injEq, Prod.mk.injEq] at h
      exact absurd h.2.2 h0
    · rename_i h0
      split at h
      · cases h
      · rename_i h1
        obtain ⟨he, l, h2, h3, h4⟩ := rspans_inv n _ _ _ _ _ _ h
        obtain ⟨he2, k3, m3⟩ := numS_ok _ _ _ he
        obtain ⟨he1, k2, m2⟩ := numS_ok _ _ _ he2
        obtain ⟨he0, k1, m1⟩ := numS_ok _ _ _ he1
        refine ⟨he0, rspL p s e :: l, by rw [h2]; simp, by simp [h3], ?_⟩
        have hlow : (rspL p s e).low.toNat = rfrom p (rspN s e).1 := by
          show (UInt32.ofNat _).toNat = _
          rw [UInt32.toNat_ofNat']; omega
        have hrows : (rspL p s e).rows.toNat = (rsp2 s e).1 := by
          show (UInt32.ofNat _).toNat = _
          have : (rsp2 s e).1 ≤ 4294967295 := m2
          rw [UInt32.toNat_ofNat']; omega
        have hsize : (rspL p s e).size.toNat = (rsp3 s e).1 := by
          show (UInt32.ofNat _).toNat = _
          have : (rsp3 s e).1 ≤ 4294967295 := m3
          rw [UInt32.toNat_ofNat']; omega
        have hgap : (rspL p s e).low.toNat - lowP p = (rspN s e).1 := by
          rw [hlow]
          cases p with
          | none => simp [rfrom, lowP]
          | some q => simp only [rfrom, lowP]; omega
        have hlow' : lowP (some (UInt32.ofNat (rfrom p (rspN s e).1))) = (rspL p s e).low.toNat + 1 := rfl
        rw [hlow'] at h4
        rw [spansB, List.append_assoc, ← h4, span1_tail, hgap, hrows, hsize]
        refine k1.trans ?_
        congr 1
        refine k2.trans ?_
        congr 1
theorem ridx_inv (b : List UInt8) (out : List GSpan) (h1 : sE b = 0) (h2 : sN b = b.length) (h3 : sK b = 73) (h4 : ridx b = some (out, [], 0)) : ienc out = b := by
  unfold ridx at h4
  obtain ⟨he, l, e1, e2, e3⟩ := rspans_inv _ _ _ _ _ _ _ h4
  obtain ⟨_, k, _⟩ := numS_ok _ _ _ he
  rw [List.nil_append] at e1
  subst e1
  have hb := sec_inv b h1 h2
  have hL : sL b = ibody out := by
    rw [k, e3, ibody, e2]
    simp [lowP]
  rw [ienc, ← hL, ← h3]
  exact hb.symm
end Go.Proofs.Ythfnikdapknohaa

namespace Go.Proofs.Ythfnikdapknohaa
set_option linter.unusedSimpArgs false
set_option linter.unusedVariables false
open Go.RowKit

def cSpan : Cdc GSpan := Cdc.flat 3 (fun a => [.int .u32 (a.low.toNat : Int), .int .u32 (a.rows.toNat : Int), .int .u32 (a.size.toNat : Int)]) (fun _ => True) (fun _ => rfl) (fun x u hu => by
  simp at hu
  rcases hu with rfl | rfl | rfl <;> rfl)
theorem infoSpan : (Try.prog.info? 59).map (fun i => (i.zero, i.size, i.bytes)) = some (some (.agg #[.int .u32 0, .int .u32 0, .int .u32 0]), cSpan.n, 12) := by kernel_rfl
theorem InC.spans' {w : World} {cs : List Value} (h : InC w 41 cs) : ∃ v xs, cs = [v] ∧ RowOn cSpan w (fun k => k < w.heap.size) (fun k => k < w.heap.size) v xs :=
  h.row (C := cSpan) Try.underlying41 (by kernel_rfl) (by decide) fun cs hc => by
    obtain ⟨hl, hf⟩ := hc.fields Try.underlying59 (by kernel_rfl) (by kernel_rfl)
    obtain ⟨u0, h0, g0⟩ := hf 0 _ rfl
    obtain ⟨u1, h1, g1⟩ := hf 1 _ rfl
    obtain ⟨u2, h2, g2⟩ := hf 2 _ rfl
    obtain ⟨n0, e0, k0⟩ := InC.u32 (S := fun _ => True) Try.underlying51 g0
    obtain ⟨n1, e1, k1⟩ := InC.u32 (S := fun _ => True) Try.underlying51 g1
    obtain ⟨n2, e2, k2⟩ := InC.u32 (S := fun _ => True) Try.underlying51 g2
    simp at e0 e1 e2
    subst e0; subst e1; subst e2
    match cs, hl with
    | [c0, c1, c2], _ =>
      injection h0 with h0
      injection h1 with h1
      injection h2 with h2
      subst h0; subst h1; subst h2
      exact ⟨⟨n0, n1, n2⟩, rfl, trivial⟩
/-- the value reads as these spans, in blocks below B -/
abbrev ByS (w : World) (B : Nat) (v : Value) (l : List GSpan) : Prop := RowOn cSpan w (fun k => k < B) (fun _ => True) v l
theorem ByS.below {w w' : World} {B : Nat} {v : Value} {l : List GSpan} (h : ByS w B v l) (hb : Below B w w') : ByS w' B v l := by
  obtain ⟨A, c, h1, h2, h3, h4⟩ := h
  refine ⟨A, c, h1, h2, h3, fun hn => ?_⟩
  obtain ⟨ad, e, hb', hc⟩ := h4 hn
  refine ⟨ad, e, hb', fun i x hx => ?_⟩
  obtain ⟨cs, ha, hcs⟩ := hc i x hx
  exact ⟨cs, ha, fun j u hu => (hb.cell (by rw [add_block]; exact hb')).trans (hcs j u hu)⟩
theorem ByS.more {w : World} {B B' : Nat} {v : Value} {l : List GSpan} (h : ByS w B v l) (hB : B ≤ B') : ByS w B' v l := h.mono (fun _ hk => by omega) fun _ hk => hk
theorem ByS.step {w w' : World} {v : Value} {l : List GSpan} (h : ByS w w.heap.size v l) (hb : Below w.heap.size w w') : ByS w' w'.heap.size v l := (h.below hb).more hb.size
theorem InC.spans {w : World} {v : Value} (h : InC w 41 [v]) : ∃ l, ByS w w.heap.size v l := by
  obtain ⟨v', xs, e, hr⟩ := h.spans'
  injection e with e
  subst e
  exact ⟨xs, hr.mono (fun _ hk => hk) (fun _ _ => trivial)⟩
/-- the three cells of the k-th span -/
theorem ByS.cells {w : World} {B : Nat} {A : Option Addr} {n c : Nat} {l : List GSpan} (h : ByS w B (.slice A n c) l) (k : Nat) (hk : k < l.length) :
    ∃ ad, A = some ad ∧ ad.block < B ∧ w.cell? (ad.add (k * 3)) = some (.int .u32 ((l[k]).low.toNat : Int)) ∧ w.cell? { block := (ad.add (k * 3)).block, off := (ad.add (k * 3)).off + 1 } = some (.int .u32 ((l[k]).rows.toNat : Int)) ∧ w.cell? { block := (ad.add (k * 3)).block, off := (ad.add (k * 3)).off + 2 } = some (.int .u32 ((l[k]).size.toNat : Int)) := by
  obtain ⟨ad, cs, e, hb, ⟨rfl, _⟩, hc⟩ := h.at_ k l[k] (List.getElem?_eq_getElem hk)
  refine ⟨ad, e, hb, hc 0 _ rfl, ?_, ?_⟩
  · have := hc 1 _ rfl
    rw [← add_add] at this
    have e2 : (ad.add (k * cSpan.n)).add 1 = { block := (ad.add (k * 3)).block, off := (ad.add (k * 3)).off + 1 } := by simp [Addr.add, cSpan, Cdc.flat]
    rw [← e2]
    exact this
  · have := hc 2 _ rfl
    rw [← add_add] at this
    have e2 : (ad.add (k * cSpan.n)).add 2 = { block := (ad.add (k * 3)).block, off := (ad.add (k * 3)).off + 2 } := by simp [Addr.add, cSpan, Cdc.flat]
    rw [← e2]
    exact this
end Go.Proofs.Ythfnikdapknohaa

namespace Go.Proofs.Ythfnikdapknohaa
set_option linter.unusedSimpArgs false
set_option linter.unusedVariables false
open Go.RowKit

theorem nxtS_take (l : List GSpan) (p : Nat) (hp : p < l.length) : nxtS 0 (l.take (p + 1)) = (l[p]).low.toNat + 1 := by
  rw [List.take_succ_eq_append_getElem hp, nxtS_snoc]
set_option maxRecDepth 100000 in
set_option maxHeartbeats 4000000 in
theorem rindex_any (w : World) (B : Nat) (v : Value) (l : List GSpan) (h : ByS w B v l) (hB : B ≤ w.heap.size) :
    Calls Try.prog 25 #[v] w fun e w' => e = .returned (.bool (idxOk none l)) ∧ Below w.heap.size w w' := by
  obtain ⟨A, c, rfl, hc1, hc2⟩ := h.form
  unfold maxLen at hc2
  have Hat := Lib.hid (idxOk_at l)
  have Hstop := Lib.hid (idxOk_stop l)
  have Htk := Lib.hid (nxtS_take l)
  have Hall : Hid (idxOk none (l.take l.length) = idxOk none l) := Lib.hid (by rw [List.take_length])
  generalize idxOk none l = D at *
  go_enter Try.func25, Try.ntmps25
  go_wp2_with fail
  go_loopw [6] (fun i wr => ∃ k : Nat, k ≤ l.length ∧ i = .int .i64 k ∧ idxOk none (l.take k) = true ∧ Below w.heap.size w wr) (fun i _ => l.length - (intOf i).toNat)
  case atStart => exact ⟨0, by omega, rfl, rfl, Below.refl _ _⟩
  case round =>
    obtain ⟨k, hk, rfl, hok, hbl⟩ := hrel
    have Hbl := Lib.hid hbl
    have hszr := hbl.size
    have hr := h.below (hbl.mono hB)
    clear hbl
    by_cases hlt : k < l.length
    · obtain ⟨ad, rfl, hab, hx0, hx1, hx2⟩ := hr.cells k hlt
      have hat := Hat.out k hlt hok
      have Hst := Lib.hid (Hstop.out (k + 1))
      have hlo := u32_lt (l[k]).low
      have hz : ∀ x : UInt32, (x != 0) = !((x.toNat : Int) == 0) := fun x => by
        by_cases h : x = 0
        · subst h; rfl
        · have : ¬ x.toNat = 0 := fun e => h (UInt32.toNat_inj.1 e)
          rw [bne_iff_ne.2 h, (beq_eq_false_iff_ne.2 (show (x.toNat : Int) ≠ 0 by omega))]; rfl
      simp only [hz] at hat
      have hp : ∀ p, (e : k = p + 1) → ∃ hp : p < l.length, nxtS 0 (l.take k) = (l[p]).low.toNat + 1 := fun p e => by subst e; exact ⟨by omega, Htk.out p (by omega)⟩
      have Hp := Lib.hid hp
      have Hcells := Lib.hid fun m hm => hr.cells m hm
      have Hz0 : Hid (k = 0 → nxtS 0 (l.take k) = 0) := Lib.hid (by rintro rfl; rfl)
      have hblk : (ad.add (k * 3)).block < wr.heap.size := by rw [add_block]; omega
      clear hok hz hp h hr
      generalize hpp : ad.add (k * 3) = pp at *
      generalize (l[k]).low.toNat = a1 at *
      generalize (l[k]).rows.toNat = a2 at *
      generalize (l[k]).size.toNat = a3 at *
      generalize nxtS 0 (l.take k) = nx at *
      rcases Nat.eq_zero_or_pos k with hk0 | hk0
      · have hnx := Hz0.out hk0
        subst hk0
        subst hnx
        have hd0 : decide (0 ≤ a1) = true := decide_eq_true (by omega)
        rw [hd0] at hat
        clear hd0 Hp Hcells Hz0
        by_cases hr : a2 = 0
        · have hr1 : ((a2 : Int) == 0) = true := by simp; omega
          rw [hr1, Bool.not_true, Bool.and_false, Bool.false_and] at hat
          have HF := Lib.hid (Hst.out hat)
          clear hat
          go_wp2_with fail
          refine wp_region_typed [some 9, some 10, some 11, some 12, some 13, some 14, some 15, some 16, some 17, some 18, some 19, some 20, some 21, some 22, some 23, some 24, some 25, some 26, some 27, some 28, some 29, some 30, some 31, some 32, some 33, some 34, some 35, some 36, some 37, some 38, some 39, some 40] [9, 10, 11, 12, 13, 14, 15, 16, 17, 18, 19, 20, 21, 22, 23, 24, 25, 26, 27, 28, 29, 30, 31, 32, 33, 34, 35, 36, 37, 38, 39, 40]
            [Ph.is (.int .i64 ((0 : Nat) : Int)),
              Ph.is (.bool false),
              Ph.is (.bool false),
              Ph.is undef,
              Ph.is undef,
              Ph.is undef,
              Ph.is undef,
              Ph.is undef,
              Ph.is undef,
              Ph.is undef,
              Ph.is undef,
              Ph.is undef,
              Ph.is undef,
              Ph.is undef,
              Ph.is undef,
              Ph.is (.bool false),
              Ph.is (.bool false),
              Ph.is (.slice (some ad) l.length c),
              Ph.is (.int .i64 ((0 : Nat) : Int)),
              Ph.is (.pointer (some pp)),
              Ph.is (.pointer (some ⟨pp.block, pp.off + 1, none⟩)),
              Ph.is (.int .u32 (a2 : Int)),
              Ph.is (.bool true),
              Ph.is (.bool true),
              Ph.is (.bool true),
              Ph.is undef,
              Ph.is undef,
              Ph.is undef,
              Ph.is undef,
              Ph.is undef,
              Ph.is undef,
              Ph.is (.bool true)] rfl rfl (by kernel_rfl) (by kernel_rfl) ?_ ?_
          · refine ⟨?_, ?_, ?_, ?_, ?_, ?_, ?_, ?_, ?_, ?_, ?_, ?_, ?_, ?_, ?_, ?_, ?_, ?_, ?_, ?_, ?_, ?_, ?_, ?_, ?_, ?_, ?_, ?_, ?_, ?_, ?_, ?_, trivial⟩
            · -- 0: slot 9 := Op.move t3
              refine ob_yes fun f w' hb hp => ?_
              simp [PreOf, factOf, valOf, Ph.is, Ph.by_, Ph.any, Region.binds] at hp
              refine ⟨by simp [Gd, valOf, hp], ?_⟩
              refine mild_val (.int .i64 ((0 : Nat) : Int)) ?_ rfl
              simp [execOp, evalF, hp]
            · -- 1: slot 10 := Op.binOp BinOp.gtr 3 t9 (const (0:i64)) 3
              refine ob_yes fun f w' hb hp => ?_
              simp [PreOf, factOf, valOf, Ph.is, Ph.by_, Ph.any, Region.binds] at hp
              refine ⟨by simp [Gd, valOf, hp], ?_⟩
              refine mild_val (.bool false) ?_ rfl
              simp [execOp, evalF, hp, go_sem]
            · -- 2: slot 11 := Op.move t10
              refine ob_yes fun f w' hb hp => ?_
              simp [PreOf, factOf, valOf, Ph.is, Ph.by_, Ph.any, Region.binds] at hp
              refine ⟨by simp [Gd, valOf, hp], ?_⟩
              refine mild_val (.bool false) ?_ rfl
              simp [execOp, evalF, hp]
            · -- 3: slot 12 := Op.move t0
              refine ob_no fun f w' hb hp => ?_
              simp [PreOf, factOf, valOf, Ph.is, Ph.by_, Ph.any, Region.binds] at hp
              exact ⟨by simp [Gd, valOf, hp], rfl⟩
            · -- 4: slot 13 := Op.move t3
              refine ob_no fun f w' hb hp => ?_
              simp [PreOf, factOf, valOf, Ph.is, Ph.by_, Ph.any, Region.binds] at hp
              exact ⟨by simp [Gd, valOf, hp], rfl⟩
            · -- 5: slot 14 := Op.indexAddr 41 t12 t13
              refine ob_no fun f w' hb hp => ?_
              simp [PreOf, factOf, valOf, Ph.is, Ph.by_, Ph.any, Region.binds] at hp
              exact ⟨by simp [Gd, valOf, hp], rfl⟩
            · -- 6: slot 15 := Op.fieldAddr 59 t14 0
              refine ob_no fun f w' hb hp => ?_
              simp [PreOf, factOf, valOf, Ph.is, Ph.by_, Ph.any, Region.binds] at hp
              exact ⟨by simp [Gd, valOf, hp], rfl⟩
            · -- 7: slot 16 := Op.load 51 t15
              refine ob_no fun f w' hb hp => ?_
              simp [PreOf, factOf, valOf, Ph.is, Ph.by_, Ph.any, Region.binds] at hp
              exact ⟨by simp [Gd, valOf, hp], rfl⟩
            · -- 8: slot 17 := Op.move t0
              refine ob_no fun f w' hb hp => ?_
              simp [PreOf, factOf, valOf, Ph.is, Ph.by_, Ph.any, Region.binds] at hp
              exact ⟨by simp [Gd, valOf, hp], rfl⟩
            · -- 9: slot 18 := Op.move t3
              refine ob_no fun f w' hb hp => ?_
              simp [PreOf, factOf, valOf, Ph.is, Ph.by_, Ph.any, Region.binds] at hp
              exact ⟨by simp [Gd, valOf, hp], rfl⟩
            · -- 10: slot 19 := Op.binOp BinOp.sub 3 t18 (const (1:i64)) 3
              refine ob_no fun f w' hb hp => ?_
              simp [PreOf, factOf, valOf, Ph.is, Ph.by_, Ph.any, Region.binds] at hp
              exact ⟨by simp [Gd, valOf, hp], rfl⟩
            · -- 11: slot 20 := Op.indexAddr 41 t17 t19
              refine ob_no fun f w' hb hp => ?_
              simp [PreOf, factOf, valOf, Ph.is, Ph.by_, Ph.any, Region.binds] at hp
              exact ⟨by simp [Gd, valOf, hp], rfl⟩
            · -- 12: slot 21 := Op.fieldAddr 59 t20 0
              refine ob_no fun f w' hb hp => ?_
              simp [PreOf, factOf, valOf, Ph.is, Ph.by_, Ph.any, Region.binds] at hp
              exact ⟨by simp [Gd, valOf, hp], rfl⟩
            · -- 13: slot 22 := Op.load 51 t21
              refine ob_no fun f w' hb hp => ?_
              simp [PreOf, factOf, valOf, Ph.is, Ph.by_, Ph.any, Region.binds] at hp
              exact ⟨by simp [Gd, valOf, hp], rfl⟩
            · -- 14: slot 23 := Op.binOp BinOp.leq 51 t16 t22 51
              refine ob_no fun f w' hb hp => ?_
              simp [PreOf, factOf, valOf, Ph.is, Ph.by_, Ph.any, Region.binds] at hp
              exact ⟨by simp [Gd, valOf, hp], rfl⟩
            · -- 15: slot 24 := Op.pick t11 t23 (const (Value.bool false))
              refine ob_yes fun f w' hb hp => ?_
              simp [PreOf, factOf, valOf, Ph.is, Ph.by_, Ph.any, Region.binds] at hp
              refine ⟨by simp [Gd, valOf, hp], ?_⟩
              refine mild_val (.bool false) ?_ rfl
              simp [execOp, evalF, hp, go_sem]
            · -- 16: slot 25 := Op.move t24
              refine ob_yes fun f w' hb hp => ?_
              simp [PreOf, factOf, valOf, Ph.is, Ph.by_, Ph.any, Region.binds] at hp
              refine ⟨by simp [Gd, valOf, hp], ?_⟩
              refine mild_val (.bool false) ?_ rfl
              simp [execOp, evalF, hp]
            · -- 17: slot 26 := Op.move t0
              refine ob_yes fun f w' hb hp => ?_
              simp [PreOf, factOf, valOf, Ph.is, Ph.by_, Ph.any, Region.binds] at hp
              refine ⟨by simp [Gd, valOf, hp], ?_⟩
              refine mild_val (.slice (some ad) l.length c) ?_ rfl
              simp [execOp, evalF, hp]
            · -- 18: slot 27 := Op.move t3
              refine ob_yes fun f w' hb hp => ?_
              simp [PreOf, factOf, valOf, Ph.is, Ph.by_, Ph.any, Region.binds] at hp
              refine ⟨by simp [Gd, valOf, hp], ?_⟩
              refine mild_val (.int .i64 ((0 : Nat) : Int)) ?_ rfl
              simp [execOp, evalF, hp]
            · -- 19: slot 28 := Op.indexAddr 41 t26 t27
              refine ob_yes fun f w' hb hp => ?_
              simp [PreOf, factOf, valOf, Ph.is, Ph.by_, Ph.any, Region.binds] at hp
              refine ⟨by simp [Gd, valOf, hp], ?_⟩
              refine mild_val (.pointer (some pp)) ?_ rfl
              simp [execOp, evalF, hp, go_sem, hlt, hpp]
              try exact fun h => absurd (h (by omega)) (by omega)
            · -- 20: slot 29 := Op.fieldAddr 59 t28 1
              refine ob_yes fun f w' hb hp => ?_
              simp [PreOf, factOf, valOf, Ph.is, Ph.by_, Ph.any, Region.binds] at hp
              refine ⟨by simp [Gd, valOf, hp], ?_⟩
              refine mild_val (.pointer (some ⟨pp.block, pp.off + 1, none⟩)) ?_ rfl
              simp [execOp, evalF, hp, go_sem]
            · -- 21: slot 30 := Op.load 51 t29
              refine ob_yes fun f w' hb hp => ?_
              simp [PreOf, factOf, valOf, Ph.is, Ph.by_, Ph.any, Region.binds] at hp
              refine ⟨by simp [Gd, valOf, hp], ?_⟩
              have hc := (hb.cell (p := ⟨pp.block, pp.off + 1, none⟩) hblk).trans hx1
              refine mild_val (.int .u32 (a2 : Int)) ?_ rfl
              simp [execOp, evalF, hp, hc, go_sem]
            · -- 22: slot 31 := Op.binOp BinOp.eql 51 t30 (const (0:u32)) 51
              refine ob_yes fun f w' hb hp => ?_
              simp [PreOf, factOf, valOf, Ph.is, Ph.by_, Ph.any, Region.binds] at hp
              refine ⟨by simp [Gd, valOf, hp], ?_⟩
              refine mild_val (.bool true) ?_ rfl
              simp [execOp, evalF, hp, go_sem]
              try omega
            · -- 23: slot 32 := Op.pick t25 (const (Value.bool true)) t31
              refine ob_yes fun f w' hb hp => ?_
              simp [PreOf, factOf, valOf, Ph.is, Ph.by_, Ph.any, Region.binds] at hp
              refine ⟨by simp [Gd, valOf, hp], ?_⟩
              refine mild_val (.bool true) ?_ rfl
              simp [execOp, evalF, hp, go_sem]
            · -- 24: slot 33 := Op.move t32
              refine ob_yes fun f w' hb hp => ?_
              simp [PreOf, factOf, valOf, Ph.is, Ph.by_, Ph.any, Region.binds] at hp
              refine ⟨by simp [Gd, valOf, hp], ?_⟩
              refine mild_val (.bool true) ?_ rfl
              simp [execOp, evalF, hp]
            · -- 25: slot 34 := Op.move t0
              refine ob_no fun f w' hb hp => ?_
              simp [PreOf, factOf, valOf, Ph.is, Ph.by_, Ph.any, Region.binds] at hp
              exact ⟨by simp [Gd, valOf, hp], rfl⟩
            · -- 26: slot 35 := Op.move t3
              refine ob_no fun f w' hb hp => ?_
              simp [PreOf, factOf, valOf, Ph.is, Ph.by_, Ph.any, Region.binds] at hp
              exact ⟨by simp [Gd, valOf, hp], rfl⟩
            · -- 27: slot 36 := Op.indexAddr 41 t34 t35
              refine ob_no fun f w' hb hp => ?_
              simp [PreOf, factOf, valOf, Ph.is, Ph.by_, Ph.any, Region.binds] at hp
              exact ⟨by simp [Gd, valOf, hp], rfl⟩
            · -- 28: slot 37 := Op.fieldAddr 59 t36 2
              refine ob_no fun f w' hb hp => ?_
              simp [PreOf, factOf, valOf, Ph.is, Ph.by_, Ph.any, Region.binds] at hp
              exact ⟨by simp [Gd, valOf, hp], rfl⟩
            · -- 29: slot 38 := Op.load 51 t37
              refine ob_no fun f w' hb hp => ?_
              simp [PreOf, factOf, valOf, Ph.is, Ph.by_, Ph.any, Region.binds] at hp
              exact ⟨by simp [Gd, valOf, hp], rfl⟩
            · -- 30: slot 39 := Op.binOp BinOp.eql 51 t38 (const (0:u32)) 51
              refine ob_no fun f w' hb hp => ?_
              simp [PreOf, factOf, valOf, Ph.is, Ph.by_, Ph.any, Region.binds] at hp
              exact ⟨by simp [Gd, valOf, hp], rfl⟩
            · -- 31: slot 40 := Op.pick t33 (const (Value.bool true)) t39
              refine ob_yes fun f w' hb hp => ?_
              simp [PreOf, factOf, valOf, Ph.is, Ph.by_, Ph.any, Region.binds] at hp
              refine ⟨by simp [Gd, valOf, hp], ?_⟩
              refine mild_val (.bool true) ?_ rfl
              simp [execOp, evalF, hp, go_sem]
          · intro f w2 hb2 hp
            simp only [PostOf, Ph.is, Ph.by_, Ph.any] at hp
            obtain ⟨h0, h1, h2, h3, h4, h5, h6, h7, h8, h9, h10, h11, h12, h13, h14, h15, h16, h17, h18, h19, h20, h21, h22, h23, h24, h25, h26, h27, h28, h29, h30, h31, _⟩ := hp
            simp only [fills, List.foldl_cons, List.foldl_nil, Act.put, List.setIfInBounds_toArray, List.set_cons_zero, List.set_cons_succ, h0, h1, h2, h3, h4, h5, h6, h7, h8, h9, h10, h11, h12, h13, h14, h15, h16, h17, h18, h19, h20, h21, h22, h23, h24, h25, h26, h27, h28, h29, h30, h31]
            clear h0 h1 h2 h3 h4 h5 h6 h7 h8 h9 h10 h11 h12 h13 h14 h15 h16 h17 h18 h19 h20 h21 h22 h23 h24 h25 h26 h27 h28 h29 h30 h31
            have Hb2 := Lib.hid hb2
            clear hb2
            go_wp2_with fail
            go_ret
            rw [HF.out]
            exact ⟨rfl, bstep Hbl.out Hb2.out⟩
        · have hr1 : ((a2 : Int) == 0) = false := by simp; omega
          rw [hr1] at hat
          by_cases hs : a3 = 0
          · have hs1 : ((a3 : Int) == 0) = true := by simp; omega
            rw [hs1, Bool.not_true, Bool.and_false] at hat
            have HF := Lib.hid (Hst.out hat)
            clear hat
            go_wp2_with fail
            refine wp_region_typed [some 9, some 10, some 11, some 12, some 13, some 14, some 15, some 16, some 17, some 18, some 19, some 20, some 21, some 22, some 23, some 24, some 25, some 26, some 27, some 28, some 29, some 30, some 31, some 32, some 33, some 34, some 35, some 36, some 37, some 38, some 39, some 40] [9, 10, 11, 12, 13, 14, 15, 16, 17, 18, 19, 20, 21, 22, 23, 24, 25, 26, 27, 28, 29, 30, 31, 32, 33, 34, 35, 36, 37, 38, 39, 40]
              [Ph.is (.int .i64 ((0 : Nat) : Int)),
                Ph.is (.bool false),
                Ph.is (.bool false),
                Ph.is undef,
                Ph.is undef,
                Ph.is undef,
                Ph.is undef,
                Ph.is undef,
                Ph.is undef,
                Ph.is undef,
                Ph.is undef,
                Ph.is undef,
                Ph.is undef,
                Ph.is undef,
                Ph.is undef,
                Ph.is (.bool false),
                Ph.is (.bool false),
                Ph.is (.slice (some ad) l.length c),
                Ph.is (.int .i64 ((0 : Nat) : Int)),
                Ph.is (.pointer (some pp)),
                Ph.is (.pointer (some ⟨pp.block, pp.off + 1, none⟩)),
                Ph.is (.int .u32 (a2 : Int)),
                Ph.is (.bool false),
                Ph.is (.bool false),
                Ph.is (.bool false),
                Ph.is (.slice (some ad) l.length c),
                Ph.is (.int .i64 ((0 : Nat) : Int)),
                Ph.is (.pointer (some pp)),
                Ph.is (.pointer (some ⟨pp.block, pp.off + 2, none⟩)),
                Ph.is (.int .u32 (a3 : Int)),
                Ph.is (.bool true),
                Ph.is (.bool true)] rfl rfl (by kernel_rfl) (by kernel_rfl) ?_ ?_
            · refine ⟨?_, ?_, ?_, ?_, ?_, ?_, ?_, ?_, ?_, ?_, ?_, ?_, ?_, ?_, ?_, ?_, ?_, ?_, ?_, ?_, ?_, ?_, ?_, ?_, ?_, ?_, ?_, ?_, ?_, ?_, ?_, ?_, trivial⟩
              · -- 0: slot 9 := Op.move t3
                refine ob_yes fun f w' hb hp => ?_
                simp [PreOf, factOf, valOf, Ph.is, Ph.by_, Ph.any, Region.binds] at hp
                refine ⟨by simp [Gd, valOf, hp], ?_⟩
                refine mild_val (.int .i64 ((0 : Nat) : Int)) ?_ rfl
                simp [execOp, evalF, hp]
              · -- 1: slot 10 := Op.binOp BinOp.gtr 3 t9 (const (0:i64)) 3
                refine ob_yes fun f w' hb hp => ?_
                simp [PreOf, factOf, valOf, Ph.is, Ph.by_, Ph.any, Region.binds] at hp
                refine ⟨by simp [Gd, valOf, hp], ?_⟩
                refine mild_val (.bool false) ?_ rfl
                simp [execOp, evalF, hp, go_sem]
              · -- 2: slot 11 := Op.move t10
                refine ob_yes fun f w' hb hp => ?_
                simp [PreOf, factOf, valOf, Ph.is, Ph.by_, Ph.any, Region.binds] at hp
                refine ⟨by simp [Gd, valOf, hp], ?_⟩
                refine mild_val (.bool false) ?_ rfl
                simp [execOp, evalF, hp]
              · -- 3: slot 12 := Op.move t0
                refine ob_no fun f w' hb hp => ?_
                simp [PreOf, factOf, valOf, Ph.is, Ph.by_, Ph.any, Region.binds] at hp
                exact ⟨by simp [Gd, valOf, hp], rfl⟩
              · -- 4: slot 13 := Op.move t3
                refine ob_no fun f w' hb hp => ?_
                simp [PreOf, factOf, valOf, Ph.is, Ph.by_, Ph.any, Region.binds] at hp
                exact ⟨by simp [Gd, valOf, hp], rfl⟩
              · -- 5: slot 14 := Op.indexAddr 41 t12 t13
                refine ob_no fun f w' hb hp => ?_
                simp [PreOf, factOf, valOf, Ph.is, Ph.by_, Ph.any, Region.binds] at hp
                exact ⟨by simp [Gd, valOf, hp], rfl⟩
              · -- 6: slot 15 := Op.fieldAddr 59 t14 0
                refine ob_no fun f w' hb hp => ?_
                simp [PreOf, factOf, valOf, Ph.is, Ph.by_, Ph.any, Region.binds] at hp
                exact ⟨by simp [Gd, valOf, hp], rfl⟩
              · -- 7: slot 16 := Op.load 51 t15
                refine ob_no fun f w' hb hp => ?_
                simp [PreOf, factOf, valOf, Ph.is, Ph.by_, Ph.any, Region.binds] at hp
                exact ⟨by simp [Gd, valOf, hp], rfl⟩
              · -- 8: slot 17 := Op.move t0
                refine ob_no fun f w' hb hp => ?_
                simp [PreOf, factOf, valOf, Ph.is, Ph.by_, Ph.any, Region.binds] at hp
                exact ⟨by simp [Gd, valOf, hp], rfl⟩
              · -- 9: slot 18 := Op.move t3
                refine ob_no fun f w' hb hp => ?_
                simp [PreOf, factOf, valOf, Ph.is, Ph.by_, Ph.any, Region.binds] at hp
                exact ⟨by simp [Gd, valOf, hp], rfl⟩
              · -- 10: slot 19 := Op.binOp BinOp.sub 3 t18 (const (1:i64)) 3
                refine ob_no fun f w' hb hp => ?_
                simp [PreOf, factOf, valOf, Ph.is, Ph.by_, Ph.any, Region.binds] at hp
                exact ⟨by simp [Gd, valOf, hp], rfl⟩
              · -- 11: slot 20 := Op.indexAddr 41 t17 t19
                refine ob_no fun f w' hb hp => ?_
                simp [PreOf, factOf, valOf, Ph.is, Ph.by_, Ph.any, Region.binds] at hp
                exact ⟨by simp [Gd, valOf, hp], rfl⟩
              · -- 12: slot 21 := Op.fieldAddr 59 t20 0
                refine ob_no fun f w' hb hp => ?_
                simp [PreOf, factOf, valOf, Ph.is, Ph.by_, Ph.any, Region.binds] at hp
                exact ⟨by simp [Gd, valOf, hp], rfl⟩
              · -- 13: slot 22 := Op.load 51 t21
                refine ob_no fun f w' hb hp => ?_
                simp [PreOf, factOf, valOf, Ph.is, Ph.by_, Ph.any, Region.binds] at hp
                exact ⟨by simp [Gd, valOf, hp], rfl⟩
              · -- 14: slot 23 := Op.binOp BinOp.leq 51 t16 t22 51
                refine ob_no fun f w' hb hp => ?_
                simp [PreOf, factOf, valOf, Ph.is, Ph.by_, Ph.any, Region.binds] at hp
                exact ⟨by simp [Gd, valOf, hp], rfl⟩
              · -- 15: slot 24 := Op.pick t11 t23 (const (Value.bool false))
                refine ob_yes fun f w' hb hp => ?_
                simp [PreOf, factOf, valOf, Ph.is, Ph.by_, Ph.any, Region.binds] at hp
                refine ⟨by simp [Gd, valOf, hp], ?_⟩
                refine mild_val (.bool false) ?_ rfl
                simp [execOp, evalF, hp, go_sem]
              · -- 16: slot 25 := Op.move t24
                refine ob_yes fun f w' hb hp => ?_
                simp [PreOf, factOf, valOf, Ph.is, Ph.by_, Ph.any, Region.binds] at hp
                refine ⟨by simp [Gd, valOf, hp], ?_⟩
                refine mild_val (.bool false) ?_ rfl
                simp [execOp, evalF, hp]
              · -- 17: slot 26 := Op.move t0
                refine ob_yes fun f w' hb hp => ?_
                simp [PreOf, factOf, valOf, Ph.is, Ph.by_, Ph.any, Region.binds] at hp
                refine ⟨by simp [Gd, valOf, hp], ?_⟩
                refine mild_val (.slice (some ad) l.length c) ?_ rfl
                simp [execOp, evalF, hp]
              · -- 18: slot 27 := Op.move t3
                refine ob_yes fun f w' hb hp => ?_
                simp [PreOf, factOf, valOf, Ph.is, Ph.by_, Ph.any, Region.binds] at hp
                refine ⟨by simp [Gd, valOf, hp], ?_⟩
                refine mild_val (.int .i64 ((0 : Nat) : Int)) ?_ rfl
                simp [execOp, evalF, hp]
              · -- 19: slot 28 := Op.indexAddr 41 t26 t27
                refine ob_yes fun f w' hb hp => ?_
                simp [PreOf, factOf, valOf, Ph.is, Ph.by_, Ph.any, Region.binds] at hp
                refine ⟨by simp [Gd, valOf, hp], ?_⟩
                refine mild_val (.pointer (some pp)) ?_ rfl
                simp [execOp, evalF, hp, go_sem, hlt, hpp]
                try exact fun h => absurd (h (by omega)) (by omega)
              · -- 20: slot 29 := Op.fieldAddr 59 t28 1
                refine ob_yes fun f w' hb hp => ?_
                simp [PreOf, factOf, valOf, Ph.is, Ph.by_, Ph.any, Region.binds] at hp
                refine ⟨by simp [Gd, valOf, hp], ?_⟩
                refine mild_val (.pointer (some ⟨pp.block, pp.off + 1, none⟩)) ?_ rfl
                simp [execOp, evalF, hp, go_sem]
              · -- 21: slot 30 := Op.load 51 t29
                refine ob_yes fun f w' hb hp => ?_
                simp [PreOf, factOf, valOf, Ph.is, Ph.by_, Ph.any, Region.binds] at hp
                refine ⟨by simp [Gd, valOf, hp], ?_⟩
                have hc := (hb.cell (p := ⟨pp.block, pp.off + 1, none⟩) hblk).trans hx1
                refine mild_val (.int .u32 (a2 : Int)) ?_ rfl
                simp [execOp, evalF, hp, hc, go_sem]
              · -- 22: slot 31 := Op.binOp BinOp.eql 51 t30 (const (0:u32)) 51
                refine ob_yes fun f w' hb hp => ?_
                simp [PreOf, factOf, valOf, Ph.is, Ph.by_, Ph.any, Region.binds] at hp
                refine ⟨by simp [Gd, valOf, hp], ?_⟩
                refine mild_val (.bool false) ?_ rfl
                simp [execOp, evalF, hp, go_sem]
                try omega
              · -- 23: slot 32 := Op.pick t25 (const (Value.bool true)) t31
                refine ob_yes fun f w' hb hp => ?_
                simp [PreOf, factOf, valOf, Ph.is, Ph.by_, Ph.any, Region.binds] at hp
                refine ⟨by simp [Gd, valOf, hp], ?_⟩
                refine mild_val (.bool false) ?_ rfl
                simp [execOp, evalF, hp, go_sem]
              · -- 24: slot 33 := Op.move t32
                refine ob_yes fun f w' hb hp => ?_
                simp [PreOf, factOf, valOf, Ph.is, Ph.by_, Ph.any, Region.binds] at hp
                refine ⟨by simp [Gd, valOf, hp], ?_⟩
                refine mild_val (.bool false) ?_ rfl
                simp [execOp, evalF, hp]
              · -- 25: slot 34 := Op.move t0
                refine ob_yes fun f w' hb hp => ?_
                simp [PreOf, factOf, valOf, Ph.is, Ph.by_, Ph.any, Region.binds] at hp
                refine ⟨by simp [Gd, valOf, hp], ?_⟩
                refine mild_val (.slice (some ad) l.length c) ?_ rfl
                simp [execOp, evalF, hp]
              · -- 26: slot 35 := Op.move t3
                refine ob_yes fun f w' hb hp => ?_
                simp [PreOf, factOf, valOf, Ph.is, Ph.by_, Ph.any, Region.binds] at hp
                refine ⟨by simp [Gd, valOf, hp], ?_⟩
                refine mild_val (.int .i64 ((0 : Nat) : Int)) ?_ rfl
                simp [execOp, evalF, hp]
              · -- 27: slot 36 := Op.indexAddr 41 t34 t35
                refine ob_yes fun f w' hb hp => ?_
                simp [PreOf, factOf, valOf, Ph.is, Ph.by_, Ph.any, Region.binds] at hp
                refine ⟨by simp [Gd, valOf, hp], ?_⟩
                refine mild_val (.pointer (some pp)) ?_ rfl
                simp [execOp, evalF, hp, go_sem, hlt, hpp]
                try exact fun h => absurd (h (by omega)) (by omega)
              · -- 28: slot 37 := Op.fieldAddr 59 t36 2
                refine ob_yes fun f w' hb hp => ?_
                simp [PreOf, factOf, valOf, Ph.is, Ph.by_, Ph.any, Region.binds] at hp
                refine ⟨by simp [Gd, valOf, hp], ?_⟩
                refine mild_val (.pointer (some ⟨pp.block, pp.off + 2, none⟩)) ?_ rfl
                simp [execOp, evalF, hp, go_sem]
              · -- 29: slot 38 := Op.load 51 t37
                refine ob_yes fun f w' hb hp => ?_
                simp [PreOf, factOf, valOf, Ph.is, Ph.by_, Ph.any, Region.binds] at hp
                refine ⟨by simp [Gd, valOf, hp], ?_⟩
                have hc := (hb.cell (p := ⟨pp.block, pp.off + 2, none⟩) hblk).trans hx2
                refine mild_val (.int .u32 (a3 : Int)) ?_ rfl
                simp [execOp, evalF, hp, hc, go_sem]
              · -- 30: slot 39 := Op.binOp BinOp.eql 51 t38 (const (0:u32)) 51
                refine ob_yes fun f w' hb hp => ?_
                simp [PreOf, factOf, valOf, Ph.is, Ph.by_, Ph.any, Region.binds] at hp
                refine ⟨by simp [Gd, valOf, hp], ?_⟩
                refine mild_val (.bool true) ?_ rfl
                simp [execOp, evalF, hp, go_sem]
                try omega
              · -- 31: slot 40 := Op.pick t33 (const (Value.bool true)) t39
                refine ob_yes fun f w' hb hp => ?_
                simp [PreOf, factOf, valOf, Ph.is, Ph.by_, Ph.any, Region.binds] at hp
                refine ⟨by simp [Gd, valOf, hp], ?_⟩
                refine mild_val (.bool true) ?_ rfl
                simp [execOp, evalF, hp, go_sem]
            · intro f w2 hb2 hp
              simp only [PostOf, Ph.is, Ph.by_, Ph.any] at hp
              obtain ⟨h0, h1, h2, h3, h4, h5, h6, h7, h8, h9, h10, h11, h12, h13, h14, h15, h16, h17, h18, h19, h20, h21, h22, h23, h24, h25, h26, h27, h28, h29, h30, h31, _⟩ := hp
              simp only [fills, List.foldl_cons, List.foldl_nil, Act.put, List.setIfInBounds_toArray, List.set_cons_zero, List.set_cons_succ, h0, h1, h2, h3, h4, h5, h6, h7, h8, h9, h10, h11, h12, h13, h14, h15, h16, h17, h18, h19, h20, h21, h22, h23, h24, h25, h26, h27, h28, h29, h30, h31]
              clear h0 h1 h2 h3 h4 h5 h6 h7 h8 h9 h10 h11 h12 h13 h14 h15 h16 h17 h18 h19 h20 h21 h22 h23 h24 h25 h26 h27 h28 h29 h30 h31
              have Hb2 := Lib.hid hb2
              clear hb2
              go_wp2_with fail
              go_ret
              rw [HF.out]
              exact ⟨rfl, bstep Hbl.out Hb2.out⟩
          · have hs1 : ((a3 : Int) == 0) = false := by simp; omega
            rw [hs1, Bool.not_false, Bool.and_true, Bool.and_true] at hat
            have HT := Lib.hid hat
            clear hat
            go_wp2_with fail
            refine wp_region_typed [some 9, some 10, some 11, some 12, some 13, some 14, some 15, some 16, some 17, some 18, some 19, some 20, some 21, some 22, some 23, some 24, some 25, some 26, some 27, some 28, some 29, some 30, some 31, some 32, some 33, some 34, some 35, some 36, some 37, some 38, some 39, some 40] [9, 10, 11, 12, 13, 14, 15, 16, 17, 18, 19, 20, 21, 22, 23, 24, 25, 26, 27, 28, 29, 30, 31, 32, 33, 34, 35, 36, 37, 38, 39, 40]
              [Ph.is (.int .i64 ((0 : Nat) : Int)),
                Ph.is (.bool false),
                Ph.is (.bool false),
                Ph.is undef,
                Ph.is undef,
                Ph.is undef,
                Ph.is undef,
                Ph.is undef,
                Ph.is undef,
                Ph.is undef,
                Ph.is undef,
                Ph.is undef,
                Ph.is undef,
                Ph.is undef,
                Ph.is undef,
                Ph.is (.bool false),
                Ph.is (.bool false),
                Ph.is (.slice (some ad) l.length c),
                Ph.is (.int .i64 ((0 : Nat) : Int)),
                Ph.is (.pointer (some pp)),
                Ph.is (.pointer (some ⟨pp.block, pp.off + 1, none⟩)),
                Ph.is (.int .u32 (a2 : Int)),
                Ph.is (.bool false),
                Ph.is (.bool false),
                Ph.is (.bool false),
                Ph.is (.slice (some ad) l.length c),
                Ph.is (.int .i64 ((0 : Nat) : Int)),
                Ph.is (.pointer (some pp)),
                Ph.is (.pointer (some ⟨pp.block, pp.off + 2, none⟩)),
                Ph.is (.int .u32 (a3 : Int)),
                Ph.is (.bool false),
                Ph.is (.bool false)] rfl rfl (by kernel_rfl) (by kernel_rfl) ?_ ?_
            · refine ⟨?_, ?_, ?_, ?_, ?_, ?_, ?_, ?_, ?_, ?_, ?_, ?_, ?_, ?_, ?_, ?_, ?_, ?_, ?_, ?_, ?_, ?_, ?_, ?_, ?_, ?_, ?_, ?_, ?_, ?_, ?_, ?_, trivial⟩
              · -- 0: slot 9 := Op.move t3
                refine ob_yes fun f w' hb hp => ?_
                simp [PreOf, factOf, valOf, Ph.is, Ph.by_, Ph.any, Region.binds] at hp
                refine ⟨by simp [Gd, valOf, hp], ?_⟩
                refine mild_val (.int .i64 ((0 : Nat) : Int)) ?_ rfl
                simp [execOp, evalF, hp]
              · -- 1: slot 10 := Op.binOp BinOp.gtr 3 t9 (const (0:i64)) 3
                refine ob_yes fun f w' hb hp => ?_
                simp [PreOf, factOf, valOf, Ph.is, Ph.by_, Ph.any, Region.binds] at hp
                refine ⟨by simp [Gd, valOf, hp], ?_⟩
                refine mild_val (.bool false) ?_ rfl
                simp [execOp, evalF, hp, go_sem]
              · -- 2: slot 11 := Op.move t10
                refine ob_yes fun f w' hb hp => ?_
                simp [PreOf, factOf, valOf, Ph.is, Ph.by_, Ph.any, Region.binds] at hp
                refine ⟨by simp [Gd, valOf, hp], ?_⟩
                refine mild_val (.bool false) ?_ rfl
                simp [execOp, evalF, hp]
              · -- 3: slot 12 := Op.move t0
                refine ob_no fun f w' hb hp => ?_
                simp [PreOf, factOf, valOf, Ph.is, Ph.by_, Ph.any, Region.binds] at hp
                exact ⟨by simp [Gd, valOf, hp], rfl⟩
              · -- 4: slot 13 := Op.move t3
                refine ob_no fun f w' hb hp => ?_
                simp [PreOf, factOf, valOf, Ph.is, Ph.by_, Ph.any, Region.binds] at hp
                exact ⟨by simp [Gd, valOf, hp], rfl⟩
              · -- 5: slot 14 := Op.indexAddr 41 t12 t13
                refine ob_no fun f w' hb hp => ?_
                simp [PreOf, factOf, valOf, Ph.is, Ph.by_, Ph.any, Region.binds] at hp
                exact ⟨by simp [Gd, valOf, hp], rfl⟩
              · -- 6: slot 15 := Op.fieldAddr 59 t14 0
                refine ob_no fun f w' hb hp => ?_
                simp [PreOf, factOf, valOf, Ph.is, Ph.by_, Ph.any, Region.binds] at hp
                exact ⟨by simp [Gd, valOf, hp], rfl⟩
              · -- 7: slot 16 := Op.load 51 t15
                refine ob_no fun f w' hb hp => ?_
                simp [PreOf, factOf, valOf, Ph.is, Ph.by_, Ph.any, Region.binds] at hp
                exact ⟨by simp [Gd, valOf, hp], rfl⟩
              · -- 8: slot 17 := Op.move t0
                refine ob_no fun f w' hb hp => ?_
                simp [PreOf, factOf, valOf, Ph.is, Ph.by_, Ph.any, Region.binds] at hp
                exact ⟨by simp [Gd, valOf, hp], rfl⟩
              · -- 9: slot 18 := Op.move t3
                refine ob_no fun f w' hb hp => ?_
                simp [PreOf, factOf, valOf, Ph.is, Ph.by_, Ph.any, Region.binds] at hp
                exact ⟨by simp [Gd, valOf, hp], rfl⟩
              · -- 10: slot 19 := Op.binOp BinOp.sub 3 t18 (const (1:i64)) 3
                refine ob_no fun f w' hb hp => ?_
                simp [PreOf, factOf, valOf, Ph.is, Ph.by_, Ph.any, Region.binds] at hp
                exact ⟨by simp [Gd, valOf, hp], rfl⟩
              · -- 11: slot 20 := Op.indexAddr 41 t17 t19
                refine ob_no fun f w' hb hp => ?_
                simp [PreOf, factOf, valOf, Ph.is, Ph.by_, Ph.any, Region.binds] at hp
                exact ⟨by simp [Gd, valOf, hp], rfl⟩
              · -- 12: slot 21 := Op.fieldAddr 59 t20 0
                refine ob_no fun f w' hb hp => ?_
                simp [PreOf, factOf, valOf, Ph.is, Ph.by_, Ph.any, Region.binds] at hp
                exact ⟨by simp [Gd, valOf, hp], rfl⟩
              · -- 13: slot 22 := Op.load 51 t21
                refine ob_no fun f w' hb hp => ?_
                simp [PreOf, factOf, valOf, Ph.is, Ph.by_, Ph.any, Region.binds] at hp
                exact ⟨by simp [Gd, valOf, hp], rfl⟩
              · -- 14: slot 23 := Op.binOp BinOp.leq 51 t16 t22 51
                refine ob_no fun f w' hb hp => ?_
                simp [PreOf, factOf, valOf, Ph.is, Ph.by_, Ph.any, Region.binds] at hp
                exact ⟨by simp [Gd, valOf, hp], rfl⟩
              · -- 15: slot 24 := Op.pick t11 t23 (const (Value.bool false))
                refine ob_yes fun f w' hb hp => ?_
                simp [PreOf, factOf, valOf, Ph.is, Ph.by_, Ph.any, Region.binds] at hp
                refine ⟨by simp [Gd, valOf, hp], ?_⟩
                refine mild_val (.bool false) ?_ rfl
                simp [execOp, evalF, hp, go_sem]
              · -- 16: slot 25 := Op.move t24
                refine ob_yes fun f w' hb hp => ?_
                simp [PreOf, factOf, valOf, Ph.is, Ph.by_, Ph.any, Region.binds] at hp
                refine ⟨by simp [Gd, valOf, hp], ?_⟩
                refine mild_val (.bool false) ?_ rfl
                simp [execOp, evalF, hp]
              · -- 17: slot 26 := Op.move t0
                refine ob_yes fun f w' hb hp => ?_
                simp [PreOf, factOf, valOf, Ph.is, Ph.by_, Ph.any, Region.binds] at hp
                refine ⟨by simp [Gd, valOf, hp], ?_⟩
                refine mild_val (.slice (some ad) l.length c) ?_ rfl
                simp [execOp, evalF, hp]
              · -- 18: slot 27 := Op.move t3
                refine ob_yes fun f w' hb hp => ?_
                simp [PreOf, factOf, valOf, Ph.is, Ph.by_, Ph.any, Region.binds] at hp
                refine ⟨by simp [Gd, valOf, hp], ?_⟩
                refine mild_val (.int .i64 ((0 : Nat) : Int)) ?_ rfl
                simp [execOp, evalF, hp]
              · -- 19: slot 28 := Op.indexAddr 41 t26 t27
                refine ob_yes fun f w' hb hp => ?_
                simp [PreOf, factOf, valOf, Ph.is, Ph.by_, Ph.any, Region.binds] at hp
                refine ⟨by simp [Gd, valOf, hp], ?_⟩
                refine mild_val (.pointer (some pp)) ?_ rfl
                simp [execOp, evalF, hp, go_sem, hlt, hpp]
                try exact fun h => absurd (h (by omega)) (by omega)
              · -- 20: slot 29 := Op.fieldAddr 59 t28 1
                refine ob_yes fun f w' hb hp => ?_
                simp [PreOf, factOf, valOf, Ph.is, Ph.by_, Ph.any, Region.binds] at hp
                refine ⟨by simp [Gd, valOf, hp], ?_⟩
                refine mild_val (.pointer (some ⟨pp.block, pp.off + 1, none⟩)) ?_ rfl
                simp [execOp, evalF, hp, go_sem]
              · -- 21: slot 30 := Op.load 51 t29
                refine ob_yes fun f w' hb hp => ?_
                simp [PreOf, factOf, valOf, Ph.is, Ph.by_, Ph.any, Region.binds] at hp
                refine ⟨by simp [Gd, valOf, hp], ?_⟩
                have hc := (hb.cell (p := ⟨pp.block, pp.off + 1, none⟩) hblk).trans hx1
                refine mild_val (.int .u32 (a2 : Int)) ?_ rfl
                simp [execOp, evalF, hp, hc, go_sem]
              · -- 22: slot 31 := Op.binOp BinOp.eql 51 t30 (const (0:u32)) 51
                refine ob_yes fun f w' hb hp => ?_
                simp [PreOf, factOf, valOf, Ph.is, Ph.by_, Ph.any, Region.binds] at hp
                refine ⟨by simp [Gd, valOf, hp], ?_⟩
                refine mild_val (.bool false) ?_ rfl
                simp [execOp, evalF, hp, go_sem]
                try omega
              · -- 23: slot 32 := Op.pick t25 (const (Value.bool true)) t31
                refine ob_yes fun f w' hb hp => ?_
                simp [PreOf, factOf, valOf, Ph.is, Ph.by_, Ph.any, Region.binds] at hp
                refine ⟨by simp [Gd, valOf, hp], ?_⟩
                refine mild_val (.bool false) ?_ rfl
                simp [execOp, evalF, hp, go_sem]
              · -- 24: slot 33 := Op.move t32
                refine ob_yes fun f w' hb hp => ?_
                simp [PreOf, factOf, valOf, Ph.is, Ph.by_, Ph.any, Region.binds] at hp
                refine ⟨by simp [Gd, valOf, hp], ?_⟩
                refine mild_val (.bool false) ?_ rfl
                simp [execOp, evalF, hp]
              · -- 25: slot 34 := Op.move t0
                refine ob_yes fun f w' hb hp => ?_
                simp [PreOf, factOf, valOf, Ph.is, Ph.by_, Ph.any, Region.binds] at hp
                refine ⟨by simp [Gd, valOf, hp], ?_⟩
                refine mild_val (.slice (some ad) l.length c) ?_ rfl
                simp [execOp, evalF, hp]
              · -- 26: slot 35 := Op.move t3
                refine ob_yes fun f w' hb hp => ?_
                simp [PreOf, factOf, valOf, Ph.is, Ph.by_, Ph.any, Region.binds] at hp
                refine ⟨by simp [Gd, valOf, hp], ?_⟩
                refine mild_val (.int .i64 ((0 : Nat) : Int)) ?_ rfl
                simp [execOp, evalF, hp]
              · -- 27: slot 36 := Op.indexAddr 41 t34 t35
                refine ob_yes fun f w' hb hp => ?_
                simp [PreOf, factOf, valOf, Ph.is, Ph.by_, Ph.any, Region.binds] at hp
                refine ⟨by simp [Gd, valOf, hp], ?_⟩
                refine mild_val (.pointer (some pp)) ?_ rfl
                simp [execOp, evalF, hp, go_sem, hlt, hpp]
                try exact fun h => absurd (h (by omega)) (by omega)
              · -- 28: slot 37 := Op.fieldAddr 59 t36 2
                refine ob_yes fun f w' hb hp => ?_
                simp [PreOf, factOf, valOf, Ph.is, Ph.by_, Ph.any, Region.binds] at hp
                refine ⟨by simp [Gd, valOf, hp], ?_⟩
                refine mild_val (.pointer (some ⟨pp.block, pp.off + 2, none⟩)) ?_ rfl
                simp [execOp, evalF, hp, go_sem]
              · -- 29: slot 38 := Op.load 51 t37
                refine ob_yes fun f w' hb hp => ?_
                simp [PreOf, factOf, valOf, Ph.is, Ph.by_, Ph.any, Region.binds] at hp
                refine ⟨by simp [Gd, valOf, hp], ?_⟩
                have hc := (hb.cell (p := ⟨pp.block, pp.off + 2, none⟩) hblk).trans hx2
                refine mild_val (.int .u32 (a3 : Int)) ?_ rfl
                simp [execOp, evalF, hp, hc, go_sem]
              · -- 30: slot 39 := Op.binOp BinOp.eql 51 t38 (const (0:u32)) 51
                refine ob_yes fun f w' hb hp => ?_
                simp [PreOf, factOf, valOf, Ph.is, Ph.by_, Ph.any, Region.binds] at hp
                refine ⟨by simp [Gd, valOf, hp], ?_⟩
                refine mild_val (.bool false) ?_ rfl
                simp [execOp, evalF, hp, go_sem]
                try omega
              · -- 31: slot 40 := Op.pick t33 (const (Value.bool true)) t39
                refine ob_yes fun f w' hb hp => ?_
                simp [PreOf, factOf, valOf, Ph.is, Ph.by_, Ph.any, Region.binds] at hp
                refine ⟨by simp [Gd, valOf, hp], ?_⟩
                refine mild_val (.bool false) ?_ rfl
                simp [execOp, evalF, hp, go_sem]
            · intro f w2 hb2 hp
              simp only [PostOf, Ph.is, Ph.by_, Ph.any] at hp
              obtain ⟨h0, h1, h2, h3, h4, h5, h6, h7, h8, h9, h10, h11, h12, h13, h14, h15, h16, h17, h18, h19, h20, h21, h22, h23, h24, h25, h26, h27, h28, h29, h30, h31, _⟩ := hp
              simp only [fills, List.foldl_cons, List.foldl_nil, Act.put, List.setIfInBounds_toArray, List.set_cons_zero, List.set_cons_succ, h0, h1, h2, h3, h4, h5, h6, h7, h8, h9, h10, h11, h12, h13, h14, h15, h16, h17, h18, h19, h20, h21, h22, h23, h24, h25, h26, h27, h28, h29, h30, h31]
              clear h0 h1 h2 h3 h4 h5 h6 h7 h8 h9 h10 h11 h12 h13 h14 h15 h16 h17 h18 h19 h20 h21 h22 h23 h24 h25 h26 h27 h28 h29 h30 h31
              have Hb2 := Lib.hid hb2
              clear hb2
              go_wp2_with fail
              go_roundw
              case rel => exact ⟨_, by omega, by go_num, HT.out, bstep Hbl.out Hb2.out⟩
              case measure => simp [intOf]; omega
      · obtain ⟨p, rfl⟩ : ∃ p, k = p + 1 := ⟨k - 1, by omega⟩
        obtain ⟨hp, hnx⟩ := Hp.out p rfl
        obtain ⟨ad2, e2, hab2, hy0, _, _⟩ := Hcells.out p hp
        injection e2 with e2
        subst e2
        have hlp0 : p < l.length := hp
        have hk1 : (((p + 1 : Nat) : Int) - 1) = (p : Int) := by omega
        have hk2 : ((p : Int) + 1 - 1) = (p : Int) := by omega
        have hgt : decide (((p + 1 : Nat) : Int) > 0) = true := decide_eq_true (by omega)
        have hgt' : decide (0 < p + 1) = true := decide_eq_true (by omega)
        have hgt2 : decide ((0 : Int) < (p : Int) + 1) = true := decide_eq_true (by omega)
        have hlp := u32_lt (l[p]).low
        subst hnx
        have hblq : (ad.add (p * 3)).block < wr.heap.size := by rw [add_block]; omega
        generalize hqq : ad.add (p * 3) = qq at *
        generalize (l[p]).low.toNat = y at *
        clear Hp Hcells Hz0 hk0
        by_cases hle : a1 ≤ y
        · have hd : decide (y + 1 ≤ a1) = false := decide_eq_false (by omega)
          have hd1 : decide (a1 ≤ y) = true := decide_eq_true hle
          have hd2 : decide ((a1 : Int) ≤ (y : Int)) = true := decide_eq_true (by omega)
          rw [hd, Bool.false_and, Bool.false_and] at hat
          have HF := Lib.hid (Hst.out hat)
          clear hat hd
          go_wp2_with fail
          refine wp_region_typed [some 9, some 10, some 11, some 12, some 13, some 14, some 15, some 16, some 17, some 18, some 19, some 20, some 21, some 22, some 23, some 24, some 25, some 26, some 27, some 28, some 29, some 30, some 31, some 32, some 33, some 34, some 35, some 36, some 37, some 38, some 39, some 40] [9, 10, 11, 12, 13, 14, 15, 16, 17, 18, 19, 20, 21, 22, 23, 24, 25, 26, 27, 28, 29, 30, 31, 32, 33, 34, 35, 36, 37, 38, 39, 40]
            [Ph.is (.int .i64 ((p + 1 : Nat) : Int)),
              Ph.is (.bool true),
              Ph.is (.bool true),
              Ph.is (.slice (some ad) l.length c),
              Ph.is (.int .i64 ((p + 1 : Nat) : Int)),
              Ph.is (.pointer (some pp)),
              Ph.is (.pointer (some pp)),
              Ph.is (.int .u32 (a1 : Int)),
              Ph.is (.slice (some ad) l.length c),
              Ph.is (.int .i64 ((p + 1 : Nat) : Int)),
              Ph.is (.int .i64 (p : Int)),
              Ph.is (.pointer (some qq)),
              Ph.is (.pointer (some qq)),
              Ph.is (.int .u32 (y : Int)),
              Ph.is (.bool true),
              Ph.is (.bool true),
              Ph.is (.bool true),
              Ph.is undef,
              Ph.is undef,
              Ph.is undef,
              Ph.is undef,
              Ph.is undef,
              Ph.is undef,
              Ph.is (.bool true),
              Ph.is (.bool true),
              Ph.is undef,
              Ph.is undef,
              Ph.is undef,
              Ph.is undef,
              Ph.is undef,
              Ph.is undef,
              Ph.is (.bool true)] rfl rfl (by kernel_rfl) (by kernel_rfl) ?_ ?_
          · refine ⟨?_, ?_, ?_, ?_, ?_, ?_, ?_, ?_, ?_, ?_, ?_, ?_, ?_, ?_, ?_, ?_, ?_, ?_, ?_, ?_, ?_, ?_, ?_, ?_, ?_, ?_, ?_, ?_, ?_, ?_, ?_, ?_, trivial⟩
            · -- 0: slot 9 := Op.move t3
              refine ob_yes fun f w' hb hp => ?_
              simp [PreOf, factOf, valOf, Ph.is, Ph.by_, Ph.any, Region.binds] at hp
              refine ⟨by simp [Gd, valOf, hp], ?_⟩
              refine mild_val (.int .i64 ((p + 1 : Nat) : Int)) ?_ rfl
              simp [execOp, evalF, hp]
            · -- 1: slot 10 := Op.binOp BinOp.gtr 3 t9 (const (0:i64)) 3
              refine ob_yes fun f w' hb hp => ?_
              simp [PreOf, factOf, valOf, Ph.is, Ph.by_, Ph.any, Region.binds] at hp
              refine ⟨by simp [Gd, valOf, hp], ?_⟩
              refine mild_val (.bool true) ?_ rfl
              simp [execOp, evalF, hp, go_sem]
            · -- 2: slot 11 := Op.move t10
              refine ob_yes fun f w' hb hp => ?_
              simp [PreOf, factOf, valOf, Ph.is, Ph.by_, Ph.any, Region.binds] at hp
              refine ⟨by simp [Gd, valOf, hp], ?_⟩
              refine mild_val (.bool true) ?_ rfl
              simp [execOp, evalF, hp]
            · -- 3: slot 12 := Op.move t0
              refine ob_yes fun f w' hb hp => ?_
              simp [PreOf, factOf, valOf, Ph.is, Ph.by_, Ph.any, Region.binds] at hp
              refine ⟨by simp [Gd, valOf, hp], ?_⟩
              refine mild_val (.slice (some ad) l.length c) ?_ rfl
              simp [execOp, evalF, hp]
            · -- 4: slot 13 := Op.move t3
              refine ob_yes fun f w' hb hp => ?_
              simp [PreOf, factOf, valOf, Ph.is, Ph.by_, Ph.any, Region.binds] at hp
              refine ⟨by simp [Gd, valOf, hp], ?_⟩
              refine mild_val (.int .i64 ((p + 1 : Nat) : Int)) ?_ rfl
              simp [execOp, evalF, hp]
            · -- 5: slot 14 := Op.indexAddr 41 t12 t13
              refine ob_yes fun f w' hb hp => ?_
              simp [PreOf, factOf, valOf, Ph.is, Ph.by_, Ph.any, Region.binds] at hp
              refine ⟨by simp [Gd, valOf, hp], ?_⟩
              refine mild_val (.pointer (some pp)) ?_ rfl
              simp [execOp, evalF, hp, go_sem, hlt, hpp]
              try exact fun h => absurd (h (by omega)) (by omega)
            · -- 6: slot 15 := Op.fieldAddr 59 t14 0
              refine ob_yes fun f w' hb hp => ?_
              simp [PreOf, factOf, valOf, Ph.is, Ph.by_, Ph.any, Region.binds] at hp
              refine ⟨by simp [Gd, valOf, hp], ?_⟩
              refine mild_val (.pointer (some pp)) ?_ rfl
              simp [execOp, evalF, hp, go_sem]
            · -- 7: slot 16 := Op.load 51 t15
              refine ob_yes fun f w' hb hp => ?_
              simp [PreOf, factOf, valOf, Ph.is, Ph.by_, Ph.any, Region.binds] at hp
              refine ⟨by simp [Gd, valOf, hp], ?_⟩
              have hc := (hb.cell (p := pp) hblk).trans hx0
              refine mild_val (.int .u32 (a1 : Int)) ?_ rfl
              simp [execOp, evalF, hp, hc, go_sem]
            · -- 8: slot 17 := Op.move t0
              refine ob_yes fun f w' hb hp => ?_
              simp [PreOf, factOf, valOf, Ph.is, Ph.by_, Ph.any, Region.binds] at hp
              refine ⟨by simp [Gd, valOf, hp], ?_⟩
              refine mild_val (.slice (some ad) l.length c) ?_ rfl
              simp [execOp, evalF, hp]
            · -- 9: slot 18 := Op.move t3
              refine ob_yes fun f w' hb hp => ?_
              simp [PreOf, factOf, valOf, Ph.is, Ph.by_, Ph.any, Region.binds] at hp
              refine ⟨by simp [Gd, valOf, hp], ?_⟩
              refine mild_val (.int .i64 ((p + 1 : Nat) : Int)) ?_ rfl
              simp [execOp, evalF, hp]
            · -- 10: slot 19 := Op.binOp BinOp.sub 3 t18 (const (1:i64)) 3
              refine ob_yes fun f w' hb hp => ?_
              simp [PreOf, factOf, valOf, Ph.is, Ph.by_, Ph.any, Region.binds] at hp
              refine ⟨by simp [Gd, valOf, hp], ?_⟩
              refine mild_val (.int .i64 (p : Int)) ?_ rfl
              simp [execOp, evalF, hp, go_sem]
              rw [wrap_i64]; omega
            · -- 11: slot 20 := Op.indexAddr 41 t17 t19
              refine ob_yes fun f w' hb hp => ?_
              simp [PreOf, factOf, valOf, Ph.is, Ph.by_, Ph.any, Region.binds] at hp
              refine ⟨by simp [Gd, valOf, hp], ?_⟩
              refine mild_val (.pointer (some qq)) ?_ rfl
              simp [execOp, evalF, hp, go_sem, hlp0, hqq]
              try exact fun h => absurd (h (by omega)) (by omega)
            · -- 12: slot 21 := Op.fieldAddr 59 t20 0
              refine ob_yes fun f w' hb hp => ?_
              simp [PreOf, factOf, valOf, Ph.is, Ph.by_, Ph.any, Region.binds] at hp
              refine ⟨by simp [Gd, valOf, hp], ?_⟩
              refine mild_val (.pointer (some qq)) ?_ rfl
              simp [execOp, evalF, hp, go_sem]
            · -- 13: slot 22 := Op.load 51 t21
              refine ob_yes fun f w' hb hp => ?_
              simp [PreOf, factOf, valOf, Ph.is, Ph.by_, Ph.any, Region.binds] at hp
              refine ⟨by simp [Gd, valOf, hp], ?_⟩
              have hc := (hb.cell (p := qq) hblq).trans hy0
              refine mild_val (.int .u32 (y : Int)) ?_ rfl
              simp [execOp, evalF, hp, hc, go_sem]
            · -- 14: slot 23 := Op.binOp BinOp.leq 51 t16 t22 51
              refine ob_yes fun f w' hb hp => ?_
              simp [PreOf, factOf, valOf, Ph.is, Ph.by_, Ph.any, Region.binds] at hp
              refine ⟨by simp [Gd, valOf, hp], ?_⟩
              refine mild_val (.bool true) ?_ rfl
              simp [execOp, evalF, hp, go_sem]
              try omega
            · -- 15: slot 24 := Op.pick t11 t23 (const (Value.bool false))
              refine ob_yes fun f w' hb hp => ?_
              simp [PreOf, factOf, valOf, Ph.is, Ph.by_, Ph.any, Region.binds] at hp
              refine ⟨by simp [Gd, valOf, hp], ?_⟩
              refine mild_val (.bool true) ?_ rfl
              simp [execOp, evalF, hp, go_sem]
            · -- 16: slot 25 := Op.move t24
              refine ob_yes fun f w' hb hp => ?_
              simp [PreOf, factOf, valOf, Ph.is, Ph.by_, Ph.any, Region.binds] at hp
              refine ⟨by simp [Gd, valOf, hp], ?_⟩
              refine mild_val (.bool true) ?_ rfl
              simp [execOp, evalF, hp]
            · -- 17: slot 26 := Op.move t0
              refine ob_no fun f w' hb hp => ?_
              simp [PreOf, factOf, valOf, Ph.is, Ph.by_, Ph.any, Region.binds] at hp
              exact ⟨by simp [Gd, valOf, hp], rfl⟩
            · -- 18: slot 27 := Op.move t3
              refine ob_no fun f w' hb hp => ?_
              simp [PreOf, factOf, valOf, Ph.is, Ph.by_, Ph.any, Region.binds] at hp
              exact ⟨by simp [Gd, valOf, hp], rfl⟩
            · -- 19: slot 28 := Op.indexAddr 41 t26 t27
              refine ob_no fun f w' hb hp => ?_
              simp [PreOf, factOf, valOf, Ph.is, Ph.by_, Ph.any, Region.binds] at hp
              exact ⟨by simp [Gd, valOf, hp], rfl⟩
            · -- 20: slot 29 := Op.fieldAddr 59 t28 1
              refine ob_no fun f w' hb hp => ?_
              simp [PreOf, factOf, valOf, Ph.is, Ph.by_, Ph.any, Region.binds] at hp
              exact ⟨by simp [Gd, valOf, hp], rfl⟩
            · -- 21: slot 30 := Op.load 51 t29
              refine ob_no fun f w' hb hp => ?_
              simp [PreOf, factOf, valOf, Ph.is, Ph.by_, Ph.any, Region.binds] at hp
              exact ⟨by simp [Gd, valOf, hp], rfl⟩
            · -- 22: slot 31 := Op.binOp BinOp.eql 51 t30 (const (0:u32)) 51
              refine ob_no fun f w' hb hp => ?_
              simp [PreOf, factOf, valOf, Ph.is, Ph.by_, Ph.any, Region.binds] at hp
              exact ⟨by simp [Gd, valOf, hp], rfl⟩
            · -- 23: slot 32 := Op.pick t25 (const (Value.bool true)) t31
              refine ob_yes fun f w' hb hp => ?_
              simp [PreOf, factOf, valOf, Ph.is, Ph.by_, Ph.any, Region.binds] at hp
              refine ⟨by simp [Gd, valOf, hp], ?_⟩
              refine mild_val (.bool true) ?_ rfl
              simp [execOp, evalF, hp, go_sem]
            · -- 24: slot 33 := Op.move t32
              refine ob_yes fun f w' hb hp => ?_
              simp [PreOf, factOf, valOf, Ph.is, Ph.by_, Ph.any, Region.binds] at hp
              refine ⟨by simp [Gd, valOf, hp], ?_⟩
              refine mild_val (.bool true) ?_ rfl
              simp [execOp, evalF, hp]
            · -- 25: slot 34 := Op.move t0
              refine ob_no fun f w' hb hp => ?_
              simp [PreOf, factOf, valOf, Ph.is, Ph.by_, Ph.any, Region.binds] at hp
              exact ⟨by simp [Gd, valOf, hp], rfl⟩
            · -- 26: slot 35 := Op.move t3
              refine ob_no fun f w' hb hp => ?_
              simp [PreOf, factOf, valOf, Ph.is, Ph.by_, Ph.any, Region.binds] at hp
              exact ⟨by simp [Gd, valOf, hp], rfl⟩
            · -- 27: slot 36 := Op.indexAddr 41 t34 t35
              refine ob_no fun f w' hb hp => ?_
              simp [PreOf, factOf, valOf, Ph.is, Ph.by_, Ph.any, Region.binds] at hp
              exact ⟨by simp [Gd, valOf, hp], rfl⟩
            · -- 28: slot 37 := Op.fieldAddr 59 t36 2
              refine ob_no fun f w' hb hp => ?_
              simp [PreOf, factOf, valOf, Ph.is, Ph.by_, Ph.any, Region.binds] at hp
              exact ⟨by simp [Gd, valOf, hp], rfl⟩
            · -- 29: slot 38 := Op.load 51 t37
              refine ob_no fun f w' hb hp => ?_
              simp [PreOf, factOf, valOf, Ph.is, Ph.by_, Ph.any, Region.binds] at hp
              exact ⟨by simp [Gd, valOf, hp], rfl⟩
            · -- 30: slot 39 := Op.binOp BinOp.eql 51 t38 (const (0:u32)) 51
              refine ob_no fun f w' hb hp => ?_
              simp [PreOf, factOf, valOf, Ph.is, Ph.by_, Ph.any, Region.binds] at hp
              exact ⟨by simp [Gd, valOf, hp], rfl⟩
            · -- 31: slot 40 := Op.pick t33 (const (Value.bool true)) t39
              refine ob_yes fun f w' hb hp => ?_
              simp [PreOf, factOf, valOf, Ph.is, Ph.by_, Ph.any, Region.binds] at hp
              refine ⟨by simp [Gd, valOf, hp], ?_⟩
              refine mild_val (.bool true) ?_ rfl
              simp [execOp, evalF, hp, go_sem]
          · intro f w2 hb2 hp
            simp only [PostOf, Ph.is, Ph.by_, Ph.any] at hp
            obtain ⟨h0, h1, h2, h3, h4, h5, h6, h7, h8, h9, h10, h11, h12, h13, h14, h15, h16, h17, h18, h19, h20, h21, h22, h23, h24, h25, h26, h27, h28, h29, h30, h31, _⟩ := hp
            simp only [fills, List.foldl_cons, List.foldl_nil, Act.put, List.setIfInBounds_toArray, List.set_cons_zero, List.set_cons_succ, h0, h1, h2, h3, h4, h5, h6, h7, h8, h9, h10, h11, h12, h13, h14, h15, h16, h17, h18, h19, h20, h21, h22, h23, h24, h25, h26, h27, h28, h29, h30, h31]
            clear h0 h1 h2 h3 h4 h5 h6 h7 h8 h9 h10 h11 h12 h13 h14 h15 h16 h17 h18 h19 h20 h21 h22 h23 h24 h25 h26 h27 h28 h29 h30 h31
            have Hb2 := Lib.hid hb2
            clear hb2
            go_wp2_with fail
            go_ret
            rw [HF.out]
            exact ⟨rfl, bstep Hbl.out Hb2.out⟩
        · have hd : decide (y + 1 ≤ a1) = true := decide_eq_true (by omega)
          have hd1 : decide (a1 ≤ y) = false := decide_eq_false hle
          have hd2 : decide ((a1 : Int) ≤ (y : Int)) = false := decide_eq_false (by omega)
          rw [hd] at hat
          clear hd
          by_cases hr : a2 = 0
          · have hr1 : ((a2 : Int) == 0) = true := by simp; omega
            rw [hr1, Bool.not_true, Bool.and_false, Bool.false_and] at hat
            have HF := Lib.hid (Hst.out hat)
            clear hat
            go_wp2_with fail
            refine wp_region_typed [some 9, some 10, some 11, some 12, some 13, some 14, some 15, some 16, some 17, some 18, some 19, some 20, some 21, some 22, some 23, some 24, some 25, some 26, some 27, some 28, some 29, some 30, some 31, some 32, some 33, some 34, some 35, some 36, some 37, some 38, some 39, some 40] [9, 10, 11, 12, 13, 14, 15, 16, 17, 18, 19, 20, 21, 22, 23, 24, 25, 26, 27, 28, 29, 30, 31, 32, 33, 34, 35, 36, 37, 38, 39, 40]
              [Ph.is (.int .i64 ((p + 1 : Nat) : Int)),
                Ph.is (.bool true),
                Ph.is (.bool true),
                Ph.is (.slice (some ad) l.length c),
                Ph.is (.int .i64 ((p + 1 : Nat) : Int)),
                Ph.is (.pointer (some pp)),
                Ph.is (.pointer (some pp)),
                Ph.is (.int .u32 (a1 : Int)),
                Ph.is (.slice (some ad) l.length c),
                Ph.is (.int .i64 ((p + 1 : Nat) : Int)),
                Ph.is (.int .i64 (p : Int)),
                Ph.is (.pointer (some qq)),
                Ph.is (.pointer (some qq)),
                Ph.is (.int .u32 (y : Int)),
                Ph.is (.bool false),
                Ph.is (.bool false),
                Ph.is (.bool false),
                Ph.is (.slice (some ad) l.length c),
                Ph.is (.int .i64 ((p + 1 : Nat) : Int)),
                Ph.is (.pointer (some pp)),
                Ph.is (.pointer (some ⟨pp.block, pp.off + 1, none⟩)),
                Ph.is (.int .u32 (a2 : Int)),
                Ph.is (.bool true),
                Ph.is (.bool true),
                Ph.is (.bool true),
                Ph.is undef,
                Ph.is undef,
                Ph.is undef,
                Ph.is undef,
                Ph.is undef,
                Ph.is undef,
                Ph.is (.bool true)] rfl rfl (by kernel_rfl) (by kernel_rfl) ?_ ?_
            · refine ⟨?_, ?_, ?_, ?_, ?_, ?_, ?_, ?_, ?_, ?_, ?_, ?_, ?_, ?_, ?_, ?_, ?_, ?_, ?_, ?_, ?_, ?_, ?_, ?_, ?_, ?_, ?_, ?_, ?_, ?_, ?_, ?_, trivial⟩
              · -- 0: slot 9 := Op.move t3
                refine ob_yes fun f w' hb hp => ?_
                simp [PreOf, factOf, valOf, Ph.is, Ph.by_, Ph.any, Region.binds] at hp
                refine ⟨by simp [Gd, valOf, hp], ?_⟩
                refine mild_val (.int .i64 ((p + 1 : Nat) : Int)) ?_ rfl
                simp [execOp, evalF, hp]
              · -- 1: slot 10 := Op.binOp BinOp.gtr 3 t9 (const (0:i64)) 3
                refine ob_yes fun f w' hb hp => ?_
                simp [PreOf, factOf, valOf, Ph.is, Ph.by_, Ph.any, Region.binds] at hp
                refine ⟨by simp [Gd, valOf, hp], ?_⟩
                refine mild_val (.bool true) ?_ rfl
                simp [execOp, evalF, hp, go_sem]
              · -- 2: slot 11 := Op.move t10
                refine ob_yes fun f w' hb hp => ?_
                simp [PreOf, factOf, valOf, Ph.is, Ph.by_, Ph.any, Region.binds] at hp
                refine ⟨by simp [Gd, valOf, hp], ?_⟩
                refine mild_val (.bool true) ?_ rfl
                simp [execOp, evalF, hp]
              · -- 3: slot 12 := Op.move t0
                refine ob_yes fun f w' hb hp => ?_
                simp [PreOf, factOf, valOf, Ph.is, Ph.by_, Ph.any, Region.binds] at hp
                refine ⟨by simp [Gd, valOf, hp], ?_⟩
                refine mild_val (.slice (some ad) l.length c) ?_ rfl
                simp [execOp, evalF, hp]
              · -- 4: slot 13 := Op.move t3
                refine ob_yes fun f w' hb hp => ?_
                simp [PreOf, factOf, valOf, Ph.is, Ph.by_, Ph.any, Region.binds] at hp
                refine ⟨by simp [Gd, valOf, hp], ?_⟩
                refine mild_val (.int .i64 ((p + 1 : Nat) : Int)) ?_ rfl
                simp [execOp, evalF, hp]
              · -- 5: slot 14 := Op.indexAddr 41 t12 t13
                refine ob_yes fun f w' hb hp => ?_
                simp [PreOf, factOf, valOf, Ph.is, Ph.by_, Ph.any, Region.binds] at hp
                refine ⟨by simp [Gd, valOf, hp], ?_⟩
                refine mild_val (.pointer (some pp)) ?_ rfl
                simp [execOp, evalF, hp, go_sem, hlt, hpp]
                try exact fun h => absurd (h (by omega)) (by omega)
              · -- 6: slot 15 := Op.fieldAddr 59 t14 0
                refine ob_yes fun f w' hb hp => ?_
                simp [PreOf, factOf, valOf, Ph.is, Ph.by_, Ph.any, Region.binds] at hp
                refine ⟨by simp [Gd, valOf, hp], ?_⟩
                refine mild_val (.pointer (some pp)) ?_ rfl
                simp [execOp, evalF, hp, go_sem]
              · -- 7: slot 16 := Op.load 51 t15
                refine ob_yes fun f w' hb hp => ?_
                simp [PreOf, factOf, valOf, Ph.is, Ph.by_, Ph.any, Region.binds] at hp
                refine ⟨by simp [Gd, valOf, hp], ?_⟩
                have hc := (hb.cell (p := pp) hblk).trans hx0
                refine mild_val (.int .u32 (a1 : Int)) ?_ rfl
                simp [execOp, evalF, hp, hc, go_sem]
              · -- 8: slot 17 := Op.move t0
                refine ob_yes fun f w' hb hp => ?_
                simp [PreOf, factOf, valOf, Ph.is, Ph.by_, Ph.any, Region.binds] at hp
                refine ⟨by simp [Gd, valOf, hp], ?_⟩
                refine mild_val (.slice (some ad) l.length c) ?_ rfl
                simp [execOp, evalF, hp]
              · -- 9: slot 18 := Op.move t3
                refine ob_yes fun f w' hb hp => ?_
                simp [PreOf, factOf, valOf, Ph.is, Ph.by_, Ph.any, Region.binds] at hp
                refine ⟨by simp [Gd, valOf, hp], ?_⟩
                refine mild_val (.int .i64 ((p + 1 : Nat) : Int)) ?_ rfl
                simp [execOp, evalF, hp]
              · -- 10: slot 19 := Op.binOp BinOp.sub 3 t18 (const (1:i64)) 3
                refine ob_yes fun f w' hb hp => ?_
                simp [PreOf, factOf, valOf, Ph.is, Ph.by_, Ph.any, Region.binds] at hp
                refine ⟨by simp [Gd, valOf, hp], ?_⟩
                refine mild_val (.int .i64 (p : Int)) ?_ rfl
                simp [execOp, evalF, hp, go_sem]
                rw [wrap_i64]; omega
              · -- 11: slot 20 := Op.indexAddr 41 t17 t19
                refine ob_yes fun f w' hb hp => ?_
                simp [PreOf, factOf, valOf, Ph.is, Ph.by_, Ph.any, Region.binds] at hp
                refine ⟨by simp [Gd, valOf, hp], ?_⟩
                refine mild_val (.pointer (some qq)) ?_ rfl
                simp [execOp, evalF, hp, go_sem, hlp0, hqq]
                try exact fun h => absurd (h (by omega)) (by omega)
              · -- 12: slot 21 := Op.fieldAddr 59 t20 0
                refine ob_yes fun f w' hb hp => ?_
                simp [PreOf, factOf, valOf, Ph.is, Ph.by_, Ph.any, Region.binds] at hp
                refine ⟨by simp [Gd, valOf, hp], ?_⟩
                refine mild_val (.pointer (some qq)) ?_ rfl
                simp [execOp, evalF, hp, go_sem]
              · -- 13: slot 22 := Op.load 51 t21
                refine ob_yes fun f w' hb hp => ?_
                simp [PreOf, factOf, valOf, Ph.is, Ph.by_, Ph.any, Region.binds] at hp
                refine ⟨by simp [Gd, valOf, hp], ?_⟩
                have hc := (hb.cell (p := qq) hblq).trans hy0
                refine mild_val (.int .u32 (y : Int)) ?_ rfl
                simp [execOp, evalF, hp, hc, go_sem]
              · -- 14: slot 23 := Op.binOp BinOp.leq 51 t16 t22 51
                refine ob_yes fun f w' hb hp => ?_
                simp [PreOf, factOf, valOf, Ph.is, Ph.by_, Ph.any, Region.binds] at hp
                refine ⟨by simp [Gd, valOf, hp], ?_⟩
                refine mild_val (.bool false) ?_ rfl
                simp [execOp, evalF, hp, go_sem]
                try omega
              · -- 15: slot 24 := Op.pick t11 t23 (const (Value.bool false))
                refine ob_yes fun f w' hb hp => ?_
                simp [PreOf, factOf, valOf, Ph.is, Ph.by_, Ph.any, Region.binds] at hp
                refine ⟨by simp [Gd, valOf, hp], ?_⟩
                refine mild_val (.bool false) ?_ rfl
                simp [execOp, evalF, hp, go_sem]
              · -- 16: slot 25 := Op.move t24
                refine ob_yes fun f w' hb hp => ?_
                simp [PreOf, factOf, valOf, Ph.is, Ph.by_, Ph.any, Region.binds] at hp
                refine ⟨by simp [Gd, valOf, hp], ?_⟩
                refine mild_val (.bool false) ?_ rfl
                simp [execOp, evalF, hp]
              · -- 17: slot 26 := Op.move t0
                refine ob_yes fun f w' hb hp => ?_
                simp [PreOf, factOf, valOf, Ph.is, Ph.by_, Ph.any, Region.binds] at hp
                refine ⟨by simp [Gd, valOf, hp], ?_⟩
                refine mild_val (.slice (some ad) l.length c) ?_ rfl
                simp [execOp, evalF, hp]
              · -- 18: slot 27 := Op.move t3
                refine ob_yes fun f w' hb hp => ?_
                simp [PreOf, factOf, valOf, Ph.is, Ph.by_, Ph.any, Region.binds] at hp
                refine ⟨by simp [Gd, valOf, hp], ?_⟩
                refine mild_val (.int .i64 ((p + 1 : Nat) : Int)) ?_ rfl
                simp [execOp, evalF, hp]
              · -- 19: slot 28 := Op.indexAddr 41 t26 t27
                refine ob_yes fun f w' hb hp => ?_
                simp [PreOf, factOf, valOf, Ph.is, Ph.by_, Ph.any, Region.binds] at hp
                refine ⟨by simp [Gd, valOf, hp], ?_⟩
                refine mild_val (.pointer (some pp)) ?_ rfl
                simp [execOp, evalF, hp, go_sem, hlt, hpp]
                try exact fun h => absurd (h (by omega)) (by omega)
              · -- 20: slot 29 := Op.fieldAddr 59 t28 1
                refine ob_yes fun f w' hb hp => ?_
                simp [PreOf, factOf, valOf, Ph.is, Ph.by_, Ph.any, Region.binds] at hp
                refine ⟨by simp [Gd, valOf, hp], ?_⟩
                refine mild_val (.pointer (some ⟨pp.block, pp.off + 1, none⟩)) ?_ rfl
                simp [execOp, evalF, hp, go_sem]
              · -- 21: slot 30 := Op.load 51 t29
                refine ob_yes fun f w' hb hp => ?_
                simp [PreOf, factOf, valOf, Ph.is, Ph.by_, Ph.any, Region.binds] at hp
                refine ⟨by simp [Gd, valOf, hp], ?_⟩
                have hc := (hb.cell (p := ⟨pp.block, pp.off + 1, none⟩) hblk).trans hx1
                refine mild_val (.int .u32 (a2 : Int)) ?_ rfl
                simp [execOp, evalF, hp, hc, go_sem]
              · -- 22: slot 31 := Op.binOp BinOp.eql 51 t30 (const (0:u32)) 51
                refine ob_yes fun f w' hb hp => ?_
                simp [PreOf, factOf, valOf, Ph.is, Ph.by_, Ph.any, Region.binds] at hp
                refine ⟨by simp [Gd, valOf, hp], ?_⟩
                refine mild_val (.bool true) ?_ rfl
                simp [execOp, evalF, hp, go_sem]
                try omega
              · -- 23: slot 32 := Op.pick t25 (const (Value.bool true)) t31
                refine ob_yes fun f w' hb hp => ?_
                simp [PreOf, factOf, valOf, Ph.is, Ph.by_, Ph.any, Region.binds] at hp
                refine ⟨by simp [Gd, valOf, hp], ?_⟩
                refine mild_val (.bool true) ?_ rfl
                simp [execOp, evalF, hp, go_sem]
              · -- 24: slot 33 := Op.move t32
                refine ob_yes fun f w' hb hp => ?_
                simp [PreOf, factOf, valOf, Ph.is, Ph.by_, Ph.any, Region.binds] at hp
                refine ⟨by simp [Gd, valOf, hp], ?_⟩
                refine mild_val (.bool true) ?_ rfl
                simp [execOp, evalF, hp]
              · -- 25: slot 34 := Op.move t0
                refine ob_no fun f w' hb hp => ?_
                simp [PreOf, factOf, valOf, Ph.is, Ph.by_, Ph.any, Region.binds] at hp
                exact ⟨by simp [Gd, valOf, hp], rfl⟩
              · -- 26: slot 35 := Op.move t3
                refine ob_no fun f w' hb hp => ?_
                simp [PreOf, factOf, valOf, Ph.is, Ph.by_, Ph.any, Region.binds] at hp
                exact ⟨by simp [Gd, valOf, hp], rfl⟩
              · -- 27: slot 36 := Op.indexAddr 41 t34 t35
                refine ob_no fun f w' hb hp => ?_
                simp [PreOf, factOf, valOf, Ph.is, Ph.by_, Ph.any, Region.binds] at hp
                exact ⟨by simp [Gd, valOf, hp], rfl⟩
              · -- 28: slot 37 := Op.fieldAddr 59 t36 2
                refine ob_no fun f w' hb hp => ?_
                simp [PreOf, factOf, valOf, Ph.is, Ph.by_, Ph.any, Region.binds] at hp
                exact ⟨by simp [Gd, valOf, hp], rfl⟩
              · -- 29: slot 38 := Op.load 51 t37
                refine ob_no fun f w' hb hp => ?_
                simp [PreOf, factOf, valOf, Ph.is, Ph.by_, Ph.any, Region.binds] at hp
                exact ⟨by simp [Gd, valOf, hp], rfl⟩
              · -- 30: slot 39 := Op.binOp BinOp.eql 51 t38 (const (0:u32)) 51
                refine ob_no fun f w' hb hp => ?_
                simp [PreOf, factOf, valOf, Ph.is, Ph.by_, Ph.any, Region.binds] at hp
                exact ⟨by simp [Gd, valOf, hp], rfl⟩
              · -- 31: slot 40 := Op.pick t33 (const (Value.bool true)) t39
                refine ob_yes fun f w' hb hp => ?_
                simp [PreOf, factOf, valOf, Ph.is, Ph.by_, Ph.any, Region.binds] at hp
                refine ⟨by simp [Gd, valOf, hp], ?_⟩
                refine mild_val (.bool true) ?_ rfl
                simp [execOp, evalF, hp, go_sem]
            · intro f w2 hb2 hp
              simp only [PostOf, Ph.is, Ph.by_, Ph.any] at hp
              obtain ⟨h0, h1, h2, h3, h4, h5, h6, h7, h8, h9, h10, h11, h12, h13, h14, h15, h16, h17, h18, h19, h20, h21, h22, h23, h24, h25, h26, h27, h28, h29, h30, h31, _⟩ := hp
              simp only [fills, List.foldl_cons, List.foldl_nil, Act.put, List.setIfInBounds_toArray, List.set_cons_zero, List.set_cons_succ, h0, h1, h2, h3, h4, h5, h6, h7, h8, h9, h10, h11, h12, h13, h14, h15, h16, h17, h18, h19, h20, h21, h22, h23, h24, h25, h26, h27, h28, h29, h30, h31]
              clear h0 h1 h2 h3 h4 h5 h6 h7 h8 h9 h10 h11 h12 h13 h14 h15 h16 h17 h18 h19 h20 h21 h22 h23 h24 h25 h26 h27 h28 h29 h30 h31
              have Hb2 := Lib.hid hb2
              clear hb2
              go_wp2_with fail
              go_ret
              rw [HF.out]
              exact ⟨rfl, bstep Hbl.out Hb2.out⟩
          · have hr1 : ((a2 : Int) == 0) = false := by simp; omega
            rw [hr1] at hat
            by_cases hs : a3 = 0
            · have hs1 : ((a3 : Int) == 0) = true := by simp; omega
              rw [hs1, Bool.not_true, Bool.and_false] at hat
              have HF := Lib.hid (Hst.out hat)
              clear hat
              go_wp2_with fail
              refine wp_region_typed [some 9, some 10, some 11, some 12, some 13, some 14, some 15, some 16, some 17, some 18, some 19, some 20, some 21, some 22, some 23, some 24, some 25, some 26, some 27, some 28, some 29, some 30, some 31, some 32, some 33, some 34, some 35, some 36, some 37, some 38, some 39, some 40] [9, 10, 11, 12, 13, 14, 15, 16, 17, 18, 19, 20, 21, 22, 23, 24, 25, 26, 27, 28, 29, 30, 31, 32, 33, 34, 35, 36, 37, 38, 39, 40]
                [Ph.is (.int .i64 ((p + 1 : Nat) : Int)),
                  Ph.is (.bool true),
                  Ph.is (.bool true),
                  Ph.is (.slice (some ad) l.length c),
                  Ph.is (.int .i64 ((p + 1 : Nat) : Int)),
                  Ph.is (.pointer (some pp)),
                  Ph.is (.pointer (some pp)),
                  Ph.is (.int .u32 (a1 : Int)),
                  Ph.is (.slice (some ad) l.length c),
                  Ph.is (.int .i64 ((p + 1 : Nat) : Int)),
                  Ph.is (.int .i64 (p : Int)),
                  Ph.is (.pointer (some qq)),
                  Ph.is (.pointer (some qq)),
                  Ph.is (.int .u32 (y : Int)),
                  Ph.is (.bool false),
                  Ph.is (.bool false),
                  Ph.is (.bool false),
                  Ph.is (.slice (some ad) l.length c),
                  Ph.is (.int .i64 ((p + 1 : Nat) : Int)),
                  Ph.is (.pointer (some pp)),
                  Ph.is (.pointer (some ⟨pp.block, pp.off + 1, none⟩)),
                  Ph.is (.int .u32 (a2 : Int)),
                  Ph.is (.bool false),
                  Ph.is (.bool false),
                  Ph.is (.bool false),
                  Ph.is (.slice (some ad) l.length c),
                  Ph.is (.int .i64 ((p + 1 : Nat) : Int)),
                  Ph.is (.pointer (some pp)),
                  Ph.is (.pointer (some ⟨pp.block, pp.off + 2, none⟩)),
                  Ph.is (.int .u32 (a3 : Int)),
                  Ph.is (.bool true),
                  Ph.is (.bool true)] rfl rfl (by kernel_rfl) (by kernel_rfl) ?_ ?_
              · refine ⟨?_, ?_, ?_, ?_, ?_, ?_, ?_, ?_, ?_, ?_, ?_, ?_, ?_, ?_, ?_, ?_, ?_, ?_, ?_, ?_, ?_, ?_, ?_, ?_, ?_, ?_, ?_, ?_, ?_, ?_, ?_, ?_, trivial⟩
                · -- 0: slot 9 := Op.move t3
                  refine ob_yes fun f w' hb hp => ?_
                  simp [PreOf, factOf, valOf, Ph.is, Ph.by_, Ph.any, Region.binds] at hp
                  refine ⟨by simp [Gd, valOf, hp], ?_⟩
                  refine mild_val (.int .i64 ((p + 1 : Nat) : Int)) ?_ rfl
                  simp [execOp, evalF, hp]
                · -- 1: slot 10 := Op.binOp BinOp.gtr 3 t9 (const (0:i64)) 3
                  refine ob_yes fun f w' hb hp => ?_
                  simp [PreOf, factOf, valOf, Ph.is, Ph.by_, Ph.any, Region.binds] at hp
                  refine ⟨by simp [Gd, valOf, hp], ?_⟩
                  refine mild_val (.bool true) ?_ rfl
                  simp [execOp, evalF, hp, go_sem]
                · -- 2: slot 11 := Op.move t10
                  refine ob_yes fun f w' hb hp => ?_
                  simp [PreOf, factOf, valOf, Ph.is, Ph.by_, Ph.any, Region.binds] at hp
                  refine ⟨by simp [Gd, valOf, hp], ?_⟩
                  refine mild_val (.bool true) ?_ rfl
                  simp [execOp, evalF, hp]
                · -- 3: slot 12 := Op.move t0
                  refine ob_yes fun f w' hb hp => ?_
                  simp [PreOf, factOf, valOf, Ph.is, Ph.by_, Ph.any, Region.binds] at hp
                  refine ⟨by simp [Gd, valOf, hp], ?_⟩
                  refine mild_val (.slice (some ad) l.length c) ?_ rfl
                  simp [execOp, evalF, hp]
                · -- 4: slot 13 := Op.move t3
                  refine ob_yes fun f w' hb hp => ?_
                  simp [PreOf, factOf, valOf, Ph.is, Ph.by_, Ph.any, Region.binds] at hp
                  refine ⟨by simp [Gd, valOf, hp], ?_⟩
                  refine mild_val (.int .i64 ((p + 1 : Nat) : Int)) ?_ rfl
                  simp [execOp, evalF, hp]
                · -- 5: slot 14 := Op.indexAddr 41 t12 t13
                  refine ob_yes fun f w' hb hp => ?_
                  simp [PreOf, factOf, valOf, Ph.is, Ph.by_, Ph.any, Region.binds] at hp
                  refine ⟨by simp [Gd, valOf, hp], ?_⟩
                  refine mild_val (.pointer (some pp)) ?_ rfl
                  simp [execOp, evalF, hp, go_sem, hlt, hpp]
                  try exact fun h => absurd (h (by omega)) (by omega)
                · -- 6: slot 15 := Op.fieldAddr 59 t14 0
                  refine ob_yes fun f w' hb hp => ?_
                  simp [PreOf, factOf, valOf, Ph.is, Ph.by_, Ph.any, Region.binds] at hp
                  refine ⟨by simp [Gd, valOf, hp], ?_⟩
                  refine mild_val (.pointer (some pp)) ?_ rfl
                  simp [execOp, evalF, hp, go_sem]
                · -- 7: slot 16 := Op.load 51 t15
                  refine ob_yes fun f w' hb hp => ?_
                  simp [PreOf, factOf, valOf, Ph.is, Ph.by_, Ph.any, Region.binds] at hp
                  refine ⟨by simp [Gd, valOf, hp], ?_⟩
                  have hc := (hb.cell (p := pp) hblk).trans hx0
                  refine mild_val (.int .u32 (a1 : Int)) ?_ rfl
                  simp [execOp, evalF, hp, hc, go_sem]
                · -- 8: slot 17 := Op.move t0
                  refine ob_yes fun f w' hb hp => ?_
                  simp [PreOf, factOf, valOf, Ph.is, Ph.by_, Ph.any, Region.binds] at hp
                  refine ⟨by simp [Gd, valOf, hp], ?_⟩
                  refine mild_val (.slice (some ad) l.length c) ?_ rfl
                  simp [execOp, evalF, hp]
                · -- 9: slot 18 := Op.move t3
                  refine ob_yes fun f w' hb hp => ?_
                  simp [PreOf, factOf, valOf, Ph.is, Ph.by_, Ph.any, Region.binds] at hp
                  refine ⟨by simp [Gd, valOf, hp], ?_⟩
                  refine mild_val (.int .i64 ((p + 1 : Nat) : Int)) ?_ rfl
                  simp [execOp, evalF, hp]
                · -- 10: slot 19 := Op.binOp BinOp.sub 3 t18 (const (1:i64)) 3
                  refine ob_yes fun f w' hb hp => ?_
                  simp [PreOf, factOf, valOf, Ph.is, Ph.by_, Ph.any, Region.binds] at hp
                  refine ⟨by simp [Gd, valOf, hp], ?_⟩
                  refine mild_val (.int .i64 (p : Int)) ?_ rfl
                  simp [execOp, evalF, hp, go_sem]
                  rw [wrap_i64]; omega
                · -- 11: slot 20 := Op.indexAddr 41 t17 t19
                  refine ob_yes fun f w' hb hp => ?_
                  simp [PreOf, factOf, valOf, Ph.is, Ph.by_, Ph.any, Region.binds] at hp
                  refine ⟨by simp [Gd, valOf, hp], ?_⟩
                  refine mild_val (.pointer (some qq)) ?_ rfl
                  simp [execOp, evalF, hp, go_sem, hlp0, hqq]
                  try exact fun h => absurd (h (by omega)) (by omega)
                · -- 12: slot 21 := Op.fieldAddr 59 t20 0
                  refine ob_yes fun f w' hb hp => ?_
                  simp [PreOf, factOf, valOf, Ph.is, Ph.by_, Ph.any, Region.binds] at hp
                  refine ⟨by simp [Gd, valOf, hp], ?_⟩
                  refine mild_val (.pointer (some qq)) ?_ rfl
                  simp [execOp, evalF, hp, go_sem]
                · -- 13: slot 22 := Op.load 51 t21
                  refine ob_yes fun f w' hb hp => ?_
                  simp [PreOf, factOf, valOf, Ph.is, Ph.by_, Ph.any, Region.binds] at hp
                  refine ⟨by simp [Gd, valOf, hp], ?_⟩
                  have hc := (hb.cell (p := qq) hblq).trans hy0
                  refine mild_val (.int .u32 (y : Int)) ?_ rfl
                  simp [execOp, evalF, hp, hc, go_sem]
                · -- 14: slot 23 := Op.binOp BinOp.leq 51 t16 t22 51
                  refine ob_yes fun f w' hb hp => ?_
                  simp [PreOf, factOf, valOf, Ph.is, Ph.by_, Ph.any, Region.binds] at hp
                  refine ⟨by simp [Gd, valOf, hp], ?_⟩
                  refine mild_val (.bool false) ?_ rfl
                  simp [execOp, evalF, hp, go_sem]
                  try omega
                · -- 15: slot 24 := Op.pick t11 t23 (const (Value.bool false))
                  refine ob_yes fun f w' hb hp => ?_
                  simp [PreOf, factOf, valOf, Ph.is, Ph.by_, Ph.any, Region.binds] at hp
                  refine ⟨by simp [Gd, valOf, hp], ?_⟩
                  refine mild_val (.bool false) ?_ rfl
                  simp [execOp, evalF, hp, go_sem]
                · -- 16: slot 25 := Op.move t24
                  refine ob_yes fun f w' hb hp => ?_
                  simp [PreOf, factOf, valOf, Ph.is, Ph.by_, Ph.any, Region.binds] at hp
                  refine ⟨by simp [Gd, valOf, hp], ?_⟩
                  refine mild_val (.bool false) ?_ rfl
                  simp [execOp, evalF, hp]
                · -- 17: slot 26 := Op.move t0
                  refine ob_yes fun f w' hb hp => ?_
                  simp [PreOf, factOf, valOf, Ph.is, Ph.by_, Ph.any, Region.binds] at hp
                  refine ⟨by simp [Gd, valOf, hp], ?_⟩
                  refine mild_val (.slice (some ad) l.length c) ?_ rfl
                  simp [execOp, evalF, hp]
                · -- 18: slot 27 := Op.move t3
                  refine ob_yes fun f w' hb hp => ?_
                  simp [PreOf, factOf, valOf, Ph.is, Ph.by_, Ph.any, Region.binds] at hp
                  refine ⟨by simp [Gd, valOf, hp], ?_⟩
                  refine mild_val (.int .i64 ((p + 1 : Nat) : Int)) ?_ rfl
                  simp [execOp, evalF, hp]
                · -- 19: slot 28 := Op.indexAddr 41 t26 t27
                  refine ob_yes fun f w' hb hp => ?_
                  simp [PreOf, factOf, valOf, Ph.is, Ph.by_, Ph.any, Region.binds] at hp
                  refine ⟨by simp [Gd, valOf, hp], ?_⟩
                  refine mild_val (.pointer (some pp)) ?_ rfl
                  simp [execOp, evalF, hp, go_sem, hlt, hpp]
                  try exact fun h => absurd (h (by omega)) (by omega)
                · -- 20: slot 29 := Op.fieldAddr 59 t28 1
                  refine ob_yes fun f w' hb hp => ?_
                  simp [PreOf, factOf, valOf, Ph.is, Ph.by_, Ph.any, Region.binds] at hp
                  refine ⟨by simp [Gd, valOf, hp], ?_⟩
                  refine mild_val (.pointer (some ⟨pp.block, pp.off + 1, none⟩)) ?_ rfl
                  simp [execOp, evalF, hp, go_sem]
                · -- 21: slot 30 := Op.load 51 t29
                  refine ob_yes fun f w' hb hp => ?_
                  simp [PreOf, factOf, valOf, Ph.is, Ph.by_, Ph.any, Region.binds] at hp
                  refine ⟨by simp [Gd, valOf, hp], ?_⟩
                  have hc := (hb.cell (p := ⟨pp.block, pp.off + 1, none⟩) hblk).trans hx1
                  refine mild_val (.int .u32 (a2 : Int)) ?_ rfl
                  simp [execOp, evalF, hp, hc, go_sem]
                · -- 22: slot 31 := Op.binOp BinOp.eql 51 t30 (const (0:u32)) 51
                  refine ob_yes fun f w' hb hp => ?_
                  simp [PreOf, factOf, valOf, Ph.is, Ph.by_, Ph.any, Region.binds] at hp
                  refine ⟨by simp [Gd, valOf, hp], ?_⟩
                  refine mild_val (.bool false) ?_ rfl
                  simp [execOp, evalF, hp, go_sem]
                  try omega
                · -- 23: slot 32 := Op.pick t25 (const (Value.bool true)) t31
                  refine ob_yes fun f w' hb hp => ?_
                  simp [PreOf, factOf, valOf, Ph.is, Ph.by_, Ph.any, Region.binds] at hp
                  refine ⟨by simp [Gd, valOf, hp], ?_⟩
                  refine mild_val (.bool false) ?_ rfl
                  simp [execOp, evalF, hp, go_sem]
                · -- 24: slot 33 := Op.move t32
                  refine ob_yes fun f w' hb hp => ?_
                  simp [PreOf, factOf, valOf, Ph.is, Ph.by_, Ph.any, Region.binds] at hp
                  refine ⟨by simp [Gd, valOf, hp], ?_⟩
                  refine mild_val (.bool false) ?_ rfl
                  simp [execOp, evalF, hp]
                · -- 25: slot 34 := Op.move t0
                  refine ob_yes fun f w' hb hp => ?_
                  simp [PreOf, factOf, valOf, Ph.is, Ph.by_, Ph.any, Region.binds] at hp
                  refine ⟨by simp [Gd, valOf, hp], ?_⟩
                  refine mild_val (.slice (some ad) l.length c) ?_ rfl
                  simp [execOp, evalF, hp]
                · -- 26: slot 35 := Op.move t3
                  refine ob_yes fun f w' hb hp => ?_
                  simp [PreOf, factOf, valOf, Ph.is, Ph.by_, Ph.any, Region.binds] at hp
                  refine ⟨by simp [Gd, valOf, hp], ?_⟩
                  refine mild_val (.int .i64 ((p + 1 : Nat) : Int)) ?_ rfl
                  simp [execOp, evalF, hp]
                · -- 27: slot 36 := Op.indexAddr 41 t34 t35
                  refine ob_yes fun f w' hb hp => ?_
                  simp [PreOf, factOf, valOf, Ph.is, Ph.by_, Ph.any, Region.binds] at hp
                  refine ⟨by simp [Gd, valOf, hp], ?_⟩
                  refine mild_val (.pointer (some pp)) ?_ rfl
                  simp [execOp, evalF, hp, go_sem, hlt, hpp]
                  try exact fun h => absurd (h (by omega)) (by omega)
                · -- 28: slot 37 := Op.fieldAddr 59 t36 2
                  refine ob_yes fun f w' hb hp => ?_
                  simp [PreOf, factOf, valOf, Ph.is, Ph.by_, Ph.any, Region.binds] at hp
                  refine ⟨by simp [Gd, valOf, hp], ?_⟩
                  refine mild_val (.pointer (some ⟨pp.block, pp.off + 2, none⟩)) ?_ rfl
                  simp [execOp, evalF, hp, go_sem]
                · -- 29: slot 38 := Op.load 51 t37
                  refine ob_yes fun f w' hb hp => ?_
                  simp [PreOf, factOf, valOf, Ph.is, Ph.by_, Ph.any, Region.binds] at hp
                  refine ⟨by simp [Gd, valOf, hp], ?_⟩
                  have hc := (hb.cell (p := ⟨pp.block, pp.off + 2, none⟩) hblk).trans hx2
                  refine mild_val (.int .u32 (a3 : Int)) ?_ rfl
                  simp [execOp, evalF, hp, hc, go_sem]
                · -- 30: slot 39 := Op.binOp BinOp.eql 51 t38 (const (0:u32)) 51
                  refine ob_yes fun f w' hb hp => ?_
                  simp [PreOf, factOf, valOf, Ph.is, Ph.by_, Ph.any, Region.binds] at hp
                  refine ⟨by simp [Gd, valOf, hp], ?_⟩
                  refine mild_val (.bool true) ?_ rfl
                  simp [execOp, evalF, hp, go_sem]
                  try omega
                · -- 31: slot 40 := Op.pick t33 (const (Value.bool true)) t39
                  refine ob_yes fun f w' hb hp => ?_
                  simp [PreOf, factOf, valOf, Ph.is, Ph.by_, Ph.any, Region.binds] at hp
                  refine ⟨by simp [Gd, valOf, hp], ?_⟩
                  refine mild_val (.bool true) ?_ rfl
                  simp [execOp, evalF, hp, go_sem]
              · intro f w2 hb2 hp
                simp only [PostOf, Ph.is, Ph.by_, Ph.any] at hp
                obtain ⟨h0, h1, h2, h3, h4, h5, h6, h7, h8, h9, h10, h11, h12, h13, h14, h15, h16, h17, h18, h19, h20, h21, h22, h23, h24, h25, h26, h27, h28, h29, h30, h31, _⟩ := hp
                simp only [fills, List.foldl_cons, List.foldl_nil, Act.put, List.setIfInBounds_toArray, List.set_cons_zero, List.set_cons_succ, h0, h1, h2, h3, h4, h5, h6, h7, h8, h9, h10, h11, h12, h13, h14, h15, h16, h17, h18, h19, h20, h21, h22, h23, h24, h25, h26, h27, h28, h29, h30, h31]
                clear h0 h1 h2 h3 h4 h5 h6 h7 h8 h9 h10 h11 h12 h13 h14 h15 h16 h17 h18 h19 h20 h21 h22 h23 h24 h25 h26 h27 h28 h29 h30 h31
                have Hb2 := Lib.hid hb2
                clear hb2
                go_wp2_with fail
                go_ret
                rw [HF.out]
                exact ⟨rfl, bstep Hbl.out Hb2.out⟩
            · have hs1 : ((a3 : Int) == 0) = false := by simp; omega
              rw [hs1, Bool.not_false, Bool.and_true, Bool.and_true] at hat
              have HT := Lib.hid hat
              clear hat
              go_wp2_with fail
              refine wp_region_typed [some 9, some 10, some 11, some 12, some 13, some 14, some 15, some 16, some 17, some 18, some 19, some 20, some 21, some 22, some 23, some 24, some 25, some 26, some 27, some 28, some 29, some 30, some 31, some 32, some 33, some 34, some 35, some 36, some 37, some 38, some 39, some 40] [9, 10, 11, 12, 13, 14, 15, 16, 17, 18, 19, 20, 21, 22, 23, 24, 25, 26, 27, 28, 29, 30, 31, 32, 33, 34, 35, 36, 37, 38, 39, 40]
                [Ph.is (.int .i64 ((p + 1 : Nat) : Int)),
                  Ph.is (.bool true),
                  Ph.is (.bool true),
                  Ph.is (.slice (some ad) l.length c),
                  Ph.is (.int .i64 ((p + 1 : Nat) : Int)),
                  Ph.is (.pointer (some pp)),
                  Ph.is (.pointer (some pp)),
                  Ph.is (.int .u32 (a1 : Int)),
                  Ph.is (.slice (some ad) l.length c),
                  Ph.is (.int .i64 ((p + 1 : Nat) : Int)),
                  Ph.is (.int .i64 (p : Int)),
                  Ph.is (.pointer (some qq)),
                  Ph.is (.pointer (some qq)),
                  Ph.is (.int .u32 (y : Int)),
                  Ph.is (.bool false),
                  Ph.is (.bool false),
                  Ph.is (.bool false),
                  Ph.is (.slice (some ad) l.length c),
                  Ph.is (.int .i64 ((p + 1 : Nat) : Int)),
                  Ph.is (.pointer (some pp)),
                  Ph.is (.pointer (some ⟨pp.block, pp.off + 1, none⟩)),
                  Ph.is (.int .u32 (a2 : Int)),
                  Ph.is (.bool false),
                  Ph.is (.bool false),
                  Ph.is (.bool false),
                  Ph.is (.slice (some ad) l.length c),
                  Ph.is (.int .i64 ((p + 1 : Nat) : Int)),
                  Ph.is (.pointer (some pp)),
                  Ph.is (.pointer (some ⟨pp.block, pp.off + 2, none⟩)),
                  Ph.is (.int .u32 (a3 : Int)),
                  Ph.is (.bool false),
                  Ph.is (.bool false)] rfl rfl (by kernel_rfl) (by kernel_rfl) ?_ ?_
              · refine ⟨?_, ?_, ?_, ?_, ?_, ?_, ?_, ?_, ?_, ?_, ?_, ?_, ?_, ?_, ?_, ?_, ?_, ?_, ?_, ?_, ?_, ?_, ?_, ?_, ?_, ?_, ?_, ?_, ?_, ?_, ?_, ?_, trivial⟩
                · -- 0: slot 9 := Op.move t3
                  refine ob_yes fun f w' hb hp => ?_
                  simp [PreOf, factOf, valOf, Ph.is, Ph.by_, Ph.any, Region.binds] at hp
                  refine ⟨by simp [Gd, valOf, hp], ?_⟩
                  refine mild_val (.int .i64 ((p + 1 : Nat) : Int)) ?_ rfl
                  simp [execOp, evalF, hp]
                · -- 1: slot 10 := Op.binOp BinOp.gtr 3 t9 (const (0:i64)) 3
                  refine ob_yes fun f w' hb hp => ?_
                  simp [PreOf, factOf, valOf, Ph.is, Ph.by_, Ph.any, Region.binds] at hp
                  refine ⟨by simp [Gd, valOf, hp], ?_⟩
                  refine mild_val (.bool true) ?_ rfl
                  simp [execOp, evalF, hp, go_sem]
                · -- 2: slot 11 := Op.move t10
                  refine ob_yes fun f w' hb hp => ?_
                  simp [PreOf, factOf, valOf, Ph.is, Ph.by_, Ph.any, Region.binds] at hp
                  refine ⟨by simp [Gd, valOf, hp], ?_⟩
                  refine mild_val (.bool true) ?_ rfl
                  simp [execOp, evalF, hp]
                · -- 3: slot 12 := Op.move t0
                  refine ob_yes fun f w' hb hp => ?_
                  simp [PreOf, factOf, valOf, Ph.is, Ph.by_, Ph.any, Region.binds] at hp
                  refine ⟨by simp [Gd, valOf, hp], ?_⟩
                  refine mild_val (.slice (some ad) l.length c) ?_ rfl
                  simp [execOp, evalF, hp]
                · -- 4: slot 13 := Op.move t3
                  refine ob_yes fun f w' hb hp => ?_
                  simp [PreOf, factOf, valOf, Ph.is, Ph.by_, Ph.any, Region.binds] at hp
                  refine ⟨by simp [Gd, valOf, hp], ?_⟩
                  refine mild_val (.int .i64 ((p + 1 : Nat) : Int)) ?_ rfl
                  simp [execOp, evalF, hp]
                · -- 5: slot 14 := Op.indexAddr 41 t12 t13
                  refine ob_yes fun f w' hb hp => ?_
                  simp [PreOf, factOf, valOf, Ph.is, Ph.by_, Ph.any, Region.binds] at hp
                  refine ⟨by simp [Gd, valOf, hp], ?_⟩
                  refine mild_val (.pointer (some pp)) ?_ rfl
                  simp [execOp, evalF, hp, go_sem, hlt, hpp]
                  try exact fun h => absurd (h (by omega)) (by omega)
                · -- 6: slot 15 := Op.fieldAddr 59 t14 0
                  refine ob_yes fun f w' hb hp => ?_
                  simp [PreOf, factOf, valOf, Ph.is, Ph.by_, Ph.any, Region.binds] at hp
                  refine ⟨by simp [Gd, valOf, hp], ?_⟩
                  refine mild_val (.pointer (some pp)) ?_ rfl
                  simp [execOp, evalF, hp, go_sem]
                · -- 7: slot 16 := Op.load 51 t15
                  refine ob_yes fun f w' hb hp => ?_
                  simp [PreOf, factOf, valOf, Ph.is, Ph.by_, Ph.any, Region.binds] at hp
                  refine ⟨by simp [Gd, valOf, hp], ?_⟩
                  have hc := (hb.cell (p := pp) hblk).trans hx0
                  refine mild_val (.int .u32 (a1 : Int)) ?_ rfl
                  simp [execOp, evalF, hp, hc, go_sem]
                · -- 8: slot 17 := Op.move t0
                  refine ob_yes fun f w' hb hp => ?_
                  simp [PreOf, factOf, valOf, Ph.is, Ph.by_, Ph.any, Region.binds] at hp
                  refine ⟨by simp [Gd, valOf, hp], ?_⟩
                  refine mild_val (.slice (some ad) l.length c) ?_ rfl
                  simp [execOp, evalF, hp]
                · -- 9: slot 18 := Op.move t3
                  refine ob_yes fun f w' hb hp => ?_
                  simp [PreOf, factOf, valOf, Ph.is, Ph.by_, Ph.any, Region.binds] at hp
                  refine ⟨by simp [Gd, valOf, hp], ?_⟩
                  refine mild_val (.int .i64 ((p + 1 : Nat) : Int)) ?_ rfl
                  simp [execOp, evalF, hp]
                · -- 10: slot 19 := Op.binOp BinOp.sub 3 t18 (const (1:i64)) 3
                  refine ob_yes fun f w' hb hp => ?_
                  simp [PreOf, factOf, valOf, Ph.is, Ph.by_, Ph.any, Region.binds] at hp
                  refine ⟨by simp [Gd, valOf, hp], ?_⟩
                  refine mild_val (.int .i64 (p : Int)) ?_ rfl
                  simp [execOp, evalF, hp, go_sem]
                  rw [wrap_i64]; omega
                · -- 11: slot 20 := Op.indexAddr 41 t17 t19
                  refine ob_yes fun f w' hb hp => ?_
                  simp [PreOf, factOf, valOf, Ph.is, Ph.by_, Ph.any, Region.binds] at hp
                  refine ⟨by simp [Gd, valOf, hp], ?_⟩
                  refine mild_val (.pointer (some qq)) ?_ rfl
                  simp [execOp, evalF, hp, go_sem, hlp0, hqq]
                  try exact fun h => absurd (h (by omega)) (by omega)
                · -- 12: slot 21 := Op.fieldAddr 59 t20 0
                  refine ob_yes fun f w' hb hp => ?_
                  simp [PreOf, factOf, valOf, Ph.is, Ph.by_, Ph.any, Region.binds] at hp
                  refine ⟨by simp [Gd, valOf, hp], ?_⟩
                  refine mild_val (.pointer (some qq)) ?_ rfl
                  simp [execOp, evalF, hp, go_sem]
                · -- 13: slot 22 := Op.load 51 t21
                  refine ob_yes fun f w' hb hp => ?_
                  simp [PreOf, factOf, valOf, Ph.is, Ph.by_, Ph.any, Region.binds] at hp
                  refine ⟨by simp [Gd, valOf, hp], ?_⟩
                  have hc := (hb.cell (p := qq) hblq).trans hy0
                  refine mild_val (.int .u32 (y : Int)) ?_ rfl
                  simp [execOp, evalF, hp, hc, go_sem]
                · -- 14: slot 23 := Op.binOp BinOp.leq 51 t16 t22 51
                  refine ob_yes fun f w' hb hp => ?_
                  simp [PreOf, factOf, valOf, Ph.is, Ph.by_, Ph.any, Region.binds] at hp
                  refine ⟨by simp [Gd, valOf, hp], ?_⟩
                  refine mild_val (.bool false) ?_ rfl
                  simp [execOp, evalF, hp, go_sem]
                  try omega
                · -- 15: slot 24 := Op.pick t11 t23 (const (Value.bool false))
                  refine ob_yes fun f w' hb hp => ?_
                  simp [PreOf, factOf, valOf, Ph.is, Ph.by_, Ph.any, Region.binds] at hp
                  refine ⟨by simp [Gd, valOf, hp], ?_⟩
                  refine mild_val (.bool false) ?_ rfl
                  simp [execOp, evalF, hp, go_sem]
                · -- 16: slot 25 := Op.move t24
                  refine ob_yes fun f w' hb hp => ?_
                  simp [PreOf, factOf, valOf, Ph.is, Ph.by_, Ph.any, Region.binds] at hp
                  refine ⟨by simp [Gd, valOf, hp], ?_⟩
                  refine mild_val (.bool false) ?_ rfl
                  simp [execOp, evalF, hp]
                · -- 17: slot 26 := Op.move t0
                  refine ob_yes fun f w' hb hp => ?_
                  simp [PreOf, factOf, valOf, Ph.is, Ph.by_, Ph.any, Region.binds] at hp
                  refine ⟨by simp [Gd, valOf, hp], ?_⟩
                  refine mild_val (.slice (some ad) l.length c) ?_ rfl
                  simp [execOp, evalF, hp]
                · -- 18: slot 27 := Op.move t3
                  refine ob_yes fun f w' hb hp => ?_
                  simp [PreOf, factOf, valOf, Ph.is, Ph.by_, Ph.any, Region.binds] at hp
                  refine ⟨by simp [Gd, valOf, hp], ?_⟩
                  refine mild_val (.int .i64 ((p + 1 : Nat) : Int)) ?_ rfl
                  simp [execOp, evalF, hp]
                · -- 19: slot 28 := Op.indexAddr 41 t26 t27
                  refine ob_yes fun f w' hb hp => ?_
                  simp [PreOf, factOf, valOf, Ph.is, Ph.by_, Ph.any, Region.binds] at hp
                  refine ⟨by simp [Gd, valOf, hp], ?_⟩
                  refine mild_val (.pointer (some pp)) ?_ rfl
                  simp [execOp, evalF, hp, go_sem, hlt, hpp]
                  try exact fun h => absurd (h (by omega)) (by omega)
                · -- 20: slot 29 := Op.fieldAddr 59 t28 1
                  refine ob_yes fun f w' hb hp => ?_
                  simp [PreOf, factOf, valOf, Ph.is, Ph.by_, Ph.any, Region.binds] at hp
                  refine ⟨by simp [Gd, valOf, hp], ?_⟩
                  refine mild_val (.pointer (some ⟨pp.block, pp.off + 1, none⟩)) ?_ rfl
                  simp [execOp, evalF, hp, go_sem]
                · -- 21: slot 30 := Op.load 51 t29
                  refine ob_yes fun f w' hb hp => ?_
                  simp [PreOf, factOf, valOf, Ph.is, Ph.by_, Ph.any, Region.binds] at hp
                  refine ⟨by simp [Gd, valOf, hp], ?_⟩
                  have hc := (hb.cell (p := ⟨pp.block, pp.off + 1, none⟩) hblk).trans hx1
                  refine mild_val (.int .u32 (a2 : Int)) ?_ rfl
                  simp [execOp, evalF, hp, hc, go_sem]
                · -- 22: slot 31 := Op.binOp BinOp.eql 51 t30 (const (0:u32)) 51
                  refine ob_yes fun f w' hb hp => ?_
                  simp [PreOf, factOf, valOf, Ph.is, Ph.by_, Ph.any, Region.binds] at hp
                  refine ⟨by simp [Gd, valOf, hp], ?_⟩
                  refine mild_val (.bool false) ?_ rfl
                  simp [execOp, evalF, hp, go_sem]
                  try omega
                · -- 23: slot 32 := Op.pick t25 (const (Value.bool true)) t31
                  refine ob_yes fun f w' hb hp => ?_
                  simp [PreOf, factOf, valOf, Ph.is, Ph.by_, Ph.any, Region.binds] at hp
                  refine ⟨by simp [Gd, valOf, hp], ?_⟩
                  refine mild_val (.bool false) ?_ rfl
                  simp [execOp, evalF, hp, go_sem]
                · -- 24: slot 33 := Op.move t32
                  refine ob_yes fun f w' hb hp => ?_
                  simp [PreOf, factOf, valOf, Ph.is, Ph.by_, Ph.any, Region.binds] at hp
                  refine ⟨by simp [Gd, valOf, hp], ?_⟩
                  refine mild_val (.bool false) ?_ rfl
                  simp [execOp, evalF, hp]
                · -- 25: slot 34 := Op.move t0
                  refine ob_yes fun f w' hb hp => ?_
                  simp [PreOf, factOf, valOf, Ph.is, Ph.by_, Ph.any, Region.binds] at hp
                  refine ⟨by simp [Gd, valOf, hp], ?_⟩
                  refine mild_val (.slice (some ad) l.length c) ?_ rfl
                  simp [execOp, evalF, hp]
                · -- 26: slot 35 := Op.move t3
                  refine ob_yes fun f w' hb hp => ?_
                  simp [PreOf, factOf, valOf, Ph.is, Ph.by_, Ph.any, Region.binds] at hp
                  refine ⟨by simp [Gd, valOf, hp], ?_⟩
                  refine mild_val (.int .i64 ((p + 1 : Nat) : Int)) ?_ rfl
                  simp [execOp, evalF, hp]
                · -- 27: slot 36 := Op.indexAddr 41 t34 t35
                  refine ob_yes fun f w' hb hp => ?_
                  simp [PreOf, factOf, valOf, Ph.is, Ph.by_, Ph.any, Region.binds] at hp
                  refine ⟨by simp [Gd, valOf, hp], ?_⟩
                  refine mild_val (.pointer (some pp)) ?_ rfl
                  simp [execOp, evalF, hp, go_sem, hlt, hpp]
                  try exact fun h => absurd (h (by omega)) (by omega)
                · -- 28: slot 37 := Op.fieldAddr 59 t36 2
                  refine ob_yes fun f w' hb hp => ?_
                  simp [PreOf, factOf, valOf, Ph.is, Ph.by_, Ph.any, Region.binds] at hp
                  refine ⟨by simp [Gd, valOf, hp], ?_⟩
                  refine mild_val (.pointer (some ⟨pp.block, pp.off + 2, none⟩)) ?_ rfl
                  simp [execOp, evalF, hp, go_sem]
                · -- 29: slot 38 := Op.load 51 t37
                  refine ob_yes fun f w' hb hp => ?_
                  simp [PreOf, factOf, valOf, Ph.is, Ph.by_, Ph.any, Region.binds] at hp
                  refine ⟨by simp [Gd, valOf, hp], ?_⟩
                  have hc := (hb.cell (p := ⟨pp.block, pp.off + 2, none⟩) hblk).trans hx2
                  refine mild_val (.int .u32 (a3 : Int)) ?_ rfl
                  simp [execOp, evalF, hp, hc, go_sem]
                · -- 30: slot 39 := Op.binOp BinOp.eql 51 t38 (const (0:u32)) 51
                  refine ob_yes fun f w' hb hp => ?_
                  simp [PreOf, factOf, valOf, Ph.is, Ph.by_, Ph.any, Region.binds] at hp
                  refine ⟨by simp [Gd, valOf, hp], ?_⟩
                  refine mild_val (.bool false) ?_ rfl
                  simp [execOp, evalF, hp, go_sem]
                  try omega
                · -- 31: slot 40 := Op.pick t33 (const (Value.bool true)) t39
                  refine ob_yes fun f w' hb hp => ?_
                  simp [PreOf, factOf, valOf, Ph.is, Ph.by_, Ph.any, Region.binds] at hp
                  refine ⟨by simp [Gd, valOf, hp], ?_⟩
                  refine mild_val (.bool false) ?_ rfl
                  simp [execOp, evalF, hp, go_sem]
              · intro f w2 hb2 hp
                simp only [PostOf, Ph.is, Ph.by_, Ph.any] at hp
                obtain ⟨h0, h1, h2, h3, h4, h5, h6, h7, h8, h9, h10, h11, h12, h13, h14, h15, h16, h17, h18, h19, h20, h21, h22, h23, h24, h25, h26, h27, h28, h29, h30, h31, _⟩ := hp
                simp only [fills, List.foldl_cons, List.foldl_nil, Act.put, List.setIfInBounds_toArray, List.set_cons_zero, List.set_cons_succ, h0, h1, h2, h3, h4, h5, h6, h7, h8, h9, h10, h11, h12, h13, h14, h15, h16, h17, h18, h19, h20, h21, h22, h23, h24, h25, h26, h27, h28, h29, h30, h31]
                clear h0 h1 h2 h3 h4 h5 h6 h7 h8 h9 h10 h11 h12 h13 h14 h15 h16 h17 h18 h19 h20 h21 h22 h23 h24 h25 h26 h27 h28 h29 h30 h31
                have Hb2 := Lib.hid hb2
                clear hb2
                go_wp2_with fail
                go_roundw
                case rel => exact ⟨_, by omega, by go_num, HT.out, bstep Hbl.out Hb2.out⟩
                case measure => simp [intOf]; omega
    · obtain rfl : k = l.length := by omega
      rw [Hall.out] at hok
      have HT := Lib.hid hok
      clear hok
      go_wp2_with fail
      go_ret
      rw [HT.out]
      exact ⟨rfl, Hbl.out⟩
end Go.Proofs.Ythfnikdapknohaa

namespace Go.Proofs.Ythfnikdapknohaa
set_option linter.unusedSimpArgs false
set_option linter.unusedVariables false
open Go.RowKit

theorem infoSpan2 : (Try.prog.info? 59).map (·.size) = some 3 := by kernel_rfl
theorem span_one (a b c : Nat) : ∀ u ∈ ([.int .u32 (a : Int), .int .u32 (b : Int), .int .u32 (c : Int)] : List Value), u.oneCell' = true := by
  intro u hu; simp at hu; rcases hu with rfl | rfl | rfl <;> rfl
set_option maxRecDepth 100000 in
set_option maxHeartbeats 8000000 in
theorem sputidx_any (w : World) (B : Nat) (v : Value) (l : List GSpan) (hs : l.length ≤ 20000) (h : ByS w B v l) (hB : B ≤ w.heap.size) :
    Calls Try.prog 24 #[v] w fun e w' => ((idxOk none l = true ∧ ∃ v', e = .returned (.tuple #[v', .int .i64 0]) ∧ Ow w' w.heap.size v' (ienc l)) ∨ (idxOk none l = false ∧ e = .returned (.tuple #[.slice none 0 0, .int .i64 3]))) ∧ Below w.heap.size w w' := by
  obtain ⟨A, c, rfl, hc1, hc2⟩ := h.form
  unfold maxLen at hc2
  have Hat := Lib.hid (idxOk_at l)
  have Hstop := Lib.hid (idxOk_stop l)
  have Htk := Lib.hid (nxtS_take l)
  have Hall : Hid (idxOk none (l.take l.length) = idxOk none l) := Lib.hid (by rw [List.take_length])
  have H := Lib.hid h
  have Hbl := Lib.hid (fun k => (spansB_len (l.take k) 0).1)
  have Hsb := Lib.hid (ibody_len l hs)
  have Hle := Lib.hid (fun k => nxtS_le (l.take k))
  have hcv : IntKind.u64.wrap (l.length : Int) = (l.length : Int) := by rw [wrap_u64]; omega
  have hvl := (vput_len64 l.length (by omega)).2
  clear h
  generalize hD : idxOk none l = D at *
  clear hD
  go_enter Try.func24, Try.ntmps24
  go_wp2_with fail
  refine (vput_any w w.heap.size (.slice none 0 0) [] (Ow.nil_ _ _) l.length (by omega) (by simp) (Nat.le_refl _)).mono ?_
  rintro _ w2 ⟨v2, rfl, ho2, hx2⟩
  rw [List.nil_append] at ho2
  have Hb2 := Lib.hid (hx2.below (Nat.le_refl _) (by simp [Value.ownBlock]))
  have Ho2 : Hid (Ow w2 w.heap.size v2 (vput l.length ++ spansB 0 (l.take 0))) := Lib.hid (by simpa [spansB] using ho2)
  clear ho2 hx2
  go_wp2_with fail
  go_loopw [4, 5, 15] (fun b nx i wr => ∃ k : Nat, k ≤ l.length ∧ i = .int .i64 k ∧ nx = .int .u64 ((nxtS 0 (l.take k) : Nat) : Int) ∧ Ow wr w.heap.size b (vput l.length ++ spansB 0 (l.take k)) ∧ idxOk none (l.take k) = true ∧ Below w.heap.size w wr) (fun _ _ i _ => l.length - (intOf i).toNat)
  case atStart => exact ⟨0, by omega, rfl, rfl, Ho2.out, rfl, Hb2.out⟩
  case round =>
    obtain ⟨k, hk, rfl, rfl, hob, hok, hbw⟩ := hrel
    have Hbw := Lib.hid hbw
    have hszr := hbw.size
    by_cases hlt : k < l.length
    · obtain ⟨ad, rfl, hab, hx0, hx1, hx2⟩ := (H.out.below (hbw.mono hB)).cells k hlt
      have hat := Hat.out k hlt hok
      have Hst := Lib.hid (Hstop.out (k + 1))
      have hbk := Hbl.out k
      have htk : (l.take k).length ≤ 20000 := by rw [List.length_take]; omega
      have hpl : (vput l.length ++ spansB 0 (l.take k)).length ≤ 1000000 := by rw [List.length_append]; omega
      have hnx1 := Hle.out k
      have hz : ∀ x : UInt32, (x != 0) = !((x.toNat : Int) == 0) := fun x => by
        by_cases h : x = 0
        · subst h; rfl
        · have : ¬ x.toNat = 0 := fun e => h (UInt32.toNat_inj.1 e)
          rw [bne_iff_ne.2 h, (beq_eq_false_iff_ne.2 (show (x.toNat : Int) ≠ 0 by omega))]; rfl
      simp only [hz] at hat
      have Hsn : Hid (vput l.length ++ spansB 0 (l.take (k + 1)) = vput l.length ++ spansB 0 (l.take k) ++ vput ((l[k]).low.toNat - nxtS 0 (l.take k)) ++ vput (l[k]).rows.toNat ++ vput (l[k]).size.toNat) := Lib.hid (by
        rw [List.take_add_one, List.getElem?_eq_getElem hlt]
        show vput l.length ++ spansB 0 (l.take k ++ [l[k]]) = _
        rw [spansB_snoc, span1]
        simp only [List.append_assoc])
      have Hnk : Hid (nxtS 0 (l.take (k + 1)) = (l[k]).low.toNat + 1) := Lib.hid (Htk.out k hlt)
      have hfr := u32_lt (l[k]).low
      have hrr := u32_lt (l[k]).rows
      have hss := u32_lt (l[k]).size
      have Hcl : Hid (∀ j (u : Value), ([.int .u32 ((l[k]).low.toNat : Int), .int .u32 ((l[k]).rows.toNat : Int), .int .u32 ((l[k]).size.toNat : Int)] : List Value)[j]? = some u → wr.cell? ((ad.add (k * 3)).add j) = some u) := Lib.hid (by
        intro j u hj
        match j, hj with
        | 0, hj => injection hj with hj; subst hj; simpa [Addr.add] using hx0
        | 1, hj => injection hj with hj; subst hj; simpa [Addr.add] using hx1
        | 2, hj => injection hj with hj; subst hj; simpa [Addr.add] using hx2
        | j + 3, hj => simp at hj)
      have habove := fun W (h : nxtS 0 (l.take k) ≤ (l[k]).low.toNat) => above_any W (l[k]).low (nxtS 0 (l.take k)) h
      have Habove := Lib.hid habove
      have Hob := Lib.hid hob
      have hszr' := hszr
      clear hok hbk htk hz hx0 hx1 hx2 hbw habove hob
      generalize (l[k]).low.toNat = a1 at *
      generalize (l[k]).rows.toNat = a2 at *
      generalize (l[k]).size.toNat = a3 at *
      generalize nxtS 0 (l.take k) = nx at *
      generalize vput l.length ++ spansB 0 (l.take k) = pre at *
      go_upto_region 6 with (first
        | (refine wpList_load_agg rfl 59 (.tmp 17) rfl (ad.add (k * 3)) rfl [.int .u32 (a1 : Int), .int .u32 (a2 : Int), .int .u32 (a3 : Int)] Hcl.out Try.underlying59 rfl infoSpan2 ?_)
        | (refine wpList_alloc_z rfl 59 rfl infoSpan [.int .u32 0, .int .u32 0, .int .u32 0] rfl ?_)
        | (refine wpList_store_new rfl 59 (.tmp 7) (.tmp 18) rfl [.int .u32 0, .int .u32 0, .int .u32 0] [.int .u32 (a1 : Int), .int .u32 (a2 : Int), .int .u32 (a3 : Int)] rfl rfl infoSpan2 rfl (span_one _ _ _) ?_))
      have HR5 := Lib.hid (BoxAt.new_ 59 wr [.int .u32 (a1 : Int), .int .u32 (a2 : Int), .int .u32 (a3 : Int)])
      have Hob5 := Lib.hid (Hob.out.alloc (.cells [.int .u32 (a1 : Int), .int .u32 (a2 : Int), .int .u32 (a3 : Int)].toArray 59))
      have Hbw5 := Lib.hid (bstep Hbw.out (balloc wr (.cells [.int .u32 (a1 : Int), .int .u32 (a2 : Int), .int .u32 (a3 : Int)].toArray 59)))
      have hl5 : wr.heap.size < (wr.alloc (.cells [.int .u32 (a1 : Int), .int .u32 (a2 : Int), .int .u32 (a3 : Int)].toArray 59)).heap.size := HR5.out.lt
      generalize wr.alloc (.cells [.int .u32 (a1 : Int), .int .u32 (a2 : Int), .int .u32 (a3 : Int)].toArray 59) = w5 at *
      have Hblk := Lib.hid Hob.out.blk
      generalize wr.heap.size = gs at *
      have hc0 := HR5.out.cell 0 _ rfl
      have hc1 := HR5.out.cell 1 _ rfl
      have hc2 := HR5.out.cell 2 _ rfl
      have hwa1 : IntKind.u64.wrap (a1 : Int) = (a1 : Int) := by rw [wrap_u64]; omega
      have hwa2 : IntKind.u64.wrap (a2 : Int) = (a2 : Int) := by rw [wrap_u64]; omega
      have hwa3 : IntKind.u64.wrap (a3 : Int) = (a3 : Int) := by rw [wrap_u64]; omega
      clear Hcl Hob
      by_cases hlow : a1 < nx
      · have hd : decide (nx ≤ a1) = false := decide_eq_false (by omega)
        have hd1 : decide (a1 < nx) = true := decide_eq_true hlow
        have hd2 : decide ((a1 : Int) < (nx : Int)) = true := decide_eq_true (by omega)
        rw [hd, Bool.false_and, Bool.false_and] at hat
        have HF := Lib.hid (Hst.out hat)
        clear hat hd
        go_wp2_with fail
        go_ret2
        rw [HF.out]
        exact ⟨.inr ⟨rfl, rfl⟩, Hbw5.out⟩
      · have hd : decide (nx ≤ a1) = true := decide_eq_true (by omega)
        have hd1 : decide (a1 < nx) = false := decide_eq_false hlow
        have hd2 : decide ((a1 : Int) < (nx : Int)) = false := decide_eq_false (by omega)
        rw [hd] at hat
        clear hd
        by_cases hr : a2 = 0
        · have hr1 : ((a2 : Int) == 0) = true := by simp; omega
          rw [hr1, Bool.not_true, Bool.and_false, Bool.false_and] at hat
          have HF := Lib.hid (Hst.out hat)
          clear hat hr
          go_wp2_with fail
          go_ret2
          rw [HF.out]
          exact ⟨.inr ⟨rfl, rfl⟩, Hbw5.out⟩
        · have hr1 : ((a2 : Int) == 0) = false := by simp; omega
          have hr2 : (a2 == 0) = false := beq_eq_false_iff_ne.2 hr
          rw [hr1] at hat
          by_cases hs' : a3 = 0
          · have hs1 : ((a3 : Int) == 0) = true := by simp; omega
            rw [hs1, Bool.not_true, Bool.and_false] at hat
            have HF := Lib.hid (Hst.out hat)
            clear hat hr hs'
            go_wp2_with fail
            go_ret2
            rw [HF.out]
            exact ⟨.inr ⟨rfl, rfl⟩, Hbw5.out⟩
          · have hs1 : ((a3 : Int) == 0) = false := by simp; omega
            have hs2 : (a3 == 0) = false := beq_eq_false_iff_ne.2 hs'
            rw [hs1, Bool.not_false, Bool.and_true, Bool.and_true] at hat
            have HT := Lib.hid hat
            clear hat hr hs'
            go_wp2_with fail
            refine (Habove.out _ (by omega)).mono ?_
            rintro _ _ ⟨rfl, rfl⟩
            go_wp2_with fail
            have hsz5 := Hbw5.out.size
            refine (vput_any w5 w.heap.size _ pre Hob5.out (a1 - nx) (by omega) (by omega) hsz5).mono ?_
            rintro _ w6 ⟨v6, rfl, ho6, hx6⟩
            have hvn := (vput_len64 (a1 - nx) (by omega)).2
            have hvr := (vput_len64 a2 (by omega)).2
            have HR := Lib.hid (HR5.out.grown hx6.gr (fun e => by have := (Hblk.out _ e).2; omega))
            have Hne : Hid (v6.ownBlock ≠ some gs) := Lib.hid (fun e => by
              rcases hx6.at_ with h | h
              · have := (Hblk.out gs (by rw [← h]; exact e)).2; omega
              · have := h gs e; omega)
            have Hbw6 := Lib.hid (Hbw5.out.trans (hx6.below (B := w.heap.size) hsz5 (fun q hq => (Hob5.out.blk q hq).1)))
            have Hown := Lib.hid ho6
            have Hbase := Lib.hid Hbw6.out.size
            obtain ⟨fin, hfin⟩ : ∃ fin, pre ++ vput (a1 - nx) ++ vput a2 ++ vput a3 = fin := ⟨_, rfl⟩
            rw [hfin] at Hsn
            have hpl6 : (pre ++ vput (a1 - nx)).length ≤ 1000100 := by rw [List.length_append]; omega
            generalize pre ++ vput (a1 - nx) = pre6 at *
            have Hfin := Lib.hid hfin
            clear hfin ho6 hx6 hc0 hc1 hc2 HR5 Hob5 Hbw5 Hblk hlow
            go_upto_region 9 with fail
            refine wp_region_mixLI (ds := [40, 41, 42, 43, 44, 45, 46, 47, 48, 4]) 10 (fun bb vs W' => BoxAt 59 W' gs [.int .u32 (a1 : Int), .int .u32 (a2 : Int), .int .u32 (a3 : Int)] ∧ (bb 8 = true → bb 4 = true) ∧ (bb 4 = false → W' = w6.drew) ∧ (bb 4 = true → bb 8 = false → Ow W' w.heap.size (vs 4) (pre6 ++ vput a2) ∧ Ext w6 W' v6 (vs 4)) ∧ (bb 8 = true → Ow W' w.heap.size (vs 8) (pre6 ++ vput a2 ++ vput a3) ∧ Ext w6 W' v6 (vs 8)) ∧ (bb 9 = true → bb 0 = true ∧ bb 8 = true ∧ vs 9 = vs 8) ∧ (bb 9 = false → vs 9 = v6)) [some 40, some 41, some 42, some 43, some 44, some 45, some 46, some 47, some 48, some 4]
              [fun v => v = v6, fun v => v = .pointer (some ⟨gs, 1, none⟩), fun v => v = .int .u32 (a2 : Int), fun v => v = .int .u64 (a2 : Int), fun _ => True, fun v => v = .pointer (some ⟨gs, 2, none⟩), fun v => v = .int .u32 (a3 : Int), fun v => v = .int .u64 (a3 : Int), fun _ => True, fun _ => True]
              rfl rfl rfl (by kernel_rfl) (by kernel_rfl) ?_ ⟨HR.out, by simp, fun _ => rfl, by simp, by simp, by simp, by simp [valOf]⟩ ?_
            · refine ⟨?_, ?_, ?_, ?_, ?_, ?_, ?_, ?_, ?_, ?_, trivial⟩
              · -- 0: slot 40 := Op.move t4
                refine obM_yes fun f bb w' hj hs hd hp => ?_
                simp [PreO, factO, valOf, Region.binds] at hp hd
                refine ⟨by simp [Gd, valOf, hp], ?_⟩
                have h9 : bb 9 = false := by cases hx : bb 9 with | false => rfl | true => rw [(hj.2.2.2.2.2.1 hx).1] at hs; cases hs
                have e0 : f 4 = v6 := hj.2.2.2.2.2.2 h9
                refine mildM_val (v6) (w' := w') ?_ rfl (by obtain ⟨j1, j2, j3, j4, j5, j6, j7⟩ := hj; exact ⟨j1, by simpa using j2, by simpa using j3, by simpa using j4, by simpa using j5, by simp [h9], by simpa using j7⟩)
                simp [execOp, evalF, hp, go_sem, e0]
              · -- 1: slot 41 := Op.fieldAddr 59 t7 1
                refine obM_yes fun f bb w' hj hs hd hp => ?_
                simp [PreO, factO, valOf, Region.binds] at hp hd
                refine ⟨by simp [Gd, valOf, hp], ?_⟩
                refine mildM_val (.pointer (some ⟨gs, 1, none⟩)) (w' := w') ?_ rfl (by simpa using hj)
                simp [execOp, evalF, hp, go_sem]
              · -- 2: slot 42 := Op.load 51 t41
                refine obM_yes fun f bb w' hj hs hd hp => ?_
                simp [PreO, factO, valOf, Region.binds] at hp hd
                refine ⟨by simp [Gd, valOf, hp], ?_⟩
                have hc := hj.1.cell 1 _ rfl
                refine mildM_val (.int .u32 (a2 : Int)) (w' := w') ?_ rfl (by simpa using hj)
                simp [execOp, evalF, hp, go_sem, hc]
              · -- 3: slot 43 := Op.convert 51 71 t42
                refine obM_yes fun f bb w' hj hs hd hp => ?_
                simp [PreO, factO, valOf, Region.binds] at hp hd
                refine ⟨by simp [Gd, valOf, hp], ?_⟩
                refine mildM_val (.int .u64 (a2 : Int)) (w' := w') ?_ rfl (by simpa using hj)
                simp [execOp, evalF, hp, go_sem, hwa2]
              · -- 4: slot 44 := Op.call   value (Operand.func 59), args := #[t40, t43], argTypes := #[25, 71]  
                refine obM_yes fun f bb w' hj hs hd hp => ?_
                simp [PreO, factO, valOf, Region.binds] at hp hd
                refine ⟨by simp [Gd, valOf, hp], ?_⟩
                obtain ⟨j1, j2, j3, j4, j5, j6, j7⟩ := hj
                have h8 : bb 8 = false := by cases hx : bb 8 with | false => rfl | true => (have := j2 hx; simp_all)
                have h9 : bb 9 = false := by cases hx : bb 9 with | false => rfl | true => rw [(j6 hx).2.1] at h8; cases h8
                have hw' := j3 hs
                subst hw'
                refine mildM_call 59 _ _ Try.f59 Try.func59 (by kernel_rfl) (by kernel_rfl) rfl ?_
                refine calls_args (args' := #[v6, .int .u64 (a2 : Int)]) (by simp [evalF, hp]) ?_
                refine (vput_any w6.drew w.heap.size v6 pre6 Hown.out a2 (by omega) (by omega) Hbase.out).mono ?_
                rintro _ w9 ⟨v9, rfl, ho, hx⟩
                exact ⟨_, rfl, trivial, j1.grown hx.gr Hne.out, by simp, by simp, fun _ _ => ⟨ho, ⟨⟨hx.gr.os, hx.gr.tape, hx.gr.output, hx.gr.size, hx.gr.block⟩, hx.at_⟩⟩, by simp [h8], by simp [h9], fun _ => by simpa using j7 h9⟩
              · -- 5: slot 45 := Op.fieldAddr 59 t7 2
                refine obM_yes fun f bb w' hj hs hd hp => ?_
                simp [PreO, factO, valOf, Region.binds] at hp hd
                refine ⟨by simp [Gd, valOf, hp], ?_⟩
                refine mildM_val (.pointer (some ⟨gs, 2, none⟩)) (w' := w') ?_ rfl (by simpa using hj)
                simp [execOp, evalF, hp, go_sem]
              · -- 6: slot 46 := Op.load 51 t45
                refine obM_yes fun f bb w' hj hs hd hp => ?_
                simp [PreO, factO, valOf, Region.binds] at hp hd
                refine ⟨by simp [Gd, valOf, hp], ?_⟩
                have hc := hj.1.cell 2 _ rfl
                refine mildM_val (.int .u32 (a3 : Int)) (w' := w') ?_ rfl (by simpa using hj)
                simp [execOp, evalF, hp, go_sem, hc]
              · -- 7: slot 47 := Op.convert 51 71 t46
                refine obM_yes fun f bb w' hj hs hd hp => ?_
                simp [PreO, factO, valOf, Region.binds] at hp hd
                refine ⟨by simp [Gd, valOf, hp], ?_⟩
                refine mildM_val (.int .u64 (a3 : Int)) (w' := w') ?_ rfl (by simpa using hj)
                simp [execOp, evalF, hp, go_sem, hwa3]
              · -- 8: slot 48 := Op.call   value (Operand.func 59), args := #[t44, t47], argTypes := #[25, 71]  
                refine obM_yes fun f bb w' hj hs hd hp => ?_
                simp [PreO, factO, valOf, Region.binds] at hp hd
                refine ⟨by simp [Gd, valOf, hp], ?_⟩
                obtain ⟨j1, j2, j3, j4, j5, j6, j7⟩ := hj
                have h9 : bb 9 = false := by cases hx : bb 9 with | false => rfl | true => rw [(j6 hx).2.1] at hs; cases hs
                have h4 : bb 4 = true := by first | exact hd.1 | exact hd.2.1 | exact hd.2 | exact hd
                obtain ⟨ho, hx⟩ := j4 h4 hs
                have ho' : Ow w' w.heap.size (f 44) (pre6 ++ vput a2) := by simpa [valOf] using ho
                have hx' : Ext w6 w' v6 (f 44) := by simpa [valOf] using hx
                have hB1 : w.heap.size ≤ w'.heap.size := Nat.le_trans Hbase.out hx'.gr.size
                refine mildM_call 59 _ _ Try.f59 Try.func59 (by kernel_rfl) (by kernel_rfl) rfl ?_
                refine calls_args (args' := #[f 44, .int .u64 (a3 : Int)]) (by simp [evalF, hp]) ?_
                refine (vput_any w' w.heap.size (f 44) _ ho' a3 (by omega) (by rw [List.length_append]; omega) hB1).mono ?_
                rintro _ w9 ⟨v9, rfl, ho9, hx9⟩
                exact ⟨_, rfl, trivial, (j1.grown hx9.gr (fun e => by
                  rcases hx'.at_ with h | h
                  · exact Hne.out (by rw [← h]; exact e)
                  · exact absurd (h _ e) (by have := HR.out.lt; omega))), by simp [h4], by simp [h4], by simp, fun _ => ⟨ho9, hx'.trans hx9⟩, by simp [h9], fun _ => by simpa using j7 h9⟩
              · -- 9: slot 4 := Op.assign t48
                refine obM_yes fun f bb w' hj hs hd hp => ?_
                simp [PreO, factO, valOf, Region.binds] at hp hd
                refine ⟨by simp [Gd, valOf, hp], ?_⟩
                obtain ⟨j1, j2, j3, j4, j5, j6, j7⟩ := hj
                have h8 : bb 8 = true := by first | exact hd.1 | exact hd.2.1 | exact hd
                have h0 : bb 0 = true := by simp_all
                refine mildM_val (f 48) (w' := w') ?_ trivial ⟨j1, by simpa using j2, by simpa using j3, by simpa using j4, by simpa using j5, fun _ => ⟨by simpa using h0, by simpa using h8, rfl⟩, by simp⟩
                simp [execOp, evalF]
            · intro f bb wd hall hj hp
              simp only [PostO] at hp
              obtain ⟨e0, e1, e2, e3, _, e5, e6, e7, _, _, _⟩ := hp
              simp only [fills, List.foldl_cons, List.foldl_nil, Act.put, List.setIfInBounds_toArray, List.set_cons_zero, List.set_cons_succ, e0, e1, e2, e3, e5, e6, e7]
              clear e0 e1 e2 e3 e5 e6 e7
              simp only [List.drop_succ_cons, List.drop_zero]
              obtain ⟨ho8, hx8⟩ := hj.2.2.2.2.1 (by simp [hall])
              have e9 : f 4 = f 48 := (hj.2.2.2.2.2.1 (by simp [hall])).2.2
              have ho8' : Ow wd w.heap.size (f 48) (pre6 ++ vput a2 ++ vput a3) := ho8
              have hx8' : Ext w6 wd v6 (f 48) := hx8
              have hR := hj.1
              clear hj hall ho8 hx8
              rw [e9]
              clear e9
              generalize f 48 = v8 at *
              generalize f 44 = v44 at *
              rw [Hfin.out] at ho8'
              have Ho8 := Lib.hid ho8'
              have Hb8 := Lib.hid (Hbw6.out.trans (hx8'.below (B := w.heap.size) Hbase.out (fun q hq => (Hown.out.blk q hq).1)))
              have hcl0 := hR.cell 0 _ rfl
              clear ho8' hx8' hR
              go_wp2_with fail
              go_roundw
              case rel => exact ⟨k + 1, by omega, by go_num, by rw [Hnk.out]; go_num, by rw [Hsn.out]; exact Ho8.out, HT.out, Hb8.out⟩
              case measure => simp [intOf]; omega
    · obtain rfl : k = l.length := by omega
      rw [List.take_length] at hob
      rw [Hall.out] at hok
      have hse : ienc l = frameOf 73 (vput l.length ++ spansB 0 l) := rfl
      have hrl : (vput l.length ++ spansB 0 l).length ≤ 1048576 := by have := Hsb.out; unfold ibody at this; omega
      have Hse := Lib.hid hse
      have Hob := Lib.hid hob
      have HT := Lib.hid hok
      clear hse hob hok hbw
      obtain ⟨rb, hrb⟩ : ∃ rb, rb = vput l.length ++ spansB 0 l := ⟨_, rfl⟩
      rw [← hrb] at Hob Hse hrl
      clear hrb
      obtain ⟨Ab, cb, rfl, _, _, _⟩ := Hob.out.form_
      go_wp2_with fail
      refine (fput_any wr wr.heap.size (.slice none 0 0) [] (Ow.nil_ _ _) 73 (.slice Ab rb.length cb) rb Hob.out.by_ hrl (by simp) (Nat.le_refl _)).mono ?_
      rintro _ w4 ⟨v4, rfl, ho4, hx4⟩
      rw [List.nil_append, ← Hse.out] at ho4
      have Ho4 := Lib.hid (ho4.mono hszr)
      have Hb4 := Lib.hid (Hbw.out.trans ((hx4.below (Nat.le_refl _) (by simp [Value.ownBlock])).mono hszr))
      clear ho4 hx4
      go_wp2_with fail
      go_ret2
      exact ⟨.inl ⟨HT.out, _, rfl, Ho4.out⟩, Hb4.out⟩
end Go.Proofs.Ythfnikdapknohaa

namespace Go.Proofs.Ythfnikdapknohaa
set_option linter.unusedSimpArgs false
set_option linter.unusedVariables false
open Go.RowKit

theorem OwnF.byS {w : World} {base : Nat} {v : Value} {l : List GSpan} (h : OwnF 59 cSpan w base v l) : ByS w w.heap.size v l := h.row.mono (fun _ hk => hk.2) fun _ h => h.elim
theorem u32_of (n : Nat) (h : n ≤ 4294967295) : (UInt32.ofNat n).toNat = n := by rw [UInt32.toNat_ofNat']; omega
set_option maxRecDepth 100000 in
set_option maxHeartbeats 8000000 in
theorem sgetidx_any (w : World) (v : Value) (b : List UInt8) (hby : By w w.heap.size v b) (hl : b.length ≤ 19000) :
    Calls Try.prog 21 #[v] w fun e w' => Below w.heap.size w w' ∧ ((isIdx b ∧ ∃ vo, e = .returned (.tuple #[vo, .int .i64 0]) ∧ ByS w' w'.heap.size vo (pidx b)) ∨ (¬ isIdx b ∧ e = .returned (.tuple #[.slice none 0 0, .int .i64 5]))) := by
  obtain ⟨A, c, rfl, hc1, hc2, _⟩ := id hby
  unfold maxLen at hc2
  have hfg := fget_any w (.slice A b.length c) b hby (by omega)
  have Hby := Lib.hid hby
  have Hfg := Lib.hid hfg
  have hbad : (sE b ≠ 0 ∨ sK b ≠ 73) → ¬ isIdx b := fun h hi => by
    obtain ⟨h1, h3, _⟩ := hi
    rcases h with h | h
    · exact h h1
    · exact h h3
  have Hbad := Lib.hid hbad
  clear hfg hby hbad
  go_enter Try.func21, Try.ntmps21
  go_wp2_with fail
  refine Hfg.out.mono ?_
  rintro _ w1 ⟨v1, rfl, ho1, hb1⟩
  have Hb1 := Lib.hid hb1
  have Ho1 := Lib.hid ho1
  obtain ⟨A1, c1, rfl, _, _, _⟩ := ho1.form_
  clear hb1 ho1 Hfg
  by_cases hE : sE b = 0
  · by_cases hK : sK b = 73
    · have HE := Lib.hid hE
      have HK := Lib.hid hK
      have hpl : pidx b = (pspans (numS b.length (sL b) 0).1 0 [] (numS b.length (sL b) 0).2.1 (numS b.length (sL b) 0).2.2).1 := rfl
      have Hpl := Lib.hid hpl
      have hnl := (numS_lt b.length (sL b) 0).2
      rw [hE, hK]
      have hone := sec_one (73 : UInt8).toNat A1 (sL b).length c1
      have Hone := Lib.hid hone
      clear hpl hE hK hone
      have Ho1b := Lib.hid (Ho1.out.by_)
      obtain ⟨w4, hw4⟩ : ∃ w4, (w1.alloc (.cells #[.int .u8 73, .slice A1 (sL b).length c1] 87)).alloc (.cells #[.slice A1 (sL b).length c1, .int .i64 0] 145) = w4 := ⟨_, rfl⟩
      have hb14 : Below w1.heap.size w1 w4 := by rw [← hw4]; exact bstep (balloc _ _) (balloc _ _)
      have hz4 : w4.heap.size = w1.heap.size + 1 + 1 := by rw [← hw4]; simp
      have hrd4 : RdrAt w4 (w1.heap.size + 1) (sL b) 0 := by
        rw [← hw4]
        have h1 := RdrAt.new_ (w := w1.alloc (.cells #[.int .u8 73, .slice A1 (sL b).length c1] 87)) (v := .slice A1 (sL b).length c1) (l := sL b) ((Ho1b.out.step (balloc _ _)))
        rwa [World.size_alloc] at h1
      have hs1 := Hb1.out.size
      have Hb4 := Lib.hid (Hb1.out.trans (hb14.mono hs1))
      have Hvn := Lib.hid (vnum_any w4 (w1.heap.size + 1) (sL b) 0 b.length (by omega) hrd4)
      clear hb14 hrd4
      have hcv : IntKind.u64.wrap (b.length : Int) = (b.length : Int) := by rw [wrap_u64]; omega
      have h73 : (((73 : UInt8).toNat : Nat) : Int) = 73 := rfl
      go_wp2_with (first
        | (refine wpList_alloc_z rfl 87 rfl infoSec3 [.int .u8 0, .slice none 0 0] rfl ?_)
        | (refine wpList_store_new rfl 87 (.tmp 4) (.tmp 17) rfl [.int .u8 0, .slice none 0 0] [.int .u8 (((73 : UInt8).toNat : Nat) : Int), .slice A1 (sL b).length c1] rfl rfl infoSec rfl Hone.out ?_))
      refine (vnew_any _ _ _ _).mono ?_
      rintro _ _ ⟨rfl, rfl⟩
      go_wp2_with fail
      try rw [hw4]
      refine Hvn.out.mono ?_
      rintro _ w5 ⟨rfl, hrd5, hg5⟩
      clear hw4
      obtain ⟨gr, hgr⟩ : ∃ gr, w1.heap.size + 1 = gr := ⟨_, rfl⟩
      have Hb5 := Lib.hid (Hb4.out.trans (gofBelow hg5 (B := w.heap.size) (by omega) (fun k hk => by injection hk with hk; omega)))
      have hz5 := hg5.size
      rw [hgr] at hrd5
      have Hrd5 := Lib.hid hrd5
      obtain ⟨n0, s0, e0, hN0⟩ : ∃ a b' c', numS b.length (sL b) 0 = (a, b', c') := ⟨_, _, _, rfl⟩
      rw [hN0] at Hrd5 hnl Hpl
      simp only at hnl
      obtain ⟨base, hbase⟩ : ∃ base, gr + 1 = base := ⟨_, rfl⟩
      have hbs5 : base ≤ w5.heap.size := by omega
      have hwb : w.heap.size ≤ base := by omega
      have hrg : gr < base := by omega
      rw [hN0]
      try rw [hgr]
      clear hrd5 hg5 Hvn Hb4 hN0
      go_wp2_with fail
      go_loopw [8, 9, 10] (fun vo vx vn wr => ∃ (n next : Nat) (acc : List GSpan) (s : List UInt8) (e : Int), vn = .int .u64 (n : Int) ∧ vx = .int .u64 (next : Int) ∧ next ≤ 4294967296 ∧ RdrAt wr gr s e ∧ OwnF 59 cSpan wr base vo acc ∧ acc.length + n ≤ b.length ∧ (pspans n next acc s e).1 = pidx b ∧ Below w.heap.size w wr ∧ base ≤ wr.heap.size) (fun _ _ vn _ => (intOf vn).toNat)
      case atStart => exact ⟨n0, 0, [], s0, e0, rfl, rfl, by omega, Hrd5.out, OwnF.nil_ _ _, by simpa using hnl, Hpl.out.symm, Hb5.out, hbs5⟩
      case round =>
        obtain ⟨n, next, acc, s, e, rfl, rfl, hnx, hrd, hln, han, hpr, hbw, hbs⟩ := hrel
        have Hrd := Lib.hid hrd
        have Hln := Lib.hid hln
        have Hbw := Lib.hid hbw
        have hszr := hbw.size
        have Hver := Lib.hid (verr_any wr gr s e hrd)
        obtain ⟨Ao, co, rfl, hco1, hco2, _⟩ := hln.form'
        by_cases hstop : n = 0 ∨ e ≠ 0 ∨ 4294967295 < next
        · have hacc : pidx b = acc := by
            rw [← hpr]
            cases n with
            | zero => rfl
            | succ m => rw [pspans, if_pos (by rcases hstop with h | h | h; (· omega); (· exact .inl h); (· exact .inr h))]
          have Hacc := Lib.hid hacc
          clear hacc hpr hrd hln hbw
          by_cases hn0 : n = 0
          · have hd0 : decide ((n : Int) > 0) = false := decide_eq_false (by omega)
            have hd1 : decide (0 < n) = false := decide_eq_false (by omega)
            clear hstop hn0
            go_wp2_with fail
            have hal : acc.length ≤ 20000 := by omega
            refine (sputidx_any wr wr.heap.size _ acc hal Hln.out.byS (Nat.le_refl _)).mono ?_
            rintro _ w6 ⟨⟨hok, v6, rfl, ho6⟩ | ⟨hno, rfl⟩, hb6⟩
            · obtain ⟨A6, c6, rfl, _, _, _⟩ := ho6.form_
              have Hfin : Hid (isIdx b ↔ ienc acc = b) := Lib.hid (by unfold isIdx; rw [Hacc.out]; exact ⟨fun h => h.2.2.2, fun h => ⟨HE.out, HK.out, hok, h⟩⟩)
              have Ho6 := Lib.hid ho6.by_
              have Hb6 := Lib.hid (Hbw.out.trans (hb6.mono hszr))
              have Hby6 := Lib.hid (Hby.out.below (Hb6.out))
              have Hl6 := Lib.hid ((OwnF.byS Hln.out).step hb6)
              clear ho6 hb6 hok Hln
              go_wp2_with fail
              refine (equalB w6 _ _ _ _ (ienc acc) b Ho6.out Hby6.out).mono ?_
              rintro _ _ ⟨rfl, rfl⟩
              by_cases hq : ienc acc = b
              · rw [decide_eq_true hq]
                have Hi := Lib.hid (Hfin.out.2 hq)
                clear hq
                go_wp2_with fail
                go_ret2
                exact ⟨Hb6.out, .inl ⟨Hi.out, _, rfl, by rw [Hacc.out]; exact Hl6.out⟩⟩
              · rw [decide_eq_false hq]
                have Hi := Lib.hid (fun h => hq (Hfin.out.1 h))
                clear hq
                go_wp2_with fail
                go_ret2
                exact ⟨Hb6.out, .inr ⟨Hi.out, rfl⟩⟩
            · have Hi : Hid (¬ isIdx b) := Lib.hid (fun h => by
                obtain ⟨_, _, h3, _⟩ := h
                rw [Hacc.out, hno] at h3
                cases h3)
              have Hb6 := Lib.hid (Hbw.out.trans (hb6.mono hszr))
              clear hno hb6
              go_wp2_with fail
              go_ret2
              exact ⟨Hb6.out, .inr ⟨Hi.out, rfl⟩⟩
          · have hd0 : decide ((n : Int) > 0) = true := decide_eq_true (by omega)
            have hd1 : decide (0 < n) = true := decide_eq_true (by omega)
            by_cases he : e = 0
            · subst he
              have hd2 : decide ((next : Int) ≤ 4294967295) = false := decide_eq_false (by omega)
              have hd3 : decide (next ≤ 4294967295) = false := decide_eq_false (by omega)
              clear hstop hn0
              go_wp2_with fail
              refine Hver.out.mono ?_
              rintro _ _ ⟨rfl, rfl⟩
              go_wp2_with fail
              have hal : acc.length ≤ 20000 := by omega
              refine (sputidx_any wr wr.heap.size _ acc hal Hln.out.byS (Nat.le_refl _)).mono ?_
              rintro _ w6 ⟨⟨hok, v6, rfl, ho6⟩ | ⟨hno, rfl⟩, hb6⟩
              · obtain ⟨A6, c6, rfl, _, _, _⟩ := ho6.form_
                have Hfin : Hid (isIdx b ↔ ienc acc = b) := Lib.hid (by unfold isIdx; rw [Hacc.out]; exact ⟨fun h => h.2.2.2, fun h => ⟨HE.out, HK.out, hok, h⟩⟩)
                have Ho6 := Lib.hid ho6.by_
                have Hb6 := Lib.hid (Hbw.out.trans (hb6.mono hszr))
                have Hby6 := Lib.hid (Hby.out.below (Hb6.out))
                have Hl6 := Lib.hid ((OwnF.byS Hln.out).step hb6)
                clear ho6 hb6 hok Hln
                go_wp2_with fail
                refine (equalB w6 _ _ _ _ (ienc acc) b Ho6.out Hby6.out).mono ?_
                rintro _ _ ⟨rfl, rfl⟩
                by_cases hq : ienc acc = b
                · rw [decide_eq_true hq]
                  have Hi := Lib.hid (Hfin.out.2 hq)
                  clear hq
                  go_wp2_with fail
                  go_ret2
                  exact ⟨Hb6.out, .inl ⟨Hi.out, _, rfl, by rw [Hacc.out]; exact Hl6.out⟩⟩
                · rw [decide_eq_false hq]
                  have Hi := Lib.hid (fun h => hq (Hfin.out.1 h))
                  clear hq
                  go_wp2_with fail
                  go_ret2
                  exact ⟨Hb6.out, .inr ⟨Hi.out, rfl⟩⟩
              · have Hi : Hid (¬ isIdx b) := Lib.hid (fun h => by
                  obtain ⟨_, _, h3, _⟩ := h
                  rw [Hacc.out, hno] at h3
                  cases h3)
                have Hb6 := Lib.hid (Hbw.out.trans (hb6.mono hszr))
                clear hno hb6
                go_wp2_with fail
                go_ret2
                exact ⟨Hb6.out, .inr ⟨Hi.out, rfl⟩⟩
            · have hd2 : (e == 0) = false := beq_eq_false_iff_ne.2 he
              clear hstop hn0 he
              go_wp2_with fail
              refine Hver.out.mono ?_
              rintro _ _ ⟨rfl, rfl⟩
              go_wp2_with fail
              have hal : acc.length ≤ 20000 := by omega
              refine (sputidx_any wr wr.heap.size _ acc hal Hln.out.byS (Nat.le_refl _)).mono ?_
              rintro _ w6 ⟨⟨hok, v6, rfl, ho6⟩ | ⟨hno, rfl⟩, hb6⟩
              · obtain ⟨A6, c6, rfl, _, _, _⟩ := ho6.form_
                have Hfin : Hid (isIdx b ↔ ienc acc = b) := Lib.hid (by unfold isIdx; rw [Hacc.out]; exact ⟨fun h => h.2.2.2, fun h => ⟨HE.out, HK.out, hok, h⟩⟩)
                have Ho6 := Lib.hid ho6.by_
                have Hb6 := Lib.hid (Hbw.out.trans (hb6.mono hszr))
                have Hby6 := Lib.hid (Hby.out.below (Hb6.out))
                have Hl6 := Lib.hid ((OwnF.byS Hln.out).step hb6)
                clear ho6 hb6 hok Hln
                go_wp2_with fail
                refine (equalB w6 _ _ _ _ (ienc acc) b Ho6.out Hby6.out).mono ?_
                rintro _ _ ⟨rfl, rfl⟩
                by_cases hq : ienc acc = b
                · rw [decide_eq_true hq]
                  have Hi := Lib.hid (Hfin.out.2 hq)
                  clear hq
                  go_wp2_with fail
                  go_ret2
                  exact ⟨Hb6.out, .inl ⟨Hi.out, _, rfl, by rw [Hacc.out]; exact Hl6.out⟩⟩
                · rw [decide_eq_false hq]
                  have Hi := Lib.hid (fun h => hq (Hfin.out.1 h))
                  clear hq
                  go_wp2_with fail
                  go_ret2
                  exact ⟨Hb6.out, .inr ⟨Hi.out, rfl⟩⟩
              · have Hi : Hid (¬ isIdx b) := Lib.hid (fun h => by
                  obtain ⟨_, _, h3, _⟩ := h
                  rw [Hacc.out, hno] at h3
                  cases h3)
                have Hb6 := Lib.hid (Hbw.out.trans (hb6.mono hszr))
                clear hno hb6
                go_wp2_with fail
                go_ret2
                exact ⟨Hb6.out, .inr ⟨Hi.out, rfl⟩⟩
        · obtain ⟨m, rfl⟩ : ∃ m, n = m + 1 := ⟨n - 1, by omega⟩
          obtain rfl : e = 0 := Decidable.by_contra fun h => hstop (.inr (.inl h))
          have hnx2 : next ≤ 4294967295 := by omega
          rw [pspans, if_neg (by rintro (h | h) <;> omega)] at hpr
          obtain ⟨n1, s1, e1, hN1⟩ : ∃ a b' c', numS (4294967295 - next) s 0 = (a, b', c') := ⟨_, _, _, rfl⟩
          obtain ⟨n2, s2, e2, hN2⟩ : ∃ a b' c', numS 4294967295 s1 e1 = (a, b', c') := ⟨_, _, _, rfl⟩
          obtain ⟨n3, s3, e3, hN3⟩ : ∃ a b' c', numS 4294967295 s2 e2 = (a, b', c') := ⟨_, _, _, rfl⟩
          have q1 : spN next s 0 = (n1, s1, e1) := hN1
          have q2 : sp2 next s 0 = (n2, s2, e2) := by unfold sp2; rw [q1]; exact hN2
          have q3 : sp3 next s 0 = (n3, s3, e3) := by unfold sp3; rw [q2]; exact hN3
          rw [spL, q1, q2, q3] at hpr
          simp only at hpr
          have l1 := (numS_lt (4294967295 - next) s 0).2
          have l2 := (numS_lt 4294967295 s1 e1).2
          have l3 := (numS_lt 4294967295 s2 e2).2
          rw [hN1] at l1
          rw [hN2] at l2
          rw [hN3] at l3
          simp only at l1 l2 l3
          have hu1 := u32_of (next + n1) (by omega)
          have hu2 := u32_of n2 l2
          have hu3 := u32_of n3 l3
          have Hu : Hid ((UInt32.ofNat (next + n1)).toNat = next + n1 ∧ (UInt32.ofNat n2).toNat = n2 ∧ (UInt32.ofNat n3).toNat = n3) := Lib.hid ⟨hu1, hu2, hu3⟩
          have Hv1 := Lib.hid (fun W (h : RdrAt W gr s 0) => vnum_any W gr s 0 (4294967295 - next) (by omega) h)
          have Hv2 := Lib.hid (fun W (h : RdrAt W gr s1 e1) => vnum_any W gr s1 e1 4294967295 (by omega) h)
          have Hv3 := Lib.hid (fun W (h : RdrAt W gr s2 e2) => vnum_any W gr s2 e2 4294967295 (by omega) h)
          rw [hN1] at Hv1
          rw [hN2, show (((4294967295 : Nat) : Int)) = 4294967295 from rfl] at Hv2
          rw [hN3, show (((4294967295 : Nat) : Int)) = 4294967295 from rfl] at Hv3
          simp only at Hv1 Hv2 Hv3
          have Hpr := Lib.hid hpr
          clear hu1 hu2 hu3 q1 q2 q3 hN1 hN2 hN3 hpr hrd hln hbw hstop
          generalize UInt32.ofNat (next + n1) = x1 at *
          generalize UInt32.ofNat n2 = x2 at *
          generalize UInt32.ofNat n3 = x3 at *
          have hd0 : decide (((m + 1 : Nat) : Int) > 0) = true := decide_eq_true (by omega)
          have hd1 : decide (0 < m + 1) = true := decide_eq_true (by omega)
          have hd4 : decide ((0 : Int) < (m : Int) + 1) = true := decide_eq_true (by omega)
          have hd2 : decide ((next : Int) ≤ 4294967295) = true := decide_eq_true (by omega)
          have hd3 : decide (next ≤ 4294967295) = true := decide_eq_true (by omega)
          have hsub : IntKind.u64.wrap (4294967295 - (next : Int)) = ((4294967295 - next : Nat) : Int) := by rw [wrap_u64]; omega
          have hsub2 : (4294967295 : Int) - (next : Int) = ((4294967295 - next : Nat) : Int) := by omega
          have hadd : IntKind.u64.wrap ((next : Int) + (n1 : Int)) = ((next + n1 : Nat) : Int) := by rw [wrap_u64]; omega
          have hcv1 : IntKind.u32.wrap ((next : Int) + (n1 : Int)) = (next : Int) + (n1 : Int) := by rw [IntKind.wrap_u32']; omega
          have hcv2 : IntKind.u32.wrap (n2 : Int) = (n2 : Int) := by rw [IntKind.wrap_u32']; omega
          have hcv3 : IntKind.u32.wrap (n3 : Int) = (n3 : Int) := by rw [IntKind.wrap_u32']; omega
          go_wp2_with fail
          refine Hver.out.mono ?_
          rintro _ _ ⟨rfl, rfl⟩
          go_wp2_with fail
          try simp only [hsub2]
          refine (Hv1.out wr Hrd.out).mono ?_
          rintro _ w6 ⟨rfl, hr6, hg6⟩
          have Hr6 := Lib.hid hr6
          have Hl6 := Lib.hid (OwnR.grownRd Hln.out hg6 hrg)
          have Hb6 := Lib.hid (Hbw.out.trans (gofBelow hg6 (B := w.heap.size) hszr (fun k hk => by injection hk with hk; omega)))
          have hs6 := Nat.le_trans hbs hg6.size
          clear hr6 hg6 Hln Hrd Hbw Hv1 Hver
          go_wp2_with fail
          refine (Hv2.out w6 Hr6.out).mono ?_
          rintro _ w7 ⟨rfl, hr7, hg7⟩
          have Hr7 := Lib.hid hr7
          have Hl7 := Lib.hid (OwnR.grownRd Hl6.out hg7 hrg)
          have Hb7 := Lib.hid (Hb6.out.trans (gofBelow hg7 (B := w.heap.size) Hb6.out.size (fun k hk => by injection hk with hk; omega)))
          have hs7 := Nat.le_trans hs6 hg7.size
          clear hr7 hg7 Hl6 Hr6 Hb6 Hv2
          go_wp2_with fail
          refine (Hv3.out w7 Hr7.out).mono ?_
          rintro _ w8 ⟨rfl, hr8, hg8⟩
          have Hr8 := Lib.hid hr8
          have Hl8 := Lib.hid (OwnR.grownRd Hl7.out hg8 hrg)
          have Hb8 := Lib.hid (Hb7.out.trans (gofBelow hg8 (B := w.heap.size) Hb7.out.size (fun k hk => by injection hk with hk; omega)))
          have hs8 := Nat.le_trans hs7 hg8.size
          clear hr8 hg8 Hl7 Hr7 Hb7 Hv3
          go_wp2_with (at_builtin
                       go_loud (refine wpList_app1R (C := cSpan) rfl (.tmp 54) (.tmp 64) 41 rfl Try.underlying41 infoSpan (by kernel_rfl) (by decide) (by decide) (y := (⟨x1, x2, x3⟩ : GSpan)) [.int .u32 ((next : Int) + (n1 : Int)), .int .u32 (n2 : Int), .int .u32 (n3 : Int)] Hl8.out ⟨by obtain ⟨h1, h2, h3⟩ := Hu.out; show _ = [Value.int .u32 (x1.toNat : Int), .int .u32 (x2.toNat : Int), .int .u32 (x3.toNat : Int)]; rw [h1, h2, h3]; simp, trivial⟩ rfl rfl (by omega) (by omega) ?_)
                       intro v9 w9 hl9 hx9
                       have Hl9 := Lib.hid hl9
                       have Hb9 := Lib.hid (Hb8.out.trans (hx9.below (B := w.heap.size) Hb8.out.size (fun q hq => by have := (Hl8.out.blk q hq).1; omega)))
                       have Hr9 := Lib.hid (Hr8.out.grown hx9.gr (fun k hk => by have := (Hl8.out.blk k hk).1; omega))
                       have hs9 := Nat.le_trans hs8 hx9.gr.size
                       clear hl9 hx9 Hl8 Hb8 Hr8)
          go_roundw
          case rel => exact ⟨m, next + n1 + 1, acc ++ [⟨x1, x2, x3⟩], s3, e3, by go_num, by go_num, by omega, Hr9.out, Hl9.out, by rw [List.length_append, List.length_singleton]; omega, Hpr.out, Hb9.out, hs9⟩
          case measure => simp [intOf]
    · have hK1 : ((sK b).toNat : Int) ≠ 73 := fun e => hK (UInt8.toNat_inj.1 (by show (sK b).toNat = 73; omega))
      have hK2 : (((sK b).toNat : Int) == 73) = false := beq_eq_false_iff_ne.2 hK1
      have Hns := Lib.hid (Hbad.out (.inr hK))
      rw [hE]
      clear hE hK hK1
      generalize (sK b).toNat = K at *
      go_wp2_with fail
      go_ret2
      exact ⟨bstep Hb1.out (balloc _ _), .inr ⟨Hns.out, rfl⟩⟩
  · have hE1 : (sE b == 0) = false := beq_eq_false_iff_ne.2 hE
    have hE2 : (sE b != 0) = true := bne_iff_ne.2 hE
    have Hns := Lib.hid (Hbad.out (.inl hE))
    generalize sE b = E at *
    clear hE
    go_wp2_with fail
    go_ret2
    exact ⟨bstep Hb1.out (balloc _ _), .inr ⟨Hns.out, rfl⟩⟩
end Go.Proofs.Ythfnikdapknohaa

namespace Go.Proofs.Ythfnikdapknohaa
set_option linter.unusedSimpArgs false
set_option linter.unusedVariables false
open Go.RowKit

theorem sL_len (b : List UInt8) : (sL b).length ≤ b.length := by
  unfold sL
  split
  · simp only [List.length_take, List.length_drop]; omega
  · simp
/-- an own row's block is none of a box of another type -/
theorem ownR_ne_box {α : Type} {E T : TypeId} {C : Cdc α} {w : World} {base : Nat} {S : Nat → Prop} {v : Value} {xs : List α} {g : Nat} {cs : List Value} (hET : E ≠ T) (h : OwnR E C w base S v xs) (hb : BoxAt T w g cs) : ∀ k, v.ownBlock = some k → k ≠ g := by
  obtain ⟨_, _, ⟨_, h2⟩, _⟩ := h
  intro k hk e
  subst e
  rcases h2 with ⟨rfl, _⟩ | ⟨g', cap, cur, rfl, _, h3, _⟩
  · cases hk
  · injection hk with hk
    subst hk
    have := h3.symm.trans hb
    injection this with this
    injection this with _ h _
    exact hET h
theorem ownR_ne_own {α β : Type} {E T : TypeId} {C : Cdc α} {D : Cdc β} {w : World} {base base2 : Nat} {S S2 : Nat → Prop} {v v2 : Value} {xs : List α} {ys : List β} (hET : E ≠ T) (h : OwnR E C w base S v xs) (hb : OwnR T D w base2 S2 v2 ys) : ∀ k, v.ownBlock = some k → v2.ownBlock ≠ some k := by
  obtain ⟨_, _, ⟨_, h2⟩, _⟩ := h
  obtain ⟨_, _, ⟨_, h4⟩, _⟩ := hb
  intro k hk e
  rcases h2 with ⟨rfl, _⟩ | ⟨g', cap, cur, rfl, _, h3, _⟩
  · cases hk
  · rcases h4 with ⟨rfl, _⟩ | ⟨g2, cap2, cur2, rfl, _, h5, _⟩
    · cases e
    · injection hk with hk
      injection e with e
      have := h3.symm.trans ((congrArg (w.heap[·]?) (hk.trans e.symm)).trans h5)
      injection this with this
      injection this with _ h _
      exact hET h
theorem ownKept {α β : Type} {E T : TypeId} {C : Cdc α} {D : Cdc β} {w w' : World} {base base2 : Nat} {v v2 v' : Value} {xs : List α} {ys : List β} (hET : E ≠ T) (h : OwnF E C w base v xs) (hb : OwnF T D w base2 v2 ys) (hx : Ext w w' v v') : OwnF T D w' base2 v2 ys := by
  refine hb.keep hx.gr ?_ (fun _ h => h.elim)
  cases hv : v2.ownBlock with
  | none => exact .inl rfl
  | some k => exact .inr fun e => ownR_ne_own hET h hb k e.symm hv
def iOf : Value → Nat
  | .int _ n => n.toNat
  | _ => 0
end Go.Proofs.Ythfnikdapknohaa

namespace Go.Proofs.Ythfnikdapknohaa
set_option linter.unusedSimpArgs false
set_option linter.unusedVariables false
open Go.RowKit

def lastS (xs : List GSpan) : Option UInt32 := (xs.getLast?).map fun x => x.low
def IdxRel (many : Nat) (xs : List GSpan) (s : List UInt8) (e : Int) (R : Option (List GSpan × List UInt8 × Int)) : Prop :=
  rspans (many - xs.length) (lastS xs) xs s e = R ∧ (e ≠ 0 → s = []) ∧ xs.length ≤ many
def IdxSz (L : Nat) (xs : List GSpan) (s : List UInt8) (e : Int) : Prop := xs.length ≤ L + 1 ∧ (e = 0 → xs.length + s.length ≤ L)
theorem idxRel_end {many : Nat} {xs : List GSpan} {s : List UInt8} {e : Int} {R : Option (List GSpan × List UInt8 × Int)} (h : IdxRel many xs s e R) (hs : ¬ (xs.length < many ∧ e = 0)) : R = some (xs, s, e) := by
  obtain ⟨h1, _, h3⟩ := h
  rw [← h1]
  by_cases hx : xs.length < many
  · have he : e ≠ 0 := fun e => hs ⟨hx, e⟩
    obtain ⟨n, hn⟩ : ∃ n, many - xs.length = n + 1 := ⟨many - xs.length - 1, by omega⟩
    rw [hn, rspans, if_pos he]
  · rw [show many - xs.length = 0 from by omega, rspans]
theorem idxRel_step {many : Nat} {xs : List GSpan} {s : List UInt8} {R : Option (List GSpan × List UInt8 × Int)} (h : IdxRel many xs s 0 R) (hx : xs.length < many) (herr : (rsp3 s 0).2.2 ≠ 0 → (rsp3 s 0).2.1 = []) :
    (4294967295 < rfrom (lastS xs) (rspN s 0).1 ∧ R = none) ∨ (rfrom (lastS xs) (rspN s 0).1 ≤ 4294967295 ∧
      IdxRel many (xs ++ [rspL (lastS xs) s 0]) (rsp3 s 0).2.1 (rsp3 s 0).2.2 R) := by
  obtain ⟨h1, _, h3⟩ := h
  obtain ⟨n, hn⟩ : ∃ n, many - xs.length = n + 1 := ⟨many - xs.length - 1, by omega⟩
  rw [hn, rspans, if_neg (by simp)] at h1
  split at h1
  · exact .inl ⟨by assumption, h1.symm⟩
  · refine .inr ⟨by omega, ?_, herr, by simp; omega⟩
    rw [List.length_append, List.length_singleton, show many - (xs.length + 1) = n from by omega]
    simpa [lastS, rspL] using h1
theorem idxSz_step {L : Nat} {xs : List GSpan} {s : List UInt8} (h : IdxSz L xs s 0) (x : GSpan) : IdxSz L (xs ++ [x]) (rsp3 s 0).2.1 (rsp3 s 0).2.2 := by
  have h2 := h.2 rfl
  refine ⟨by rw [List.length_append, List.length_singleton]; omega, fun he => ?_⟩
  obtain ⟨e2, k3, _⟩ := numS_ok 4294967295 _ _ he
  have k1 := numS_len 4294967295 s 0
  have k2 := numS_len 4294967295 (rspN s 0).2.1 (rspN s 0).2.2
  have k4 : (rsp2 s 0).2.1.length = (vput (numS 4294967295 (rsp2 s 0).2.1 (rsp2 s 0).2.2).1).length + (numS 4294967295 (rsp2 s 0).2.1 (rsp2 s 0).2.2).2.1.length := by rw [← List.length_append, ← k3]
  have k5 := (vput_len64 (numS 4294967295 (rsp2 s 0).2.1 (rsp2 s 0).2.2).1 (numS_lt _ _ _).1).1
  have k6 : (rsp3 s 0).2.1.length = (numS 4294967295 (rsp2 s 0).2.1 (rsp2 s 0).2.2).2.1.length := rfl
  have k7 : (rsp2 s 0).2.1.length = (numS 4294967295 (rspN s 0).2.1 (rspN s 0).2.2).2.1.length := rfl
  have k8 : (rspN s 0).2.1.length = (numS 4294967295 s 0).2.1.length := rfl
  rw [List.length_append, List.length_singleton]
  omega
theorem lastS_at (xs : List GSpan) (k : Nat) (h : xs.length = k + 1) : ∃ hk : k < xs.length, lastS xs = some (xs[k]).low := by
  refine ⟨by omega, ?_⟩
  unfold lastS
  have e : xs.getLast? = xs[k]? := by rw [List.getLast?_eq_getElem?, h, Nat.add_sub_cancel]
  rw [e, List.getElem?_eq_getElem (show k < xs.length by omega)]
  rfl
/-- an index' head -/
theorem idx_len (b : List UInt8) (h : ienc (pidx b) = b) : (pidx b).length ≤ b.length := by
  have h1 := spansB_len (pidx b) 0
  have h2 : b.length = (ibody (pidx b)).length + 13 := by
    have := congrArg List.length h
    rw [ienc, frameOf_length] at this
    exact this.symm
  rw [ibody, List.length_append] at h2
  omega
theorem idx_head (b : List UInt8) (h : isIdx b) (hl : b.length ≤ 19000) : sE b = 0 ∧ sN b = b.length ∧ sK b = 73 := by
  obtain ⟨h1, h2, h3, h4⟩ := h
  have h5 := idx_len b h4
  have h6 := idx_read (pidx b) (by omega)
  rw [h4] at h6
  exact ⟨h6.1, h6.2.1, h6.2.2.1⟩
/-- what the document's reader asks -/
def docIdx (b : List UInt8) (out : List GSpan) : Prop := sE b = 0 ∧ sN b = b.length ∧ sK b = 73 ∧ (∃ s e, ridx b = some (out, s, e) ∧ endR s e = 0) ∧ idxOk none out = true
theorem docIdx_is (b : List UInt8) (out : List GSpan) (ho : out.length ≤ 20000) (h : docIdx b out) : isIdx b ∧ pidx b = out := by
  obtain ⟨h1, h2, h3, ⟨s, e, h4, h5⟩, h6⟩ := h
  have he : s = [] ∧ e = 0 := by
    unfold endR at h5
    split at h5
    · omega
    · subst h5
      rename_i h7
      refine ⟨?_, rfl⟩
      cases s with
      | nil => rfl
      | cons a t => exact absurd ⟨rfl, by simp⟩ h7
  obtain ⟨rfl, rfl⟩ := he
  have h7 := ridx_inv b out h1 h2 h3 h4
  subst h7
  exact ⟨isIdx_enc out h6 ho, pidx_ok out h6 ho⟩
theorem is_docIdx (b : List UInt8) (hl : b.length ≤ 19000) (h : isIdx b) : docIdx b (pidx b) := by
  obtain ⟨k1, k2, k3⟩ := idx_head b h hl
  obtain ⟨h1, h2, h3, h4⟩ := h
  have h5 := idx_len b h4
  refine ⟨k1, k2, k3, ⟨[], 0, ?_, rfl⟩, h3⟩
  have := ridx_ok (pidx b) h3 (by omega)
  rwa [h4] at this
theorem byS_nil (w : World) (B : Nat) (A : Option Addr) : ByS w B (.slice A 0 0) [] := ⟨A, 0, rfl, Nat.le_refl _, Nat.zero_le _, fun h => absurd h (by simp)⟩
set_option maxRecDepth 100000 in
set_option maxHeartbeats 8000000 in
theorem rgetidx_any (w : World) (v : Value) (b : List UInt8) (hby : By w w.heap.size v b) (hl : b.length ≤ 19000) :
    Calls Try.prog 22 #[v] w fun e w' => Below w.heap.size w w' ∧ ((isIdx b ∧ ∃ vo, e = .returned (.tuple #[vo, .bool true]) ∧ ByS w' w'.heap.size vo (pidx b)) ∨ (¬ isIdx b ∧ ∃ vo, e = .returned (.tuple #[vo, .bool false]) ∧ ByS w' w'.heap.size vo [])) := by
  obtain ⟨A, c, rfl, hc1, hc2, _⟩ := id hby
  unfold maxLen at hc2
  have hb0 := balloc w (.cells #[] 59)
  have hrf := rfget_any (w.alloc (.cells #[] 59)) (.slice A b.length c) b (hby.step hb0) (by omega)
  have Hrf := Lib.hid hrf
  have Hby := Lib.hid hby
  clear hrf hby
  have hbad : ¬ (sE b = 0 ∧ sN b = b.length ∧ sK b = 73) → ¬ isIdx b := fun h hi => h (idx_head b hi hl)
  have Hbad := Lib.hid hbad
  clear hbad
  go_enter Try.func22, Try.ntmps22
  go_wp2_with fail
  refine Hrf.out.mono ?_
  rintro _ w1 ⟨v1, rfl, ho1, hb1⟩
  obtain ⟨A1, c1, rfl, _, _, _⟩ := ho1.form_
  have hb01 := bstep hb0 hb1
  have Ho1 := Lib.hid ho1
  have Hb01 := Lib.hid hb01
  clear Hrf ho1 hb1 hb0 hb01
  by_cases hE : sE b = 0
  · have hN0 := hE
    rw [hE]
    by_cases hN : sN b = b.length
    · by_cases hK : sK b = 73
      · rw [hN, hK]
        have hK0 : ((73 : UInt8).toNat : Int) = 73 := rfl
        have hb2 := bstep (balloc w1 (.cells #[.int .u8 73, .slice A1 (sL b).length c1] 87)) (balloc _ (.cells #[] 59))
        have hby2 := Ho1.out.by_.below hb2
        have hown2 : OwnF 59 cSpan ((w1.alloc (.cells #[.int .u8 73, .slice A1 (sL b).length c1] 87)).alloc (.cells #[] 59)) w1.heap.size (.slice (some ⟨w1.heap.size + 1, 0, none⟩) 0 0) [] := by
          have := (OwnR.new_ (E := 59) (C := cSpan) (xs := ([] : List GSpan)) (S := fun _ => False) (w1.alloc (.cells #[.int .u8 73, .slice A1 (sL b).length c1] 87)) [] rfl (by simp) (fun i cs x h => by simp at h) (fun _ h => h.elim))
          rw [World.size_alloc] at this
          exact this.more (by omega)
        have hnum := rnum_any _ w1.heap.size _ (sL b) 0 18446744073709551615 (by decide) hby2 hb2.size (fun h => absurd rfl h)
        have hrel0 : IdxRel (numS 18446744073709551615 (sL b) 0).1 [] (numS 18446744073709551615 (sL b) 0).2.1 (numS 18446744073709551615 (sL b) 0).2.2 (ridx b) :=
          ⟨rfl, fun h => (numS_err 18446744073709551615 (sL b) 0 h).1, Nat.zero_le _⟩
        have hsz0 : IdxSz b.length [] (numS 18446744073709551615 (sL b) 0).2.1 (numS 18446744073709551615 (sL b) 0).2.2 := by
          have h2 := numS_len 18446744073709551615 (sL b) 0
          have h3 := sL_len b
          exact ⟨by simp, fun _ => by simp; omega⟩
        have hlt := (numS_lt 18446744073709551615 (sL b) 0).1
        rw [show (((18446744073709551615 : Nat) : Int)) = 18446744073709551615 from rfl] at hnum
        generalize numS 18446744073709551615 (sL b) 0 = M at *
        obtain ⟨many, s1, e1⟩ := M
        simp only at hrel0 hsz0 hnum hlt
        have Hrel0 := Lib.hid hrel0
        have Hsz0 := Lib.hid hsz0
        have Hnum := Lib.hid hnum
        have Hown2 := Lib.hid hown2
        have Hb2 := Lib.hid hb2
        have HE := Lib.hid hN0
        have HN := Lib.hid hN
        have HK := Lib.hid hK
        clear hrel0 hsz0 hnum hown2 hb2 hby2 hN0 hN hK hE
        generalize sL b = sl at *
        go_wp2_with fail
        refine Hnum.out.mono ?_
        rintro _ w3 ⟨v3, rfl, hby3, hb3⟩
        obtain ⟨A3, c3, rfl, _, _, _⟩ := id hby3
        have Hb3 := Lib.hid hb3
        have Hby3 := Lib.hid hby3
        clear hb3 hby3 Hnum
        have hbxR := BoxAt.new_ 112 w3 [.slice A3 s1.length c3, .int .i64 e1]
        have hbr := balloc w3 (.cells #[.slice A3 s1.length c3, .int .i64 e1] 112)
        have hs3 := Hb3.out.size
        have hs2 := Hb2.out.size
        have hs3' : w1.heap.size ≤ w3.heap.size := Nat.le_trans hs2 hs3
        have hown3 := (Hown2.out.below_ Hb3.out).below_ hbr
        have hby3' := Hby3.out.below (hbr.mono hs3')
        have Hbl3 := Lib.hid (bstep (bstep Hb2.out Hb3.out) hbr)
        have HbxR := Lib.hid hbxR
        have Hown3 := Lib.hid hown3
        have Hby3' := Lib.hid hby3'
        clear hbxR hbr hown3 hby3' Hown2 hs3 hs2
        go_wp2_with fail
        go_loopw [8, 11] (fun vo vi wr => ∃ (xs : List GSpan) (s : List UInt8) (e : Int) (As : Option Addr) (cs : Nat), vi = .int .i64 (xs.length : Int) ∧ OwnF 59 cSpan wr w1.heap.size vo xs ∧ BoxAt 112 wr w3.heap.size [.slice As s.length cs, .int .i64 e] ∧ By wr w1.heap.size (.slice As s.length cs) s ∧ Below w1.heap.size w1 wr ∧ w3.heap.size < wr.heap.size ∧ IdxRel many xs s e (ridx b) ∧ IdxSz b.length xs s e) (fun _ vi _ => b.length + 2 - iOf vi)
        case atStart => exact ⟨[], s1, e1, A3, c3, rfl, Hown3.out, HbxR.out, Hby3'.out, Hbl3.out, by simp, Hrel0.out, Hsz0.out⟩
        case round =>
          obtain ⟨xs, s, e, As, cs, rfl, hown, hbx, hvs, hbl, hgs, hrel, hsz⟩ := hrel
          have hlx : xs.length ≤ b.length + 1 := hsz.1
          have hw1 : IntKind.u64.wrap (xs.length : Int) = (xs.length : Int) := by rw [wrap_u64]; omega
          have hx0 := hbx.cell 0 _ rfl
          have hx1 := hbx.cell 1 _ rfl
          have hxl := hbx.lt
          have hszw := hbl.size
          obtain ⟨Ao, co, rfl, hco1, hco2, _⟩ := hown.form'
          by_cases hgo : xs.length < many ∧ e = 0
          · obtain ⟨hxm, rfl⟩ := hgo
            have hdx : decide (xs.length < many) = true := decide_eq_true hxm
            have herr3 : (rsp3 s 0).2.2 ≠ 0 → (rsp3 s 0).2.1 = [] := fun h => (numS_err 4294967295 _ _ h).1
            have hstep := idxRel_step hrel hxm herr3
            have hszs := idxSz_step hsz (rspL (lastS xs) s 0)
            have hsl : s.length ≤ b.length := by have := hsz.2 rfl; omega
            obtain ⟨n1, s1', e1', hN1⟩ : ∃ a b' c', numS 4294967295 s 0 = (a, b', c') := ⟨_, _, _, rfl⟩
            obtain ⟨n2, s2', e2', hN2⟩ : ∃ a b' c', numS 4294967295 s1' e1' = (a, b', c') := ⟨_, _, _, rfl⟩
            obtain ⟨n3, s3', e3', hN3⟩ : ∃ a b' c', numS 4294967295 s2' e2' = (a, b', c') := ⟨_, _, _, rfl⟩
            have q1 : rspN s 0 = (n1, s1', e1') := hN1
            have q2 : rsp2 s 0 = (n2, s2', e2') := by unfold rsp2; rw [q1]; exact hN2
            have q3 : rsp3 s 0 = (n3, s3', e3') := by unfold rsp3; rw [q2]; exact hN3
            rw [rspL, q1, q2, q3] at hstep hszs
            simp only at hstep hszs
            have l1 := (numS_lt 4294967295 s 0).2
            have l2 := (numS_lt 4294967295 s1' e1').2
            have l3 := (numS_lt 4294967295 s2' e2').2
            rw [hN1] at l1
            rw [hN2] at l2
            rw [hN3] at l3
            simp only at l1 l2 l3
            have r1 := numS_err 4294967295 s 0
            have r2 := numS_err 4294967295 s1' e1'
            rw [hN1] at r1
            rw [hN2] at r2
            have Hv1 := Lib.hid (fun W v h hW => rnum_any W w1.heap.size v s 0 4294967295 (by decide) h hW (fun h => absurd rfl h))
            have Hv2 := Lib.hid (fun W v h hW => rnum_any W w1.heap.size v s1' e1' 4294967295 (by decide) h hW (fun h => (r1 h).1))
            have Hv3 := Lib.hid (fun W v h hW => rnum_any W w1.heap.size v s2' e2' 4294967295 (by decide) h hW (fun h => (r2 h).1))
            rw [hN1, show (((4294967295 : Nat) : Int)) = 4294967295 from rfl] at Hv1
            rw [hN2, show (((4294967295 : Nat) : Int)) = 4294967295 from rfl] at Hv2
            rw [hN3, show (((4294967295 : Nat) : Int)) = 4294967295 from rfl] at Hv3
            simp only at Hv1 Hv2 Hv3
            have Hstep := Lib.hid hstep
            have Hszs := Lib.hid hszs
            have Hown := Lib.hid hown
            have Hbl := Lib.hid hbl
            have Hvs := Lib.hid hvs
            have hF : Hid (xs.length = 0 → rfrom (lastS xs) n1 = n1) := Lib.hid fun h => by rw [List.length_eq_zero_iff.1 h]; rfl
            have Hlast := Lib.hid (lastS_at xs)
            clear hstep hszs hown hbl hvs hrel hsz hN1 hN2 hN3 q1 q2 q3 r1 r2 herr3
            go_wp2_with fail
            refine (Hv1.out wr _ Hvs.out hszw).mono ?_
            rintro _ w4 ⟨v4, rfl, hby4, hb4⟩
            obtain ⟨A4, c4, rfl, _, _, _⟩ := id hby4
            have hb5 := balloc w4 (.cells #[.slice A4 s1'.length c4, .int .i64 e1'] 112)
            have hb45 := bstep hb4 hb5
            have Hby5 := Lib.hid (hby4.below (hb5.mono (Nat.le_trans hszw hb4.size)))
            have Hb45 := Lib.hid hb45
            have hs5 := Nat.le_trans hszw hb45.size
            clear hb5 hb45 hb4 hby4 Hv1 Hvs
            go_wp2_with fail
            refine (Hv2.out _ _ Hby5.out hs5).mono ?_
            rintro _ w6 ⟨v6, rfl, hby6, hb6⟩
            obtain ⟨A6, c6, rfl, _, _, _⟩ := id hby6
            have hb7 := balloc w6 (.cells #[.slice A6 s2'.length c6, .int .i64 e2'] 112)
            have Hby7 := Lib.hid (hby6.below (hb7.mono (Nat.le_trans hs5 hb6.size)))
            have Hb67 := Lib.hid (bstep hb6 hb7)
            have hs7 := Nat.le_trans hs5 (bstep hb6 hb7).size
            clear hb6 hb7 hby6 Hv2 Hby5
            go_wp2_with fail
            refine (Hv3.out _ _ Hby7.out hs7).mono ?_
            rintro _ w8 ⟨v8, rfl, hby8, hb8⟩
            obtain ⟨A8, c8, rfl, _, _, _⟩ := id hby8
            have hb9 := balloc w8 (.cells #[.slice A8 s3'.length c8, .int .i64 e3'] 112)
            have Hby9 := Lib.hid (hby8.below (hb9.mono (Nat.le_trans hs7 hb8.size)))
            have Hb09 := Lib.hid (bstep (bstep (bstep Hb45.out Hb67.out) hb8) hb9)
            have hs9 := Nat.le_trans hs7 (bstep hb8 hb9).size
            have hbx9 := hbx.below hbx.lt Hb09.out
            have hx90 := hbx9.cell 0 _ rfl
            have hx91 := hbx9.cell 1 _ rfl
            have hf90 := hbx9.frozen 0
            have hf91 := hbx9.frozen 1
            have hl9 := hbx9.lt
            have hne9 : w8.heap.size ≠ w3.heap.size := by have := hbx.lt; have h2 := Hb45.out.size; have h3 := Hb67.out.size; have h4 := hb8.size; omega
            have hne9' : w3.heap.size ≠ w8.heap.size := fun e => hne9 e.symm
            clear hb8 hb9 hby8 Hv3 Hby7 Hb45 Hb67 hx0 hx1
            go_upto_region 14 with fail
            obtain ⟨w9, hw9⟩ : ∃ w9, w8.alloc (.cells #[.slice A8 s3'.length c8, .int .i64 e3'] 112) = w9 := ⟨_, rfl⟩
            rw [hw9] at Hby9 Hb09 hs9 hbx9 hl9 ⊢
            have hbx10 := ((hbx9.put 0 (.slice A8 s3'.length c8)).put 1 (.int .i64 e3'))
            have hchg : Chg (fun k => k = w3.heap.size) w9 ((w9.setCell ⟨w3.heap.size, 0, none⟩ (.slice A8 s3'.length c8)).setCell ⟨w3.heap.size, 1, none⟩ (.int .i64 e3')) := (Chg.set (P := fun k => k = w3.heap.size) w9 ⟨w3.heap.size, 0, none⟩ (.slice A8 s3'.length c8) rfl).trans (Chg.set (P := fun k => k = w3.heap.size) _ ⟨w3.heap.size, 1, none⟩ (.int .i64 e3') rfl)
            simp only [List.set_cons_zero, List.set_cons_succ] at hbx10
            generalize ((w9.setCell ⟨w3.heap.size, 0, none⟩ (.slice A8 s3'.length c8)).setCell ⟨w3.heap.size, 1, none⟩ (.int .i64 e3')) = w10 at *
            have hby10 := Hby9.out.below (hchg.below (B := w1.heap.size) hs9 (fun k hk => by omega))
            have hbl10 := Hbl.out.trans ((Hb09.out.mono hszw).trans (hchg.below (B := w1.heap.size) hs9 (fun k hk => by omega)))
            have hown10 := (Hown.out.below_ Hb09.out).chg hchg (fun k hk => ownR_ne_box (by decide) Hown.out hbx k hk) (fun _ h => h.elim)
            have hrd10 : ByS w10 w10.heap.size (.slice Ao xs.length co) xs := OwnF.byS hown10
            have hgs10 := hbx10.lt
            have Hby10 := Lib.hid hby10
            have Hbl10 := Lib.hid hbl10
            have Hown10 := Lib.hid hown10
            have Hbx10 := Lib.hid hbx10
            have Hrd10 := Lib.hid hrd10
            clear hby10 hbl10 hown10 hrd10 hchg hbx9 hx90 hx91 hf90 hf91 Hown Hb09 Hby9 hbx10 hbx Hbl hw9 hl9 hne9 hne9' hs5 hs7
            obtain ⟨bz, hbz⟩ : ∃ bz, decide (0 < xs.length) = bz := ⟨_, rfl⟩
            have hbz1 : decide (0 < (xs.length : Int)) = bz := by rw [← hbz]; exact decide_eq_decide.2 (by omega)
            have Hbz := Lib.hid hbz
            go_upto_if 77 with fail
            go_cut [18] from 48 to 100 (fun u wx => u = .int .u64 ((rfrom (lastS xs) n1 : Nat) : Int) ∧ wx = w10)
            case first =>
              clear hbz hbz1
              cases bz with
              | false =>
                have hz : xs.length = 0 := by have := of_decide_eq_false Hbz.out; omega
                have hFz := hF.out hz
                clear hz
                go_wp2_with fail
                go_meet
                exact ⟨by rw [hFz], rfl⟩
              | true =>
                obtain ⟨k, hk⟩ : ∃ k, xs.length = k + 1 := ⟨xs.length - 1, by have := of_decide_eq_true Hbz.out; omega⟩
                obtain ⟨hk1, hla⟩ := Hlast.out k hk
                obtain ⟨ad, rfl, hab, hc0, _, _⟩ := Hrd10.out.cells k hk1
                have hu := u32_lt (xs[k]).low
                have hFk : rfrom (lastS xs) n1 = (xs[k]).low.toNat + n1 + 1 := by rw [hla]; rfl
                have HFk := Lib.hid hFk
                have hLi : (xs.length : Int) - 1 = (k : Int) := by omega
                generalize (xs[k]).low.toNat = y at *
                have hkl : k < xs.length := by omega
                clear hk hla hFk
                go_wp2_with fail
                go_meet
                exact ⟨by rw [HFk.out]; rfl, rfl⟩
            case rest =>
              obtain ⟨rfl, hwx⟩ := hcut
              rw [hwx]
              clear hwx
              clear hbz hbz1 Hbz hF Hlast Hrd10
              rcases Hstep.out with ⟨hbig, hR⟩ | ⟨hsmall, hrel⟩
              · have hns : ¬ isIdx b := fun hi => by
                  obtain ⟨_, _, _, ⟨s', e', h4, _⟩, _⟩ := is_docIdx b hl hi
                  rw [hR] at h4
                  cases h4
                have Hns := Lib.hid hns
                have hd1 : decide ((4294967295 : Int) < ((rfrom (lastS xs) n1 : Nat) : Int)) = true := decide_eq_true (by omega)
                have hd2 : decide (4294967295 < rfrom (lastS xs) n1) = true := decide_eq_true hbig
                clear hns hR
                generalize rfrom (lastS xs) n1 = fr at *
                go_wp2_with fail
                go_ret2
                exact ⟨bstep Hb01.out Hbl10.out, .inr ⟨Hns.out, _, rfl, byS_nil _ _ _⟩⟩
              · have hd1 : decide ((4294967295 : Int) < ((rfrom (lastS xs) n1 : Nat) : Int)) = false := decide_eq_false (by omega)
                have hd2 : decide (4294967295 < rfrom (lastS xs) n1) = false := decide_eq_false (by omega)
                have hw32 : IntKind.u32.wrap ((rfrom (lastS xs) n1 : Nat) : Int) = ((rfrom (lastS xs) n1 : Nat) : Int) := by rw [IntKind.wrap_u32']; omega
                have hcv2 : IntKind.u32.wrap (n2 : Int) = (n2 : Int) := by rw [IntKind.wrap_u32']; omega
                have hcv3 : IntKind.u32.wrap (n3 : Int) = (n3 : Int) := by rw [IntKind.wrap_u32']; omega
                have Hu : Hid ((UInt32.ofNat (rfrom (lastS xs) n1)).toNat = rfrom (lastS xs) n1 ∧ (UInt32.ofNat n2).toNat = n2 ∧ (UInt32.ofNat n3).toNat = n3) := Lib.hid ⟨u32_of _ hsmall, u32_of _ l2, u32_of _ l3⟩
                have Hrel := Lib.hid hrel
                clear hrel Hstep
                generalize UInt32.ofNat (rfrom (lastS xs) n1) = x1 at *
                generalize UInt32.ofNat n2 = x2 at *
                generalize UInt32.ofNat n3 = x3 at *
                generalize rfrom (lastS xs) n1 = fr at *
                have hs10 := Hbl10.out.size
                go_wp2_with (at_builtin
                             go_loud (refine wpList_app1R (C := cSpan) rfl (.tmp 91) (.tmp 99) 41 rfl Try.underlying41 infoSpan (by kernel_rfl) (by decide) (by decide) (y := (⟨x1, x2, x3⟩ : GSpan)) [.int .u32 (fr : Int), .int .u32 (n2 : Int), .int .u32 (n3 : Int)] Hown10.out ⟨by obtain ⟨h1, h2, h3⟩ := Hu.out; show _ = [Value.int .u32 (x1.toNat : Int), .int .u32 (x2.toNat : Int), .int .u32 (x3.toNat : Int)]; rw [h1, h2, h3], trivial⟩ rfl rfl (by omega) (by omega) ?_)
                             intro v11 w11 hown11 hext11)
                have hb11 : Below w1.heap.size w10 w11 := hext11.below hs10 fun q hq => (Hown10.out.blk q hq).1
                have hlx1 : (xs ++ [(⟨x1, x2, x3⟩ : GSpan)]).length = xs.length + 1 := by simp
                have hlb := Hszs.out.1
                refine ⟨⟨_, s3', e3', A8, c8, by rw [hlx1]; simp, hown11, Hbx10.out.grown hext11.gr (fun e => ownR_ne_box (by decide) Hown10.out Hbx10.out _ e rfl), Hby10.out.below hb11, Hbl10.out.trans hb11, Nat.lt_of_lt_of_le hgs10 hb11.size, Hrel.out, Hszs.out⟩, ?_⟩
                rw [List.length_append, List.length_singleton] at hlb
                show b.length + 2 - ((xs.length : Int) + 1).toNat < b.length + 2 - ((xs.length : Int)).toNat
                omega
          · have hend := idxRel_end hrel hgo
            have Hsz := Lib.hid hsz
            have hbad : ¬ docIdx b xs → ¬ isIdx b := fun h hi => by
              have h1 := is_docIdx b hl hi
              have ⟨_, _, _, ⟨s', e', h4, _⟩, _⟩ := h1
              rw [hend] at h4
              injection h4 with h4
              injection h4 with h4 _
              exact h (h4 ▸ h1)
            have Hbad := Lib.hid hbad
            have Hend := Lib.hid hend
            have Hvs := Lib.hid hvs
            have Hbl := Lib.hid hbl
            have Hown := Lib.hid hown
            have Hbx := Lib.hid hbx
            have hbad2 : ¬ docIdx b xs → ¬ isIdx b := hbad
            clear hbad hbad2 hend hvs hbl hown hrel hsz
            by_cases hx : xs.length < many
            · have he1 : (e == 0) = false := beq_eq_false_iff_ne.2 fun h => hgo ⟨hx, h⟩
              have hxx : decide (xs.length < many) = true := decide_eq_true hx
              go_wp2_with fail
              refine (rend_any wr _ s e w1.heap.size Hvs.out).mono ?_
              rintro _ w5 ⟨rfl, hb5⟩
              have Hb5 := Lib.hid hb5
              clear hb5
              by_cases hA : endR s e = 0
              · have hA2 : (endR s e != 0) = false := by simp [hA]
                have hA3 : (endR s e == 0) = true := by simp [hA]
                have HA := Lib.hid hA
                rw [hA]
                clear hA hA2 hA3
                go_wp2_with fail
                refine (rindex_any w5 w5.heap.size _ xs ((OwnF.byS Hown.out).step Hb5.out) (Nat.le_refl _)).mono ?_
                rintro _ w6 ⟨rfl, hb6⟩
                have hb06 := bstep (bstep (bstep Hb01.out Hbl.out) Hb5.out) hb6
                have Hb06 := Lib.hid hb06
                have Hby6 := Lib.hid (((OwnF.byS Hown.out).step Hb5.out).step hb6)
                clear hb6 hb06
                cases hI : idxOk none xs with
                | true =>
                  have Hok := Lib.hid (docIdx_is b xs (by have := Hsz.out.1; omega) ⟨HE.out, HN.out, HK.out, ⟨s, e, Hend.out, HA.out⟩, hI⟩)
                  clear hI
                  go_wp2_with fail
                  go_ret2
                  obtain ⟨h1, h2⟩ := Hok.out
                  exact ⟨Hb06.out, .inl ⟨h1, _, rfl, by rw [h2]; exact Hby6.out⟩⟩
                | false =>
                  have Hns := Lib.hid (Hbad.out fun h => by have := h.2.2.2.2; rw [hI] at this; cases this)
                  clear hI
                  go_wp2_with fail
                  go_ret2
                  exact ⟨Hb06.out, .inr ⟨Hns.out, _, rfl, byS_nil _ _ _⟩⟩
              · have hA2 : (endR s e != 0) = true := by simp [hA]
                have hA3 : (endR s e == 0) = false := by simp [hA]
                have Hns := Lib.hid (Hbad.out fun h => by
                  obtain ⟨_, _, _, ⟨s', e', h4, h5⟩, _⟩ := h
                  rw [Hend.out] at h4
                  injection h4 with h4
                  injection h4 with _ h4
                  injection h4 with h4 h6
                  subst h4 h6
                  exact hA h5)
                have hb06 := bstep (bstep Hb01.out Hbl.out) Hb5.out
                have Hb06 := Lib.hid hb06
                clear hA hb06
                generalize endR s e = er at *
                go_wp2_with fail
                go_ret2
                exact ⟨Hb06.out, .inr ⟨Hns.out, _, rfl, byS_nil _ _ _⟩⟩
            · have hxx : decide (xs.length < many) = false := decide_eq_false hx
              go_wp2_with fail
              refine (rend_any wr _ s e w1.heap.size Hvs.out).mono ?_
              rintro _ w5 ⟨rfl, hb5⟩
              have Hb5 := Lib.hid hb5
              clear hb5
              by_cases hA : endR s e = 0
              · have hA2 : (endR s e != 0) = false := by simp [hA]
                have hA3 : (endR s e == 0) = true := by simp [hA]
                have HA := Lib.hid hA
                rw [hA]
                clear hA hA2 hA3
                go_wp2_with fail
                refine (rindex_any w5 w5.heap.size _ xs ((OwnF.byS Hown.out).step Hb5.out) (Nat.le_refl _)).mono ?_
                rintro _ w6 ⟨rfl, hb6⟩
                have hb06 := bstep (bstep (bstep Hb01.out Hbl.out) Hb5.out) hb6
                have Hb06 := Lib.hid hb06
                have Hby6 := Lib.hid (((OwnF.byS Hown.out).step Hb5.out).step hb6)
                clear hb6 hb06
                cases hI : idxOk none xs with
                | true =>
                  have Hok := Lib.hid (docIdx_is b xs (by have := Hsz.out.1; omega) ⟨HE.out, HN.out, HK.out, ⟨s, e, Hend.out, HA.out⟩, hI⟩)
                  clear hI
                  go_wp2_with fail
                  go_ret2
                  obtain ⟨h1, h2⟩ := Hok.out
                  exact ⟨Hb06.out, .inl ⟨h1, _, rfl, by rw [h2]; exact Hby6.out⟩⟩
                | false =>
                  have Hns := Lib.hid (Hbad.out fun h => by have := h.2.2.2.2; rw [hI] at this; cases this)
                  clear hI
                  go_wp2_with fail
                  go_ret2
                  exact ⟨Hb06.out, .inr ⟨Hns.out, _, rfl, byS_nil _ _ _⟩⟩
              · have hA2 : (endR s e != 0) = true := by simp [hA]
                have hA3 : (endR s e == 0) = false := by simp [hA]
                have Hns := Lib.hid (Hbad.out fun h => by
                  obtain ⟨_, _, _, ⟨s', e', h4, h5⟩, _⟩ := h
                  rw [Hend.out] at h4
                  injection h4 with h4
                  injection h4 with _ h4
                  injection h4 with h4 h6
                  subst h4 h6
                  exact hA h5)
                have hb06 := bstep (bstep Hb01.out Hbl.out) Hb5.out
                have Hb06 := Lib.hid hb06
                clear hA hb06
                generalize endR s e = er at *
                go_wp2_with fail
                go_ret2
                exact ⟨Hb06.out, .inr ⟨Hns.out, _, rfl, byS_nil _ _ _⟩⟩
      · have hK1 : ((sK b).toNat : Int) ≠ 73 := fun e => hK (UInt8.toNat_inj.1 (by show (sK b).toNat = 73; omega))
        have hK2 : (((sK b).toNat : Int) == 73) = false := beq_eq_false_iff_ne.2 hK1
        have Hns := Lib.hid (Hbad.out fun h => hK h.2.2)
        rw [hN]
        clear hN0 hE hN hK hK1
        generalize (sK b).toNat = K at *
        go_wp2_with fail
        go_ret2
        exact ⟨bstep Hb01.out (balloc _ _), .inr ⟨Hns.out, _, rfl, byS_nil _ _ _⟩⟩
    · have hN1 : ((sN b : Int) == (b.length : Int)) = false := beq_eq_false_iff_ne.2 (by omega)
      have hN2 : (sN b == b.length) = false := beq_eq_false_iff_ne.2 hN
      have Hns := Lib.hid (Hbad.out fun h => hN h.2.1)
      clear hN0 hE hN
      generalize sN b = N at *
      go_wp2_with fail
      go_ret2
      exact ⟨bstep Hb01.out (balloc _ _), .inr ⟨Hns.out, _, rfl, byS_nil _ _ _⟩⟩
  · have hE1 : (sE b == 0) = false := beq_eq_false_iff_ne.2 hE
    have hE2 : (sE b != 0) = true := bne_iff_ne.2 hE
    have Hns := Lib.hid (Hbad.out fun h => hE h.1)
    generalize sE b = E at *
    clear hE
    go_wp2_with fail
    go_ret2
    exact ⟨bstep Hb01.out (balloc _ _), .inr ⟨Hns.out, _, rfl, byS_nil _ _ _⟩⟩
end Go.Proofs.Ythfnikdapknohaa

namespace Go.Proofs.Ythfnikdapknohaa
set_option linter.unusedSimpArgs false
set_option linter.unusedVariables false
open Go.RowKit

theorem idx_row (l : List GSpan) (k : Nat) (hk : k < l.length) (h : idxOk none l = true) : nxtS 0 (l.take k) ≤ (l[k]).low.toNat := by
  have h1 := idxOk_at l k hk (idxOk_take l k h)
  rw [idxOk_take l (k + 1) h] at h1
  have h2 := h1.symm
  rw [Bool.and_eq_true, Bool.and_eq_true, decide_eq_true_eq] at h2
  exact h2.1.1
set_option maxRecDepth 100000 in
set_option maxHeartbeats 4000000 in
theorem rputidx_any (w : World) (B : Nat) (v : Value) (l : List GSpan) (hs : l.length ≤ 20000) (h : ByS w B v l) (hB : B ≤ w.heap.size) (hn : idxOk none l = true) :
    Calls Try.prog 26 #[v] w fun e w' => ∃ v', e = .returned v' ∧ Ow w' w.heap.size v' (ienc l) ∧ Below w.heap.size w w' := by
  obtain ⟨A, c, rfl, hc1, hc2⟩ := h.form
  unfold maxLen at hc2
  have Hrw := Lib.hid (idx_row l · · hn)
  have Htk := Lib.hid (nxtS_take l)
  have H := Lib.hid h
  have Hbl := Lib.hid (fun k => (spansB_len (l.take k) 0).1)
  have Hsb := Lib.hid (ibody_len l hs)
  have hcv : IntKind.u64.wrap (l.length : Int) = (l.length : Int) := by rw [wrap_u64]; omega
  have hvl := (vput_len64 l.length (by omega)).2
  clear hn h
  go_enter Try.func26, Try.ntmps26
  go_wp2_with fail
  refine (refnum_any l.length w (by omega)).mono ?_
  rintro _ w2 ⟨v2, rfl, ho2, hb2⟩
  have Ho2 : Hid (Ow w2 w.heap.size v2 (vput l.length ++ spansB 0 (l.take 0))) := Lib.hid (by simpa [spansB] using ho2)
  have Hb2 := Lib.hid hb2
  clear hb2 ho2
  go_wp2_with fail
  go_loopw [3, 12] (fun b i wr => ∃ k : Nat, k ≤ l.length ∧ i = .int .i64 k ∧ Ow wr w.heap.size b (vput l.length ++ spansB 0 (l.take k)) ∧ Below w.heap.size w wr) (fun _ i _ => l.length - (intOf i).toNat)
  case atStart => exact ⟨0, by omega, rfl, Ho2.out, Hb2.out⟩
  case round =>
    obtain ⟨k, hk, rfl, hob, hbw⟩ := hrel
    have Hob := Lib.hid hob
    have Hbw := Lib.hid hbw
    have hszr := hbw.size
    clear hob hbw
    by_cases hlt : k < l.length
    · obtain ⟨ad, rfl, hab, hx0, hx1, hx2⟩ := (H.out.below (Hbw.out.mono hB)).cells k hlt
      have hnx := Hrw.out k hlt
      have hbk := Hbl.out k
      have htk : (l.take k).length ≤ 20000 := by rw [List.length_take]; omega
      have hpl : (vput l.length ++ spansB 0 (l.take k)).length ≤ 1000000 := by rw [List.length_append]; omega
      have Hsn : Hid (vput l.length ++ spansB 0 (l.take (k + 1)) = vput l.length ++ spansB 0 (l.take k) ++ vput ((l[k]).low.toNat - nxtS 0 (l.take k)) ++ vput (l[k]).rows.toNat ++ vput (l[k]).size.toNat) := Lib.hid (by
        rw [List.take_add_one, List.getElem?_eq_getElem hlt]
        show vput l.length ++ spansB 0 (l.take k ++ [l[k]]) = _
        rw [spansB_snoc, span1]
        simp only [List.append_assoc])
      have Hnxt : Hid (∀ m, k = m + 1 → ∃ hm : m < l.length, nxtS 0 (l.take k) = (l[m]).low.toNat + 1) := Lib.hid (by
        rintro m rfl
        exact ⟨by omega, Htk.out m (by omega)⟩)
      have Hnx0 : Hid (k = 0 → nxtS 0 (l.take k) = 0) := Lib.hid (by rintro rfl; rfl)
      have Hcells := Lib.hid (fun m hm => (H.out.below (Hbw.out.mono hB)).cells m hm)
      have Hcl := Lib.hid (fun (W : World) (hb : Below w.heap.size w W) => (H.out.below (hb.mono hB)).cells k hlt)
      have hfr := u32_lt (l[k]).low
      have hrr := u32_lt (l[k]).rows
      have hss := u32_lt (l[k]).size
      generalize l[k] = r at *
      clear hbk htk
      generalize nxtS 0 (l.take k) = nx at *
      generalize vput l.length ++ spansB 0 (l.take k) = pre at *
      rcases Nat.eq_zero_or_pos k with hk0 | hk0
      · have hd0 : decide ((k : Int) > 0) = false := decide_eq_false (by omega)
        have hd1 : decide (0 < k) = false := decide_eq_false (by omega)
        have hg := fun W => gap_any W k 0 r.low (by omega) (.inl hk0)
        have hgn : gapN k 0 r.low = r.low.toNat - nx := by rw [Hnx0.out hk0, hk0]; rfl
        rw [hgn] at hg
        have Hg : Hid (∀ W, Calls Try.prog 49 #[.int .i64 (k : Int), .int .u32 0, .int .u32 (r.low.toNat : Int)] W fun e w' => e = .returned (.int .u64 ((r.low.toNat - nx : Nat) : Int)) ∧ W = w') := Lib.hid hg
        clear hg hgn Hnx0 Hnxt Hcells hk0
        go_wp2_with fail
        refine (Hg.out _).mono ?_
        rintro _ _ ⟨rfl, rfl⟩
        clear hd0 hd1
        have Hx0 := Lib.hid hx0
        clear hx0 hx1 hx2
        go_wp2_with fail
        refine (refnum_any (r.low.toNat - nx) _ (by omega)).mono ?_
        rintro _ w4 ⟨v4, rfl, ho4, hb4⟩
        have Hob4 := Lib.hid (Hob.out.below_ hb4)
        have Hbw4 := Lib.hid (Hbw.out.trans (hb4.mono hszr))
        have Hby4 := Lib.hid ho4.by_
        have hszr4 := Nat.le_trans hszr hb4.size
        have hvn4 := (vput_len64 (r.low.toNat - nx) (by omega)).2
        clear ho4 hb4
        go_wp2_with (at_builtin
                     refine wpList_app8 rfl (.tmp 23) (.tmp 32) rfl Hob4.out Hby4.out rfl rfl (by omega) hszr4 ?_
                     intro v5 w5 ho5 hx5
                     have Hob5 := Lib.hid ho5
                     have Hbw5 := Lib.hid (Hbw4.out.trans (hx5.below (B := w.heap.size) hszr4 (fun q hq => (Hob4.out.blk q hq).1)))
                     have hszr5 := Hbw5.out.size
                     obtain ⟨ad5, e5, hab5, hx0, hx1, hx2⟩ := Hcl.out w5 Hbw5.out
                     injection e5 with e5
                     subst e5
                     clear ho5 hx5)
        clear Hob4 Hby4 Hbw4
        refine (refnum_any (r.rows.toNat) _ (by omega)).mono ?_
        rintro _ w6 ⟨v6, rfl, ho6, hb6⟩
        have Hob6 := Lib.hid (Hob5.out.below_ hb6)
        have Hbw6 := Lib.hid (Hbw5.out.trans (hb6.mono hszr5))
        have Hby6 := Lib.hid ho6.by_
        have hszr6 := Nat.le_trans hszr5 hb6.size
        have hvn6 := (vput_len64 (r.rows.toNat) (by omega)).2
        clear ho6 hb6
        go_wp2_with (at_builtin
                     refine wpList_app8 rfl (.tmp 34) (.tmp 41) rfl Hob6.out Hby6.out rfl rfl (by rw [List.length_append]; omega) hszr6 ?_
                     intro v7 w7 ho7 hx7
                     have Hob7 := Lib.hid ho7
                     have Hbw7 := Lib.hid (Hbw6.out.trans (hx7.below (B := w.heap.size) hszr6 (fun q hq => (Hob6.out.blk q hq).1)))
                     have hszr7 := Hbw7.out.size
                     obtain ⟨ad7, e7, hab7, hx0, hx1, hx2⟩ := Hcl.out w7 Hbw7.out
                     injection e7 with e7
                     subst e7
                     clear ho7 hx7)
        clear Hob6 Hby6 Hbw6
        refine (refnum_any (r.size.toNat) _ (by omega)).mono ?_
        rintro _ w8 ⟨v8, rfl, ho8, hb8⟩
        have Hob8 := Lib.hid (Hob7.out.below_ hb8)
        have Hbw8 := Lib.hid (Hbw7.out.trans (hb8.mono hszr7))
        have Hby8 := Lib.hid ho8.by_
        have hszr8 := Nat.le_trans hszr7 hb8.size
        have hvn8 := (vput_len64 (r.size.toNat) (by omega)).2
        clear ho8 hb8
        go_wp2_with (at_builtin
                     refine wpList_app8 rfl (.tmp 43) (.tmp 50) rfl Hob8.out Hby8.out rfl rfl (by simp only [List.length_append]; omega) hszr8 ?_
                     intro v9 w9 ho9 hx9
                     have Hob9 := Lib.hid ho9
                     have Hbw9 := Lib.hid (Hbw8.out.trans (hx9.below (B := w.heap.size) hszr8 (fun q hq => (Hob8.out.blk q hq).1)))
                     have hszr9 := Hbw9.out.size
                     obtain ⟨ad9, e9, hab9, hx0, hx1, hx2⟩ := Hcl.out w9 Hbw9.out
                     injection e9 with e9
                     subst e9
                     clear ho9 hx9)
        go_roundw
        case rel => exact ⟨k + 1, by omega, by go_num, by rw [Hsn.out]; exact Hob9.out, Hbw9.out⟩
        case measure => simp [intOf]; omega
      · obtain ⟨p, rfl⟩ : ∃ p, k = p + 1 := ⟨k - 1, by omega⟩
        obtain ⟨hp, hnx2⟩ := Hnxt.out p rfl
        obtain ⟨ad2, e2, _, hy0, _, _⟩ := Hcells.out p hp
        injection e2 with e2
        subst e2
        have hk1 : (((p + 1 : Nat) : Int) - 1) = (p : Int) := by omega
        have hgt : decide (((p + 1 : Nat) : Int) > 0) = true := decide_eq_true (by omega)
        have hgt' : decide (0 < p + 1) = true := decide_eq_true (by omega)
        have hw1 : wrap64 (((p + 1 : Nat) : Int) - 1) = (p : Int) := by unfold wrap64; omega
        have hfr2 := u32_lt (l[p]).low
        have hg := fun W => gap_any W (p + 1) (l[p]).low r.low (by omega) (.inr (by omega))
        have hgn : gapN (p + 1) (l[p]).low r.low = r.low.toNat - nx := by unfold gapN; rw [if_neg (by omega), hnx2]
        rw [hgn] at hg
        have Hg : Hid (∀ W, Calls Try.prog 49 #[.int .i64 ((p : Int) + 1), .int .u32 ((l[p]).low.toNat : Int), .int .u32 (r.low.toNat : Int)] W fun e w' => e = .returned (.int .u64 ((r.low.toNat - nx : Nat) : Int)) ∧ W = w') := Lib.hid (by simpa using hg)
        clear hg hgn Hnx0 Hnxt Hcells hk0 hnx2
        generalize (l[p]).low.toNat = f2 at *
        go_wp2_with fail
        refine (Hg.out _).mono ?_
        rintro _ _ ⟨rfl, rfl⟩
        clear hy0
        have Hx0 := Lib.hid hx0
        clear hx0 hx1 hx2
        go_wp2_with fail
        refine (refnum_any (r.low.toNat - nx) _ (by omega)).mono ?_
        rintro _ w4 ⟨v4, rfl, ho4, hb4⟩
        have Hob4 := Lib.hid (Hob.out.below_ hb4)
        have Hbw4 := Lib.hid (Hbw.out.trans (hb4.mono hszr))
        have Hby4 := Lib.hid ho4.by_
        have hszr4 := Nat.le_trans hszr hb4.size
        have hvn4 := (vput_len64 (r.low.toNat - nx) (by omega)).2
        clear ho4 hb4
        go_wp2_with (at_builtin
                     refine wpList_app8 rfl (.tmp 23) (.tmp 32) rfl Hob4.out Hby4.out rfl rfl (by omega) hszr4 ?_
                     intro v5 w5 ho5 hx5
                     have Hob5 := Lib.hid ho5
                     have Hbw5 := Lib.hid (Hbw4.out.trans (hx5.below (B := w.heap.size) hszr4 (fun q hq => (Hob4.out.blk q hq).1)))
                     have hszr5 := Hbw5.out.size
                     obtain ⟨ad5, e5, hab5, hx0, hx1, hx2⟩ := Hcl.out w5 Hbw5.out
                     injection e5 with e5
                     subst e5
                     clear ho5 hx5)
        clear Hob4 Hby4 Hbw4
        refine (refnum_any (r.rows.toNat) _ (by omega)).mono ?_
        rintro _ w6 ⟨v6, rfl, ho6, hb6⟩
        have Hob6 := Lib.hid (Hob5.out.below_ hb6)
        have Hbw6 := Lib.hid (Hbw5.out.trans (hb6.mono hszr5))
        have Hby6 := Lib.hid ho6.by_
        have hszr6 := Nat.le_trans hszr5 hb6.size
        have hvn6 := (vput_len64 (r.rows.toNat) (by omega)).2
        clear ho6 hb6
        go_wp2_with (at_builtin
                     refine wpList_app8 rfl (.tmp 34) (.tmp 41) rfl Hob6.out Hby6.out rfl rfl (by rw [List.length_append]; omega) hszr6 ?_
                     intro v7 w7 ho7 hx7
                     have Hob7 := Lib.hid ho7
                     have Hbw7 := Lib.hid (Hbw6.out.trans (hx7.below (B := w.heap.size) hszr6 (fun q hq => (Hob6.out.blk q hq).1)))
                     have hszr7 := Hbw7.out.size
                     obtain ⟨ad7, e7, hab7, hx0, hx1, hx2⟩ := Hcl.out w7 Hbw7.out
                     injection e7 with e7
                     subst e7
                     clear ho7 hx7)
        clear Hob6 Hby6 Hbw6
        refine (refnum_any (r.size.toNat) _ (by omega)).mono ?_
        rintro _ w8 ⟨v8, rfl, ho8, hb8⟩
        have Hob8 := Lib.hid (Hob7.out.below_ hb8)
        have Hbw8 := Lib.hid (Hbw7.out.trans (hb8.mono hszr7))
        have Hby8 := Lib.hid ho8.by_
        have hszr8 := Nat.le_trans hszr7 hb8.size
        have hvn8 := (vput_len64 (r.size.toNat) (by omega)).2
        clear ho8 hb8
        go_wp2_with (at_builtin
                     refine wpList_app8 rfl (.tmp 43) (.tmp 50) rfl Hob8.out Hby8.out rfl rfl (by simp only [List.length_append]; omega) hszr8 ?_
                     intro v9 w9 ho9 hx9
                     have Hob9 := Lib.hid ho9
                     have Hbw9 := Lib.hid (Hbw8.out.trans (hx9.below (B := w.heap.size) hszr8 (fun q hq => (Hob8.out.blk q hq).1)))
                     have hszr9 := Hbw9.out.size
                     obtain ⟨ad9, e9, hab9, hx0, hx1, hx2⟩ := Hcl.out w9 Hbw9.out
                     injection e9 with e9
                     subst e9
                     clear ho9 hx9)
        go_roundw
        case rel => exact ⟨p + 1 + 1, by omega, by go_num, by rw [Hsn.out]; exact Hob9.out, Hbw9.out⟩
        case measure => simp [intOf]; omega
    · obtain rfl : k = l.length := by omega
      rw [List.take_length] at Hob
      have hse : ienc l = frameOf 73 (vput l.length ++ spansB 0 l) := rfl
      have hrl : (vput l.length ++ spansB 0 l).length ≤ 1048576 := by have := Hsb.out; unfold ibody at this; omega
      have Hse := Lib.hid hse
      clear hse
      obtain ⟨rb, hrb⟩ : ∃ rb, rb = vput l.length ++ spansB 0 l := ⟨_, rfl⟩
      rw [← hrb] at Hob Hse hrl
      clear hrb
      obtain ⟨Ab, cb, rfl, _, _, _⟩ := Hob.out.form_
      go_wp2_with fail
      refine (rfput_any wr 73 (.slice Ab rb.length cb) rb Hob.out.by_ (by omega)).mono ?_
      rintro _ w7 ⟨v7, rfl, ho7, hb7⟩
      have Ho7 := Lib.hid (ho7.mono hszr)
      have Hb7 := Lib.hid (Hbw.out.trans (hb7.mono hszr))
      clear ho7 hb7
      go_wp2_with fail
      go_ret
      rw [Hse.out]
      exact ⟨_, rfl, Ho7.out, Hb7.out⟩
end Go.Proofs.Ythfnikdapknohaa

namespace Go.Proofs.Ythfnikdapknohaa
set_option linter.unusedSimpArgs false
set_option linter.unusedVariables false
open Go.RowKit
theorem fieldsSpan : Try.prog.fieldsOf 59 = #[{ name := "Low", type := 51, offset := 0, embedded := false, tag := "", pkgPath := "", byteOffset := 0 }, { name := "Rows", type := 51, offset := 1, embedded := false, tag := "", pkgPath := "", byteOffset := 4 }, { name := "Size", type := 51, offset := 2, embedded := false, tag := "", pkgPath := "", byteOffset := 8 }] := by kernel_rfl
theorem eqSpan_ (d : Nat) (w : World) (a b c a2 b2 c2 : Int) : (Op.equalIn (d + 2) 59 (.agg #[.int .u32 a, .int .u32 b, .int .u32 c]) (.agg #[.int .u32 a2, .int .u32 b2, .int .u32 c2])).run Try.prog w = .ok (a == a2 && b == b2 && c == c2) w := by
  rw [run_equalIn_struct w (d + 1) 59 _ _ (by rw [fieldsSpan]; exact Try.underlying59) (by kernel_rfl), fieldsSpan]
  have h33 := Try.underlying51
  have p0 : ∀ (x y z : Int), (part 51 #[.int .u32 x, .int .u32 y, .int .u32 z] 0).run Try.prog w = .ok (.int .u32 x) w := fun x y z => by kernel_rfl
  have p1 : ∀ (x y z : Int), (part 51 #[.int .u32 x, .int .u32 y, .int .u32 z] 1).run Try.prog w = .ok (.int .u32 y) w := fun x y z => by kernel_rfl
  have p2 : ∀ (x y z : Int), (part 51 #[.int .u32 x, .int .u32 y, .int .u32 z] 2).run Try.prog w = .ok (.int .u32 z) w := fun x y z => by kernel_rfl
  simp only [Op.eqFields, Sem.run_bind, Sem.run_ite, p0, p1, p2, Result.andThen_ok, run_equalIn_int w d 51 _ .u32 _ _ h33]
  by_cases h1 : a = a2 <;> by_cases h2 : b = b2 <;> by_cases h3 : c = c2 <;> simp [h1, h2, h3]
theorem eqSpan (w : World) (a b c a2 b2 c2 : Int) : (Op.equalIn 10000 59 (.agg #[.int .u32 a, .int .u32 b, .int .u32 c]) (.agg #[.int .u32 a2, .int .u32 b2, .int .u32 c2])).run Try.prog w = .ok (a == a2 && b == b2 && c == c2) w := eqSpan_ 9998 w a b c a2 b2 c2
theorem guardSpan : Try.prog.eqGuardType Try.prog.depth 59 = false := by kernel_rfl
set_option maxRecDepth 100000 in
set_option maxHeartbeats 1600000 in
theorem ssame_any (w : World) (B1 B2 : Nat) (v1 v2 : Value) (l1 l2 : List GSpan) (h1 : ByS w B1 v1 l1) (h2 : ByS w B2 v2 l2) :
    Calls Try.prog 23 #[v1, v2] w fun e w' => e = .returned (.bool (decide (l1 = l2))) ∧ ∃ q, w' = w.drewN q := by
  obtain ⟨A1, c1, rfl, ha1, ha2⟩ := h1.form
  obtain ⟨A2, c2, rfl, hb1, hb2⟩ := h2.form
  unfold maxLen at ha2 hb2
  by_cases hlen : l1.length = l2.length
  · have hd : ∀ k, (hk : k < l1.length) → (hk2 : k < l2.length) → l1[k] ≠ l2[k] → decide (l1 = l2) = false := fun k hk hk2 hne => decide_eq_false fun e => hne (by subst e; rfl)
    have hy : (∀ k, (hk : k < l1.length) → (hk2 : k < l2.length) → l1[k] = l2[k]) → decide (l1 = l2) = true := fun h => decide_eq_true (List.ext_getElem hlen fun k h1 h2 => h k h1 h2)
    have Hd := Lib.hid hd
    have Hy := Lib.hid hy
    have Hlen := Lib.hid hlen
    have hnb : (((l1.length : Nat) : Int) == ((l2.length : Nat) : Int)) = true := by simp; omega
    have hnb' : (((l1.length : Nat) : Int) != ((l2.length : Nat) : Int)) = false := by simp; omega
    clear hd hy hlen
    generalize decide (l1 = l2) = D at *
    go_enter Try.func23, Try.ntmps23
    go_wp2_with fail
    go_loopw [13] (fun i wr => ∃ k : Nat, k ≤ l1.length ∧ i = .int .i64 k ∧ (∀ j, (hj : j < k) → (hj1 : j < l1.length) → (hj2 : j < l2.length) → l1[j] = l2[j]) ∧ ∃ q, wr = w.drewN q) (fun i _ => l1.length - (intOf i).toNat)
    case atStart => exact ⟨0, by omega, rfl, fun j hj => by omega, 0, rfl⟩
    case round =>
      obtain ⟨k, hk, rfl, hall, q, rfl⟩ := hrel
      by_cases hlt : k < l1.length
      · have hlt2 : k < l2.length := by rw [← Hlen.out]; exact hlt
        obtain ⟨ad1, rfl, _, hx0, hx1, hx2⟩ := ByS.cells h1 k hlt
        obtain ⟨ad2, rfl, _, hy0, hy1, hy2⟩ := ByS.cells h2 k hlt2
        have Hall := Lib.hid hall
        have Hd1 := Lib.hid (Hd.out k hlt hlt2)
        clear hall
        have hcase : l1[k] = l2[k] ∨ l1[k] ≠ l2[k] := Decidable.em _
        have Hst : Hid (l1[k] = l2[k] → ∀ j, (hj : j < k + 1) → (hj1 : j < l1.length) → (hj2 : j < l2.length) → l1[j] = l2[j]) := fun he j hj hj1 hj2 => by
          rcases Nat.lt_or_ge j k with h | h
          · exact Hall.out j h hj1 hj2
          · obtain rfl : j = k := by omega
            exact he
        generalize l1[k] = a at *
        generalize l2[k] = b at *
        obtain ⟨a1, a2, a3⟩ := a
        obtain ⟨b1, b2, b3⟩ := b
        simp only at hx0 hx1 hx2 hy0 hy1 hy2
        have heq := eqSpan
        have hgd := guardSpan
        by_cases hab : a1 = b1 ∧ a2 = b2 ∧ a3 = b3
        · obtain ⟨rfl, rfl, rfl⟩ := hab
          go_wp2_with fail
          go_quiet (fail)
          go_wp2_with fail
          go_roundw
          case rel => exact ⟨k + 1, by omega, by go_num, Hst.out (by first | rfl | trivial), q + nq, by simp⟩
          case measure => simp [intOf]; omega
        · have hb : (((a1.toNat : Nat) : Int) == ((b1.toNat : Nat) : Int) && ((a2.toNat : Nat) : Int) == ((b2.toNat : Nat) : Int) && ((a3.toNat : Nat) : Int) == ((b3.toNat : Nat) : Int)) = false := by
            rw [Bool.eq_false_iff]
            intro h
            simp only [Bool.and_eq_true, beq_iff_eq] at h
            exact hab ⟨UInt32.toNat_inj.1 (by omega), UInt32.toNat_inj.1 (by omega), UInt32.toNat_inj.1 (by omega)⟩
          have hD := Hd1.out fun e => hab (by injection e with e1 e2 e3; exact ⟨e1, e2, e3⟩)
          have HD := Lib.hid hD
          clear hab hD
          go_wp2_with fail
          go_quiet (fail)
          go_wp2_with fail
          go_ret
          rw [HD.out]
          exact ⟨rfl, q + nq, by simp⟩
      · obtain rfl : k = l1.length := by omega
        have hyy := Hy.out fun j hj hj2 => hall j hj hj hj2
        have HY := Lib.hid hyy
        clear hall hyy
        go_wp2_with fail
        go_ret
        rw [HY.out]
        exact ⟨rfl, q, rfl⟩
  · have hne : ((l1.length : Int) == (l2.length : Int)) = false := by simp; omega
    have hne' : ((l1.length : Int) != (l2.length : Int)) = true := by simp; omega
    go_enter Try.func23, Try.ntmps23
    go_wp2_with fail
    go_ret
    refine ⟨?_, 0, rfl⟩
    rw [decide_eq_false (fun e => hlen (by rw [e]))]; rfl
end Go.Proofs.Ythfnikdapknohaa
