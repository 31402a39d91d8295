/- Pages in plain Lean: what a page's block is; the code's test and the document's are one; what is found. No condition. -/
import Derived.Test.YtpoicbhbkabllaaCrcErr
namespace Go.Proofs.Ytpoicbhbkabllaa
set_option linter.unusedSimpArgs false
set_option linter.unusedVariables false

def zeros (n : Nat) : List UInt8 := List.replicate n 0
def headOf (file place : UInt32) (b : List UInt8) : List UInt8 := four file ++ four place ++ four (UInt32.ofNat b.length) ++ b
def bodyOf (file place : UInt32) (b : List UInt8) : List UInt8 := headOf file place b ++ zeros (112 - b.length)
def pageOf (file place : UInt32) (b : List UInt8) : List UInt8 := markOf (bodyOf file place b)
def putL (file place : UInt32) (b : List UInt8) : List UInt8 := if 112 < b.length then [] else pageOf file place b
def putE (b : List UInt8) : Int := if 112 < b.length then 4 else 0
theorem headOf_length (file place : UInt32) (b : List UInt8) : (headOf file place b).length = 12 + b.length := by simp [headOf, four_length]; omega
theorem bodyOf_length (file place : UInt32) (b : List UInt8) (h : b.length ≤ 112) : (bodyOf file place b).length = 124 := by
  simp [bodyOf, headOf_length, zeros]; omega
theorem pageOf_length (file place : UInt32) (b : List UInt8) (h : b.length ≤ 112) : (pageOf file place b).length = 128 := by
  rw [pageOf, markOf_length, bodyOf_length _ _ _ h]

/-! ### the parts of a page -/
theorem take_four (x : UInt32) (l : List UInt8) : (four x ++ l).take 4 = four x := by simp [four]
theorem drop_four (x : UInt32) (l : List UInt8) : (four x ++ l).drop 4 = l := by simp [four]
theorem four_inj {x y : UInt32} (h : four x = four y) : x = y := by
  unfold four at h
  simp only [List.cons.injEq, and_true] at h
  obtain ⟨h1, h2, h3, h4⟩ := h
  rw [← le4_four x, ← le4_four y, h1, h2, h3, h4]
theorem pageOf_eq (file place : UInt32) (b : List UInt8) : pageOf file place b = four file ++ (four place ++ (four (UInt32.ofNat b.length) ++ (b ++ (zeros (112 - b.length) ++ four (crcOf (bodyOf file place b)))))) := by
  unfold pageOf markOf
  simp only [bodyOf, headOf, List.append_assoc]
theorem page_file (file place : UInt32) (b : List UInt8) : (pageOf file place b).take 4 = four file := by rw [pageOf_eq, take_four]
theorem page_place (file place : UInt32) (b : List UInt8) : ((pageOf file place b).drop 4).take 4 = four place := by rw [pageOf_eq, drop_four, take_four]
theorem page_len (file place : UInt32) (b : List UInt8) : ((pageOf file place b).drop 8).take 4 = four (UInt32.ofNat b.length) := by
  rw [show (8 : Nat) = 4 + 4 from rfl, ← List.drop_drop, pageOf_eq, drop_four, drop_four, take_four]
theorem page_rest (file place : UInt32) (b : List UInt8) : (pageOf file place b).drop 12 = b ++ (zeros (112 - b.length) ++ four (crcOf (bodyOf file place b))) := by
  rw [show (12 : Nat) = 4 + (4 + 4) from rfl, ← List.drop_drop, ← List.drop_drop, pageOf_eq, drop_four, drop_four, drop_four]
theorem page_fits (file place : UInt32) (b : List UInt8) : fitsB (pageOf file place b) = true := fitsB_mark _

/-! ### the code's test -/
def lenAt (l : List UInt8) : Nat := min (l.getD 8 0).toNat 112
def inOf (l : List UInt8) : List UInt8 := (l.drop 12).take (lenAt l)
def getB (l : List UInt8) (file place : UInt32) : Bool := decide (l.length = 128 ∧ pageOf file place (inOf l) = l)
def getL (l : List UInt8) (file place : UInt32) : List UInt8 := if getB l file place then inOf l else []
def getE (l : List UInt8) (file place : UInt32) : Int := if l.length ≠ 128 then 3 else if getB l file place then 0 else 5
theorem inOf_le (l : List UInt8) : (inOf l).length ≤ 112 := by simp [inOf, lenAt]; omega

theorem four_getD0 (x : UInt32) (l : List UInt8) : (four x ++ l).getD 0 0 = x.toUInt8 := rfl
theorem lenAt_page (file place : UInt32) (b : List UInt8) (h : b.length ≤ 112) : lenAt (pageOf file place b) = b.length := by
  unfold lenAt
  have : (pageOf file place b).getD 8 0 = (UInt32.ofNat b.length).toUInt8 := by
    rw [pageOf_eq]; rfl
  rw [this, UInt32.toNat_toUInt8, UInt32.toNat_ofNat']
  omega
theorem inOf_page (file place : UInt32) (b : List UInt8) (h : b.length ≤ 112) : inOf (pageOf file place b) = b := by
  unfold inOf
  rw [lenAt_page _ _ _ h, page_rest]
  simp
theorem getB_page (file place f2 p2 : UInt32) (b : List UInt8) (h : b.length ≤ 112) : getB (pageOf file place b) f2 p2 = decide (f2 = file ∧ p2 = place) := by
  unfold getB
  rw [inOf_page _ _ _ h, pageOf_length _ _ _ h, decide_eq_decide]
  constructor
  · rintro ⟨_, e⟩
    have h1 := congrArg (fun l => l.take 4) e
    have h2 := congrArg (fun l => (l.drop 4).take 4) e
    simp only [page_file, page_place] at h1 h2
    exact ⟨four_inj h1, four_inj h2⟩
  · rintro ⟨rfl, rfl⟩
    exact ⟨rfl, rfl⟩
theorem getB_fits (l : List UInt8) (file place : UInt32) (h : getB l file place = true) : fitsB l = true := by
  unfold getB at h
  have := (of_decide_eq_true h).2
  rw [← this]
  exact page_fits _ _ _

/-! ### the document's test -/
def leAt (l : List UInt8) : Nat := (l.getD 8 0).toNat + 256 * (l.getD 9 0).toNat + 65536 * (l.getD 10 0).toNat + 16777216 * (l.getD 11 0).toNat
def refB (l : List UInt8) (file place : UInt32) : Prop :=
  l.length = 128 ∧ fitsB l = true ∧ l.take 4 = four file ∧ (l.drop 4).take 4 = four place ∧ leAt l ≤ 112 ∧ ∀ i, 12 + leAt l ≤ i → i < 124 → l.getD i 0 = 0
theorem four_of_le (a b c d : UInt8) (n : Nat) (h : n = a.toNat + 256 * b.toNat + 65536 * c.toNat + 16777216 * d.toNat) : four (UInt32.ofNat n) = [a, b, c, d] := by
  have ha := a.toNat_lt
  have hb := b.toNat_lt
  have hc := c.toNat_lt
  have hd := d.toNat_lt
  have hn : (UInt32.ofNat n).toNat = n := by rw [UInt32.toNat_ofNat']; omega
  have e0 : (UInt32.ofNat n).toUInt8 = a := by apply UInt8.toNat_inj.1; rw [UInt32.toNat_toUInt8, hn]; omega
  have e1 : ((UInt32.ofNat n) >>> 8).toUInt8 = b := by
    apply UInt8.toNat_inj.1
    have : ((UInt32.ofNat n) >>> 8).toUInt8.toNat = (UInt32.ofNat n).toNat / 256 % 256 := by simp [UInt32.toNat_shiftRight, Nat.shiftRight_eq_div_pow]
    rw [this, hn]; omega
  have e2 : ((UInt32.ofNat n) >>> 16).toUInt8 = c := by
    apply UInt8.toNat_inj.1
    have : ((UInt32.ofNat n) >>> 16).toUInt8.toNat = (UInt32.ofNat n).toNat / 65536 % 256 := by simp [UInt32.toNat_shiftRight, Nat.shiftRight_eq_div_pow]
    rw [this, hn]; omega
  have e3 : ((UInt32.ofNat n) >>> 24).toUInt8 = d := by
    apply UInt8.toNat_inj.1
    have : ((UInt32.ofNat n) >>> 24).toUInt8.toNat = (UInt32.ofNat n).toNat / 16777216 % 256 := by simp [UInt32.toNat_shiftRight, Nat.shiftRight_eq_div_pow]
    rw [this, hn]; omega
  unfold four
  rw [e0, e1, e2, e3]
theorem le_four (n : Nat) (hn : n < 4294967296) (l : List UInt8) (h : (l.drop 8).take 4 = four (UInt32.ofNat n)) : leAt l = n := by
  have h8 : l.getD 8 0 = (UInt32.ofNat n).toUInt8 := by
    have := congrArg (fun x => x.getD 0 0) h
    simpa [List.getD_eq_getElem?_getD, List.getElem?_take, List.getElem?_drop, four] using this
  have h9 : l.getD 9 0 = ((UInt32.ofNat n) >>> 8).toUInt8 := by
    have := congrArg (fun x => x.getD 1 0) h
    simpa [List.getD_eq_getElem?_getD, List.getElem?_take, List.getElem?_drop, four] using this
  have h10 : l.getD 10 0 = ((UInt32.ofNat n) >>> 16).toUInt8 := by
    have := congrArg (fun x => x.getD 2 0) h
    simpa [List.getD_eq_getElem?_getD, List.getElem?_take, List.getElem?_drop, four] using this
  have h11 : l.getD 11 0 = ((UInt32.ofNat n) >>> 24).toUInt8 := by
    have := congrArg (fun x => x.getD 3 0) h
    simpa [List.getD_eq_getElem?_getD, List.getElem?_take, List.getElem?_drop, four] using this
  have hn' : (UInt32.ofNat n).toNat = n := by rw [UInt32.toNat_ofNat']; omega
  unfold leAt
  rw [h8, h9, h10, h11]
  simp [UInt32.toNat_shiftRight, Nat.shiftRight_eq_div_pow, Nat.mod_eq_of_lt hn]
  omega
theorem four_leAt (l : List UInt8) (h : 12 ≤ l.length) : (l.drop 8).take 4 = four (UInt32.ofNat (leAt l)) := by
  rw [four_of_le (l.getD 8 0) (l.getD 9 0) (l.getD 10 0) (l.getD 11 0) (leAt l) rfl]
  apply List.ext_getElem?
  intro i
  have hg : ∀ k, k < l.length → l[k]? = some (l.getD k 0) := fun k hk => by simp [List.getD_eq_getElem?_getD, hk]
  rw [List.getElem?_take]
  by_cases hi : i < 4
  · rw [if_pos hi, List.getElem?_drop, hg _ (by omega)]
    rcases (show i = 0 ∨ i = 1 ∨ i = 2 ∨ i = 3 by omega) with rfl | rfl | rfl | rfl <;> rfl
  · rw [if_neg hi]
    simp; omega
/-- the two tests are one -/
theorem get_ref (l : List UInt8) (file place : UInt32) : getB l file place = true ↔ refB l file place := by
  constructor
  · intro h
    have hf := getB_fits l file place h
    unfold getB at h
    obtain ⟨hl, hp⟩ := of_decide_eq_true h
    have hle := inOf_le l
    have h4 := page_len file place (inOf l)
    rw [hp] at h4
    have hn := le_four (inOf l).length (by omega) l h4
    have h1 := page_file file place (inOf l)
    have h2 := page_place file place (inOf l)
    have h3 := page_rest file place (inOf l)
    rw [hp] at h1 h2 h3
    refine ⟨hl, hf, h1, h2, by rw [hn]; exact hle, ?_⟩
    intro i hi1 hi2
    rw [hn] at hi1
    have : l.getD i 0 = (l.drop 12).getD (i - 12) 0 := by
      simp only [List.getD_eq_getElem?_getD, List.getElem?_drop]
      rw [show 12 + (i - 12) = i by omega]
    rw [this, h3, List.getD_eq_getElem?_getD, List.getElem?_append_right (by omega), List.getElem?_append_left (by simp [zeros]; omega)]
    simp only [zeros, List.getElem?_replicate]
    split <;> rfl
  · rintro ⟨hl, hf, h1, h2, h3, h4⟩
    unfold getB
    rw [decide_eq_true]
    refine ⟨hl, ?_⟩
    have hlow : lenAt l = leAt l := by
      unfold lenAt
      have : leAt l = (l.getD 8 0).toNat + 256 * (l.getD 9 0).toNat + 65536 * (l.getD 10 0).toNat + 16777216 * (l.getD 11 0).toNat := rfl
      omega
    have hin : (inOf l).length = leAt l := by
      unfold inOf; rw [List.length_take, List.length_drop, hl, hlow]; omega
    have hb : bodyOf file place (inOf l) = l.take 124 := by
      have e1 : l.take 124 = l.take 4 ++ ((l.drop 4).take 4 ++ ((l.drop 8).take 4 ++ ((l.drop 12).take (leAt l) ++ (l.drop (12 + leAt l)).take (112 - leAt l)))) := by
        rw [show (124 : Nat) = 4 + (4 + (4 + (leAt l + (112 - leAt l)))) by omega]
        rw [List.take_add, List.take_add, List.take_add, List.take_add, List.drop_drop, List.drop_drop, List.drop_drop]
      rw [e1, h1, h2, four_leAt l (by omega)]
      unfold bodyOf headOf
      rw [hin]
      simp only [List.append_assoc]
      congr 3
      unfold inOf
      rw [hlow]
      congr 1
      apply List.ext_getElem?
      intro i
      simp only [zeros, List.getElem?_replicate, List.getElem?_take, List.getElem?_drop]
      split
      · have := h4 (12 + leAt l + i) (by omega) (by omega)
        rw [List.getD_eq_getElem?_getD, List.getElem?_eq_getElem (by omega)] at this
        rw [List.getElem?_eq_getElem (by omega)]
        simpa using this.symm
      · rfl
    unfold pageOf
    rw [hb]
    unfold fitsB at hf
    have := (of_decide_eq_true hf).2
    rwa [hl] at this
theorem ref_in (l : List UInt8) (file place : UInt32) (h : refB l file place) : inOf l = (l.drop 12).take (leAt l) := by
  obtain ⟨_, _, _, _, h3, _⟩ := h
  have hlow : lenAt l = leAt l := by
    unfold lenAt
    have : leAt l = (l.getD 8 0).toNat + 256 * (l.getD 9 0).toNat + 65536 * (l.getD 10 0).toNat + 16777216 * (l.getD 11 0).toNat := rfl
    omega
  unfold inOf; rw [hlow]
/-- a page of which one byte is turned -/
theorem getB_turned (file place f2 p2 : UInt32) (b : List UInt8) (at_ : Nat) (by_ : UInt8) (h : b.length ≤ 112) (ha : at_ < 128) (hby : by_ ≠ 0) :
    getB ((pageOf file place b).set at_ ((pageOf file place b).getD at_ 0 ^^^ by_)) f2 p2 = false := by
  have hl := pageOf_length file place b h
  have ha' : at_ < (pageOf file place b).length := by omega
  cases hg : getB ((pageOf file place b).set at_ ((pageOf file place b).getD at_ 0 ^^^ by_)) f2 p2 with
  | false => rfl
  | true =>
    exfalso
    have hf := getB_fits _ _ _ hg
    have hm : pageOf file place b = (pageOf file place b).take at_ ++ (pageOf file place b)[at_] :: (pageOf file place b).drop (at_ + 1) := by
      rw [List.getElem_cons_drop ha', List.take_append_drop]
    have hs : (pageOf file place b).set at_ ((pageOf file place b).getD at_ 0 ^^^ by_) = (pageOf file place b).take at_ ++ ((pageOf file place b)[at_] ^^^ by_) :: (pageOf file place b).drop (at_ + 1) := by
      rw [List.set_eq_take_append_cons_drop, if_pos ha']
      simp [ha']
    have := turned_byte (bodyOf file place b) _ _ _ by_ hm hby
    rw [hs, this] at hf
    cases hf
end Go.Proofs.Ytpoicbhbkabllaa
