/- The law 'ManifestSpoilt' returns true for every input, and each argument reads behind the call as it read before. No condition. -/
import Derived.Test.YtpoicbhbkabllaaZManifestSpoilt4
import Derived.Test.YtpoicbhbkabllaaRows
import Derived.WalkKit
import Derived.ProofKit
import Derived.OpenShut
import Derived.ShutString
import Derived.ChangeOld
import Derived.Below
namespace Go.Proofs.Ytpoicbhbkabllaa
set_option linter.unusedSimpArgs false
set_option linter.unusedVariables false
open Go.RowKit

theorem flat_congr {α β : Type} {f g : α → List β} : ∀ {l : List α}, (∀ x ∈ l, f x = g x) → l.flatMap f = l.flatMap g
  | [], _ => rfl
  | a :: l, h => by rw [List.flatMap_cons, List.flatMap_cons, h a (by simp), flat_congr fun x hx => h x (by simp [hx])]
/-- what a fuse is behind k deeds -/
def burn (F : Int) (k : Nat) : Int := if F < 0 then F else F - k
/-- may k deeds be done? -/
def fit (F : Int) (k : Nat) : Prop := F < 0 ∨ (k : Int) ≤ F
theorem deed_fit {d : DState} (h : fit d.fuse 1) : deedE d = 0 ∧ deedD d = { d with fuse := burn d.fuse 1 } := by
  unfold fit at h
  unfold deedE deedD burn
  rcases h with h | h
  · rw [if_neg (by omega), if_neg (by omega), if_neg (by omega), if_pos h]
    exact ⟨rfl, rfl⟩
  · rw [if_neg (by omega), if_neg (by omega), if_pos (by omega), if_neg (by omega)]
    exact ⟨rfl, rfl⟩
theorem deed_cut {d : DState} (h : d.fuse = 0) : deedE d = 6 ∧ deedD d = { d with off := true } := by
  unfold deedE deedD
  rw [if_pos h, if_pos h]
  exact ⟨rfl, rfl⟩
theorem burn_burn (F : Int) (a b : Nat) (h : fit F (a + b)) : burn (burn F a) b = burn F (a + b) := by
  unfold burn fit at *
  rcases h with h | h
  · rw [if_pos h, if_pos h, if_pos h]
  · rw [if_neg (by omega), if_neg (by omega), if_neg (by omega)]; omega
theorem fit_more {F : Int} {a b : Nat} (h : fit F (a + b)) : fit F a ∧ fit (burn F a) b := by
  unfold burn fit at *
  rcases h with h | h
  · exact ⟨.inl h, .inl (by rw [if_pos h]; exact h)⟩
  · exact ⟨.inr (by omega), .inr (by rw [if_neg (by omega)]; omega)⟩
theorem mayE_at {d : DState} {i : Int} (ho : d.off = false) (h0 : 0 ≤ i) (h1 : i < d.bl.length) : mayE d i = 0 := by
  unfold mayE
  rw [if_neg (by rw [ho]; simp), if_pos ⟨h0, h1⟩]
theorem write_fit {d : DState} {i : Nat} {b : Blk} (ho : d.off = false) (hi : i < d.bl.length) (hf : fit d.fuse 1) :
    writeE d (i : Int) b.1 = 0 ∧ writeD d (i : Int) b.1 = { d with fuse := burn d.fuse 1, wt := d.wt ++ [(i, b)] } := by
  have hm := mayE_at (d := d) (i := (i : Int)) ho (by omega) (by omega)
  obtain ⟨h1, h2⟩ := deed_fit hf
  unfold writeE writeD
  rw [if_neg (by rw [hm]; simp), if_neg (by rw [b.2]; simp), if_neg (by rw [hm]; simp), dif_pos b.2, if_neg (by rw [h1]; simp), h1, h2]
  exact ⟨rfl, rfl⟩
theorem write_cut {d : DState} {i : Nat} {b : Blk} (ho : d.off = false) (hi : i < d.bl.length) (hf : d.fuse = 0) :
    writeE d (i : Int) b.1 = 6 ∧ writeD d (i : Int) b.1 = { d with off := true } := by
  have hm := mayE_at (d := d) (i := (i : Int)) ho (by omega) (by omega)
  obtain ⟨h1, h2⟩ := deed_cut hf
  unfold writeE writeD
  rw [if_neg (by rw [hm]; simp), if_neg (by rw [b.2]; simp), if_neg (by rw [hm]; simp), dif_pos b.2, if_pos (by rw [h1]; simp), h1, h2]
  exact ⟨rfl, rfl⟩
theorem sync_fit {d : DState} (ho : d.off = false) (hf : fit d.fuse 1) : syncE d = 0 ∧ syncD d = { d with fuse := burn d.fuse 1, bl := syncBl d.wt d.bl, wt := [] } := by
  obtain ⟨h1, h2⟩ := deed_fit hf
  unfold syncE syncD
  rw [if_neg (by rw [ho]; simp), if_neg (by rw [ho]; simp), if_neg (by rw [h1]; simp), h1, h2]
  exact ⟨rfl, rfl⟩
theorem sync_cut {d : DState} (ho : d.off = false) (hf : d.fuse = 0) : syncE d = 6 ∧ syncD d = { d with off := true } := by
  obtain ⟨h1, h2⟩ := deed_cut hf
  unfold syncE syncD
  rw [if_neg (by rw [ho]; simp), if_neg (by rw [ho]; simp), if_pos (by rw [h1]; simp), h1, h2]
  exact ⟨rfl, rfl⟩

/-- the x-th block of a slot -/
def blkH (l : List UInt8) (hl : l.length = 2048) (x : Fin 16) : Blk := ⟨partH l x, partH_length hl x⟩
/-- the first k writes of a slot -/
def wts (a : Nat) (l : List UInt8) (hl : l.length = 2048) (k : Nat) : List Wt := (List.range k).map fun j => (a + j, blkH l hl (f16 j))
theorem wts_succ (a : Nat) (l : List UInt8) (hl : l.length = 2048) (k : Nat) : wts a l hl (k + 1) = wts a l hl k ++ [(a + k, blkH l hl (f16 k))] := by simp [wts, List.range_succ]
theorem wrs_fit (d : DState) (a : Nat) (l : List UInt8) (hl : l.length = 2048) (ho : d.off = false) (ha : a + 16 ≤ d.bl.length) : ∀ k, k ≤ 16 → fit d.fuse k →
    wrs d (a : Int) ((upto f16 k).map (partH l)) = ({ d with fuse := burn d.fuse k, wt := d.wt ++ wts a l hl k }, 0)
  | 0, _, _ => by
    have : burn d.fuse 0 = d.fuse := by unfold burn; split <;> omega
    simp [upto, wrs, wts, this]
  | k + 1, hk, hf => by
    obtain ⟨hf1, hf2⟩ := fit_more hf
    have ih := wrs_fit d a l hl ho ha k (by omega) hf1
    rw [upto_succ, List.map_append, List.map_singleton, wrs_snoc _ _ _ _ (by rw [ih]), ih, List.length_map, upto_length]
    have h := write_fit (d := { d with fuse := burn d.fuse k, wt := d.wt ++ wts a l hl k }) (i := a + k) (b := blkH l hl (f16 k)) ho (by show a + k < d.bl.length; omega) hf2
    have e : ((a : Int) + (k : Int)) = ((a + k : Nat) : Int) := by omega
    simp only
    rw [e, show partH l (f16 k) = (blkH l hl (f16 k)).1 from rfl, h.1, h.2, wts_succ, burn_burn _ _ _ hf, List.append_assoc]
theorem wrs_cut (d : DState) (a : Nat) (l : List UInt8) (hl : l.length = 2048) (ho : d.off = false) (ha : a + 16 ≤ d.bl.length) (k : Nat) (hk : k < 16) (hf : d.fuse = k) :
    wrs d (a : Int) (partsH l) = ({ d with fuse := 0, off := true, wt := d.wt ++ wts a l hl k }, 6) := by
  have hb : burn d.fuse k = 0 := by unfold burn; rw [hf, if_neg (by omega)]; omega
  have ih := wrs_fit d a l hl ho ha k (by omega) (.inr (by omega))
  have hw := write_cut (d := { d with fuse := burn d.fuse k, wt := d.wt ++ wts a l hl k }) (i := a + k) (b := blkH l hl (f16 k)) ho (by show a + k < d.bl.length; omega) hb
  have e : ((a : Int) + (k : Int)) = ((a + k : Nat) : Int) := by omega
  have hs : wrs d (a : Int) ((upto f16 (k + 1)).map (partH l)) = ({ d with fuse := 0, off := true, wt := d.wt ++ wts a l hl k }, 6) := by
    rw [upto_succ, List.map_append, List.map_singleton, wrs_snoc _ _ _ _ (by rw [ih]), ih, List.length_map, upto_length]
    simp only
    rw [e, show partH l (f16 k) = (blkH l hl (f16 k)).1 from rfl, hw.1, hw.2, hb]
  obtain ⟨t, ht⟩ : ∃ t, upto f16 16 = upto f16 (k + 1) ++ t := by
    refine ⟨((List.range 16).drop (k + 1)).map f16, ?_⟩
    unfold upto
    rw [← List.map_append]
    congr 1
    have h := List.take_append_drop (k + 1) (List.range 16)
    rw [List.take_range, Nat.min_eq_left (by omega)] at h
    exact h.symm
  unfold partsH
  rw [ht, List.map_append, wrs_stop _ _ _ _ (by rw [hs]; simp), hs]
theorem wslot_fit (d : DState) (a : Nat) (l : List UInt8) (hl : l.length = 2048) (ho : d.off = false) (ha : a + 16 ≤ d.bl.length) (hw : d.wt = []) (hf : fit d.fuse 17) :
    wslot d (a : Int) l = ({ d with fuse := burn d.fuse 17, bl := syncBl (wts a l hl 16) d.bl, wt := [] }, 0) := by
  obtain ⟨hf1, hf2⟩ := fit_more (a := 16) (b := 1) hf
  have h := wrs_fit d a l hl ho ha 16 (Nat.le_refl _) hf1
  unfold wslot
  rw [show partsH l = (upto f16 16).map (partH l) from rfl, h]
  have hs := sync_fit (d := { d with fuse := burn d.fuse 16, wt := d.wt ++ wts a l hl 16 }) ho hf2
  rw [if_neg (by simp), hs.1, hs.2, hw]
  simp only
  rw [burn_burn _ _ _ hf, List.nil_append]
theorem wslot_cut (d : DState) (a : Nat) (l : List UInt8) (hl : l.length = 2048) (ho : d.off = false) (ha : a + 16 ≤ d.bl.length) (hw : d.wt = []) (k : Nat) (hk : k < 17) (hf : d.fuse = k) :
    wslot d (a : Int) l = ({ d with fuse := 0, off := true, wt := wts a l hl k }, 6) := by
  unfold wslot
  by_cases h16 : k < 16
  · rw [wrs_cut d a l hl ho ha k h16 hf, if_pos (by simp), hw]
    rfl
  · obtain rfl : k = 16 := by omega
    have h := wrs_fit d a l hl ho ha 16 (Nat.le_refl _) (.inr (by omega))
    have hb : burn d.fuse 16 = 0 := by unfold burn; rw [hf, if_neg (by omega)]; omega
    rw [show partsH l = (upto f16 16).map (partH l) from rfl, h]
    have hs := sync_cut (d := { d with fuse := burn d.fuse 16, wt := d.wt ++ wts a l hl 16 }) ho hb
    rw [if_neg (by simp), hs.1, hs.2, hw, hb]
    rfl
/-- where the n-th slot lies -/
def slotA (v n : Nat) : Nat := (v + n) % 2 * 16
theorem slotI_A (v n : Nat) : slotI v n = (slotA v n : Int) := rfl
theorem slotA_le (v n : Nat) : slotA v n + 16 ≤ 32 := by unfold slotA; omega
theorem syncBl_length (wt : List Wt) (bl : List Blk) : (syncBl wt bl).length = bl.length := syncBl_len wt bl
theorem wman_fit (d : DState) (v : Nat) (l : List UInt8) (hl : l.length = 2048) (ho : d.off = false) (ha : 32 ≤ d.bl.length) (hw : d.wt = []) (hf : fit d.fuse 34) :
    wman d v l 2 = ({ d with fuse := burn d.fuse 34, bl := syncBl (wts (slotA v 1) l hl 16) (syncBl (wts (slotA v 0) l hl 16) d.bl), wt := [] }, 0) := by
  obtain ⟨hf1, hf2⟩ := fit_more (a := 17) (b := 17) hf
  have h0 := wslot_fit d (slotA v 0) l hl ho (by have := slotA_le v 0; omega) hw hf1
  have e0 : wman d v l 1 = wslot d (slotA v 0 : Int) l := wman_next d v l 0 rfl
  rw [h0] at e0
  have hlen := syncBl_length (wts (slotA v 0) l hl 16) d.bl
  have hle := slotA_le v 1
  have hbb := burn_burn d.fuse 17 17 hf
  generalize syncBl (wts (slotA v 0) l hl 16) d.bl = bl1 at *
  generalize burn d.fuse 17 = f1 at *
  have h1 := wslot_fit { d with fuse := f1, bl := bl1, wt := [] } (slotA v 1) l hl ho (by simp only; omega) rfl hf2
  have e1 := wman_next d v l 1 (by rw [e0])
  rw [e0, slotI_A] at e1
  rw [e1, h1]
  simp only
  rw [hbb]
theorem wman_cut0 (d : DState) (v : Nat) (l : List UInt8) (hl : l.length = 2048) (ho : d.off = false) (ha : 32 ≤ d.bl.length) (hw : d.wt = []) (k : Nat) (hk : k < 17) (hf : d.fuse = k) :
    wman d v l 2 = ({ d with fuse := 0, off := true, wt := wts (slotA v 0) l hl k }, 6) := by
  have h0 := wslot_cut d (slotA v 0) l hl ho (by have := slotA_le v 0; omega) hw k hk hf
  have e0 : wman d v l 1 = wslot d (slotA v 0 : Int) l := wman_next d v l 0 rfl
  rw [h0] at e0
  have := wman_stop d v l 1 1 (by rw [e0]; simp)
  rw [this, e0]
theorem wman_cut1 (d : DState) (v : Nat) (l : List UInt8) (hl : l.length = 2048) (ho : d.off = false) (ha : 32 ≤ d.bl.length) (hw : d.wt = []) (k : Nat) (hk : k < 17) (hf : d.fuse = (17 + k : Nat)) :
    wman d v l 2 = ({ d with fuse := 0, off := true, bl := syncBl (wts (slotA v 0) l hl 16) d.bl, wt := wts (slotA v 1) l hl k }, 6) := by
  have hb : burn d.fuse 17 = (k : Int) := by unfold burn; rw [hf, if_neg (by omega)]; omega
  have h0 := wslot_fit d (slotA v 0) l hl ho (by have := slotA_le v 0; omega) hw (.inr (by omega))
  have e0 : wman d v l 1 = wslot d (slotA v 0 : Int) l := wman_next d v l 0 rfl
  rw [h0] at e0
  have hlen := syncBl_length (wts (slotA v 0) l hl 16) d.bl
  have hle := slotA_le v 1
  generalize syncBl (wts (slotA v 0) l hl 16) d.bl = bl1 at *
  generalize burn d.fuse 17 = f1 at *
  have h1 := wslot_cut { d with fuse := f1, bl := bl1, wt := [] } (slotA v 1) l hl ho (by simp only; omega) rfl k hk hb
  have e1 := wman_next d v l 1 (by rw [e0])
  rw [e0, slotI_A] at e1
  rw [e1, h1]

/-! ### what the slots read as -/
/-- the n-th slot's bytes in the blocks themselves -/
def slotB (bl : List Blk) (n : Nat) : List UInt8 := (List.range 16).flatMap fun i => (bl.getD (n * 16 + i) zeroB).1
theorem slotL_bl (d : DState) (ho : d.off = false) (hw : d.wt = []) (ha : 32 ≤ d.bl.length) (n : Nat) (hn : n < 2) : slotL d n = slotB d.bl n := by
  unfold slotL slotK slotB
  refine flat_congr fun i hi => ?_
  have hi := List.mem_range.1 hi
  have hm := mayE_at (d := d) (i := ((n * 16 + i : Nat) : Int)) ho (by omega) (by omega)
  unfold readL
  rw [if_neg (by rw [hm]; simp), Int.toNat_natCast]
  unfold readB
  rw [hw]
  rfl
theorem slotB_len (bl : List Blk) (n : Nat) : (slotB bl n).length = 2048 := by
  have : ∀ k, ((List.range k).flatMap fun i => (bl.getD (n * 16 + i) zeroB).1).length = 128 * k := by
    intro k
    induction k with
    | zero => rfl
    | succ k ih => rw [List.range_succ, List.flatMap_append, List.length_append, ih, List.flatMap_cons, List.flatMap_nil, List.append_nil, (bl.getD (n * 16 + k) zeroB).2]; omega
  exact this 16
theorem getD_set_same {bl : List Blk} {i : Nat} (b : Blk) (h : i < bl.length) : (bl.set i b).getD i zeroB = b := by simp [List.getD_eq_getElem?_getD, h]
theorem getD_set_other {bl : List Blk} {i j : Nat} (b : Blk) (h : i ≠ j) : (bl.set i b).getD j zeroB = bl.getD j zeroB := by simp [List.getD_eq_getElem?_getD, List.getElem?_set, h]
theorem sync_get (a : Nat) (l : List UInt8) (hl : l.length = 2048) (bl : List Blk) (ha : a + 16 ≤ bl.length) (i : Nat) : ∀ k, k ≤ 16 → (syncBl (wts a l hl k) bl).getD i zeroB = if a ≤ i ∧ i < a + k then blkH l hl (f16 (i - a)) else bl.getD i zeroB
  | 0, _ => by rw [if_neg (by omega)]; rfl
  | k + 1, hk => by
    rw [wts_succ, syncBl_snoc]
    by_cases h : a + k = i
    · subst h
      rw [getD_set_same _ (by rw [syncBl_length]; omega), if_pos (by omega), show a + k - a = k by omega]
    · rw [getD_set_other _ h, sync_get a l hl bl ha i k (by omega)]
      by_cases h2 : a ≤ i ∧ i < a + k
      · rw [if_pos h2, if_pos (by omega)]
      · rw [if_neg h2, if_neg (by omega)]
theorem back_get (keep torn a : Nat) (l : List UInt8) (hl : l.length = 2048) (bl : List Blk) (i : Nat) (hi : i < a ∨ a + 16 ≤ i) : ∀ k, k ≤ 16 → (backBl keep torn 0 (wts a l hl k) bl).getD i zeroB = bl.getD i zeroB
  | 0, _ => rfl
  | k + 1, hk => by
    rw [wts_succ, backBl_snoc]
    unfold backStep
    have ih := back_get keep torn a l hl bl i hi k (by omega)
    split
    · rw [getD_set_other _ (by simp only; omega), ih]
    · split
      · rw [getD_set_other _ (by simp only; omega), ih]
      · exact ih
theorem parts_join (l : List UInt8) (hl : l.length = 2048) : ((List.range 16).flatMap fun i => partH l (f16 i)) = l := by
  have : ∀ k, k ≤ 16 → ((List.range k).flatMap fun i => partH l (f16 i)) = l.take (128 * k) := by
    intro k
    induction k with
    | zero => intro _; simp
    | succ k ih =>
      intro hk
      rw [List.range_succ, List.flatMap_append, ih (by omega)]
      simp only [List.flatMap_cons, List.flatMap_nil, List.append_nil]
      unfold partH
      rw [f16_val (by omega), show 128 * (k + 1) = 128 * k + 128 by omega, List.take_add]
  rw [this 16 (Nat.le_refl _), List.take_of_length_le (by omega)]
theorem slotB_sync (n : Nat) (l : List UInt8) (hl : l.length = 2048) (bl : List Blk) (ha : n * 16 + 16 ≤ bl.length) : slotB (syncBl (wts (n * 16) l hl 16) bl) n = l := by
  unfold slotB
  refine Eq.trans ?_ (parts_join l hl)
  refine flat_congr fun i hi => ?_
  have hi := List.mem_range.1 hi
  rw [sync_get (n * 16) l hl bl ha _ 16 (Nat.le_refl _), if_pos (by omega), show n * 16 + i - n * 16 = i by omega]
  rfl
theorem slotB_sync_other (n n' : Nat) (hne : n ≠ n') (l : List UInt8) (hl : l.length = 2048) (bl : List Blk) (ha : n * 16 + 16 ≤ bl.length) : slotB (syncBl (wts (n * 16) l hl 16) bl) n' = slotB bl n' := by
  unfold slotB
  refine flat_congr fun i hi => ?_
  have hi := List.mem_range.1 hi
  rw [sync_get (n * 16) l hl bl ha _ 16 (Nat.le_refl _), if_neg (by omega)]
theorem slotB_back_other (keep torn n n' k : Nat) (hne : n ≠ n') (hk : k ≤ 16) (l : List UInt8) (hl : l.length = 2048) (bl : List Blk) : slotB (backBl keep torn 0 (wts (n * 16) l hl k) bl) n' = slotB bl n' := by
  unfold slotB
  refine flat_congr fun i hi => ?_
  have hi := List.mem_range.1 hi
  rw [back_get keep torn (n * 16) l hl bl _ (by omega) k hk]
end Go.Proofs.Ytpoicbhbkabllaa

namespace Go.Proofs.Ytpoicbhbkabllaa
set_option linter.unusedSimpArgs false
set_option linter.unusedVariables false
open Go.RowKit

theorem DK.chg {B : Nat} {X P : Nat → Prop} {w w' : World} {g : Nat} {d : DState} (h : DK B X w g d) (hc : Chg P w w') (hp : ∀ q, P q → q < B ∨ X q) : DK B X w' g d := by
  obtain ⟨S, h1, h2⟩ := h
  refine ⟨S, h1.keep hc.size fun k hk => hc.block k (h1.lt k hk) (fun hx => ?_), h2⟩
  rcases hp k hx with h | h
  · have := (h2 _ hk).1; omega
  · exact (h2 _ hk).2 h
structure RSt where
  best : MMan
  found : Bool
  blank : Bool
def newer (b : List UInt8) (s : RSt) : Bool := getOk b && (!s.found || decide (s.best.ver.toNat < (getM b).ver.toNat))
def rstep (b : List UInt8) (s : RSt) : RSt := ⟨if newer b s = true then getM b else s.best, s.found || getOk b, s.blank || b.all fun x => decide (x = 0)⟩
def rst (f : Nat → List UInt8) : Nat → RSt
  | 0 => ⟨emptyM, false, false⟩
  | k + 1 => rstep (f k) (rst f k)
def rdE (s : RSt) : Int := if s.found = false ∧ s.blank = false then 5 else 0
def rdM (s : RSt) : MMan := if s.found = false ∧ s.blank = false then emptyM else s.best
/-- what Read says of a disk -/
def readDE (d : DState) : Int := if d.bl.length ≤ 32 then 1 else if d.off = true then 6 else rdE (rst (slotL d) 2)
def readDM (d : DState) : MMan := if d.bl.length ≤ 32 then emptyM else if d.off = true then emptyM else rdM (rst (slotL d) 2)
set_option maxRecDepth 100000 in
set_option maxHeartbeats 3200000 in
theorem mfread_on (w : World) (B : Nat) (X : Nat → Prop) (g : Nat) (d : DState) (h : DK B X w g d) (hw : d.wt.length ≤ 1000000) (ho : d.off = false) (hc : 32 < d.bl.length) (hmax : d.bl.length ≤ 65536) :
    Calls Try.prog 35 #[.pointer (some ⟨g, 0, none⟩)] w fun e w' => ∃ v, e = .returned (.tuple #[v, .int .i64 (rdE (rst (slotL d) 2))]) ∧ MIn w' w.heap.size v (rdM (rst (slotL d) 2)) ∧ DK B X w' g d ∧ Below w.heap.size w w' := by
  have hB := h.lt
  have Hcnt := Lib.hid (fun W (hW : DK B X W g d) => dcount_dk hW)
  obtain ⟨w0, hw0⟩ : ∃ w0, w0 = w.alloc (.cells zeroMc.toArray 56) := ⟨_, rfl⟩
  have hb0 : Below w.heap.size w w0 := by rw [hw0]; exact balloc w _
  have hres0 : BoxAt 56 w0 w.heap.size zeroMc := by rw [hw0]; exact BoxAt.new_ _ _ _
  have hz0 : w0.heap.size = w.heap.size + 1 := by rw [hw0]; simp
  obtain ⟨X', hX'⟩ : ∃ X' : Nat → Prop, X' = fun k => X k ∨ w.heap.size ≤ k := ⟨_, rfl⟩
  have hdk0 : DK B X' w0 g d := by rw [hX']; exact (h.apart fun k hk => hk : DK B (fun k => X k ∨ w.heap.size ≤ k) w g d).below_ hb0
  have Hnew : Hid (∀ q, w.heap.size ≤ q → q < B ∨ X' q) := fun q hq => .inr (by rw [hX']; exact .inr hq)
  have Hback : Hid (∀ W, DK B X' W g d → DK B X W g d) := fun W hW => by rw [hX'] at hW; exact hW.apart fun k hk => .inl (.inl hk)
  have hcount := dcount_dk hdk0
  have Hcount := Lib.hid hcount
  have Hw0 := Lib.hid hw0
  have Hb0 := Lib.hid hb0
  have Hres0 := Lib.hid hres0
  have Hdk0 := Lib.hid hdk0
  have Hw := Lib.hid hw
  have Ho := Lib.hid ho
  have hz : ∀ u ∈ zeroMc, u.oneCell' = true := encM_one emptyM _ rfl
  have Hz := Lib.hid hz
  obtain ⟨er, her⟩ : ∃ er : Int, er = rdE (rst (slotL d) 2) := ⟨_, rfl⟩
  obtain ⟨rm, hrm⟩ : ∃ rm : MMan, rm = rdM (rst (slotL d) 2) := ⟨_, rfl⟩
  rw [← her, ← hrm]
  have Her := Lib.hid her
  have Hrm := Lib.hid hrm
  have hcd : decide ((d.bl.length : Int) ≤ 32) = false := decide_eq_false (by omega)
  clear hw0 hb0 hres0 hX' hdk0 hcount hw ho hz her hrm h
  go_enter Try.func35, Try.ntmps35
  go_upto_region 1 with (first
    | (refine wpList_alloc_z rfl 56 rfl info_manz zeroMc zeroM_cells ?_))
  try simp only [Act.put, List.setIfInBounds_toArray, List.set_cons_zero, List.set_cons_succ]
  rw [← Hw0.out]
  go_wp2_with fail
  refine Hcount.out.mono ?_
  rintro _ _ ⟨rfl, rfl⟩
  have hb01 := balloc w0 (.cells zeroMc.toArray 56)
  have hbx1 := BoxAt.new_ 56 w0 zeroMc
  go_upto_region 4 with (first
    | (refine wpList_alloc_z rfl 56 rfl info_manz zeroMc zeroM_cells ?_))
  try simp only [Act.put, List.setIfInBounds_toArray, List.set_cons_zero, List.set_cons_succ]
  obtain ⟨w1, hw1⟩ : ∃ w1, w1 = w0.alloc (.cells zeroMc.toArray 56) := ⟨_, rfl⟩
  rw [← hw1] at hb01 hbx1 ⊢
  obtain ⟨gb, hgb⟩ : ∃ gb, gb = w0.heap.size := ⟨_, rfl⟩
  rw [← hgb] at hbx1 ⊢
  have hgb' : w.heap.size < gb := by omega
  have hz1 : w1.heap.size = gb + 1 := by rw [hw1, hgb]; simp
  have Hb1 := Lib.hid (bstep Hb0.out hb01)
  have Hres1 := Lib.hid (Hres0.out.blwM hb01)
  have Hdk1 := Lib.hid (Hdk0.out.below_ hb01)
  have Hbx1 := Lib.hid hbx1
  clear hw1 hb01 hbx1 hgb
  go_wp2_with fail
  go_loopw [5, 6, 15] (fun fv bv iv wr => ∃ (k : Nat) (vf : Value), k ≤ 2 ∧ iv = .int .i64 k ∧ fv = .bool (rst (slotL d) k).found ∧ bv = .bool (rst (slotL d) k).blank ∧ BoxAt 56 wr gb (encM (rst (slotL d) k).best vf) ∧
    MIn wr (gb + 1) (.agg (encM (rst (slotL d) k).best vf).toArray) (rst (slotL d) k).best ∧ BoxAt 56 wr w.heap.size zeroMc ∧ DK B X' wr g d ∧ Below w.heap.size w wr ∧ gb < wr.heap.size) (fun _ _ i _ => 2 - (intOf i).toNat)
  case atStart => exact ⟨0, .slice none 0 0, by omega, rfl, rfl, rfl, Hbx1.out, MIn.empty _ _, Hres1.out, Hdk1.out, Hb1.out, by omega⟩
  case round =>
    obtain ⟨k, vf, hk, rfl, rfl, rfl, hbx, hin, hres, hdk, hblw, hgw⟩ := hrel
    have hst : rst (slotL d) (k + 1) = rstep (slotL d k) (rst (slotL d) k) := rfl
    have Hst := Lib.hid hst
    have Bx := Lib.hid hbx
    have In := Lib.hid hin
    have Rs := Lib.hid hres
    have Dk := Lib.hid hdk
    have Bl := Lib.hid hblw
    obtain ⟨vf', hvf', hff⟩ := id hin
    have hvfe : vf = vf' := by
      have := hvf'
      simp [encM] at this
      exact this
    subst hvfe
    obtain ⟨Af, cf, hvf, _, _⟩ := hff.form
    subst hvf
    have hc0 := hbx.cell 0 _ rfl
    clear hst hbx hin hres hdk hblw hvf' hff
    by_cases hlt : k < 2
    · have hsl := slotK_len d k 16
      have hsl2 : (slotL d k).length ≤ 2048 := hsl
      have hslot := mslot_on wr B X' g d Dk.out Hw.out k hlt Ho.out (by omega)
      generalize hb : slotL d k = b at *
      generalize hs : rst (slotL d) k = s at *
      obtain ⟨best, found, blank⟩ := s
      simp only at Bx In hc0
      have Hslot := Lib.hid hslot
      clear hslot hb hs hsl
      go_wp2_with fail
      refine Hslot.out.mono ?_
      rintro _ w1 ⟨v1, rfl, how1, hdk1, hb1⟩
      have By1 := Lib.hid how1.by_
      have Bx1 := Lib.hid (Bx.out.blwM hb1)
      have In1 := Lib.hid (In.out.step hb1)
      have Rs1 := Lib.hid (Rs.out.blwM hb1)
      have Dk1 := Lib.hid hdk1
      have Bl1 := Lib.hid (Bl.out.trans (hb1.mono (by have := Bl.out.size; omega)))
      have hs1 := hb1.size
      obtain ⟨A1, c1, hv1, _, _, _⟩ := how1.form_
      subst hv1
      clear how1 hdk1 hb1 hc0 Bx In Rs Dk Bl Hslot
      cases hbl : blank with
      | true =>
        go_wp2_with fail
        refine (mget_any w1 _ b By1.out (by omega)).mono ?_
        rintro _ w2 ⟨v2, rfl, hm2, hb2⟩
        obtain ⟨mm, hmm⟩ : ∃ mm, mm = getM b := ⟨_, rfl⟩
        rw [← hmm] at hm2
        obtain ⟨vg, hvg, hgg⟩ := id hm2
        obtain ⟨Ag, cg, hvg2, _, _⟩ := hgg.form
        subst hvg2
        subst hvg
        have Hone : Hid (∀ u ∈ encM mm (.slice Ag mm.files.length cg), u.oneCell' = true) := encM_one _ _ rfl
        have Gm2 := Lib.hid hm2
        have Bx2 := Lib.hid (Bx1.out.blwM hb2)
        have In2 := Lib.hid (In1.out.step hb2)
        have Rs2 := Lib.hid (Rs1.out.blwM hb2)
        have Dk2 := Lib.hid (Dk1.out.below_ hb2)
        have Bl2 := Lib.hid (Bl1.out.trans (hb2.mono (by have := Bl1.out.size; omega)))
        have hs2 := hb2.size
        have Hmm := Lib.hid hmm
        obtain ⟨e2, he2⟩ : ∃ e2 : Int, e2 = if getOk b = true then 0 else 5 := ⟨_, rfl⟩
        rw [← he2]
        have He2 := Lib.hid he2
        clear hm2 hgg hb2 hmm he2
        go_upto_region 13 with (first
          | (refine wpList_alloc_z rfl 56 rfl info_manz zeroMc zeroM_cells ?_)
          | (refine wpList_store_newW rfl 56 (.tmp 10) (.tmp 37) rfl zeroMc (encM mm (.slice Ag mm.files.length cg)) rfl rfl info_man3 rfl Hone.out ?_
             intro w3 hbx3 hb3 hz3))
        try simp only [Act.put, List.setIfInBounds_toArray, List.set_cons_zero, List.set_cons_succ]
        have hc10 := hbx3.cell 0 _ rfl
        have hcb := (Bx2.out.blwM hb3).cell 0 _ rfl
        have Y3 := Lib.hid hbx3
        have GmX := Lib.hid ((Gm2.out.step hb3).low (show gb + 1 ≤ w1.heap.size by omega))
        have BxX := Lib.hid (Bx2.out.blwM hb3)
        have InX := Lib.hid (In2.out.step hb3)
        have RsX := Lib.hid (Rs2.out.blwM hb3)
        have DkX := Lib.hid (Dk2.out.below_ hb3)
        have BlX := Lib.hid (Bl2.out.trans (hb3.mono (by have := Bl2.out.size; omega)))
        have hs3 := hb3.size
        clear hbx3 hb3 Gm2 Bx2 In2 Rs2 Dk2 Bl2 Bx1 In1 Rs1 Dk1 Bl1 By1
        cases hok : getOk b with
        | false =>
          have he : e2 = 5 := by rw [He2.out, hok]; rfl
          have hS : rst (slotL d) (k + 1) = ⟨best, found, true⟩ := by rw [Hst.out]; simp [rstep, newer, hok, hbl]
          have HS := Lib.hid hS
          subst he
          clear hS hok
          go_wp2_with fail
          go_roundw
          case rel => exact ⟨k + 1, .slice Af best.files.length cf, by omega, by go_num, by rw [HS.out], by rw [HS.out], by rw [HS.out]; exact BxX.out, by rw [HS.out]; exact InX.out, RsX.out, DkX.out, BlX.out, by omega⟩
          case measure => simp [intOf]; omega
        | true =>
          have he : e2 = 0 := by rw [He2.out, hok]; rfl
          subst he
          cases hfo : found with
          | false =>
            have hS : rst (slotL d) (k + 1) = ⟨mm, true, true⟩ := by rw [Hst.out, Hmm.out]; simp [rstep, newer, hok, hfo, hbl]
            have HS := Lib.hid hS
            clear hS hok
            go_wp2_with (first
              | (refine wpList_load_agg rfl 56 (.tmp 10) rfl ⟨w2.heap.size, 0, none⟩ rfl (encM mm (.slice Ag mm.files.length cg)) Y3.out.cells Try.underlying56 rfl info_man3 ?_)
              | (refine wpList_store_boxW rfl 56 56 (.tmp 4) (.tmp 52) rfl gb (encM best (.slice Af best.files.length cf)) (encM mm (.slice Ag mm.files.length cg)) rfl rfl BxX.out rfl Hone.out info_man3 ?_
                 intro w4 hbx4 hch4 hz4))
            go_roundw
            case rel => exact ⟨k + 1, .slice Ag mm.files.length cg, by omega, by go_num, by rw [HS.out], by rw [HS.out], by rw [HS.out]; exact hbx4, by rw [HS.out]; exact GmX.out.chg hch4 (fun q hq => by omega), RsX.out.chg hch4 (fun e => by omega), DkX.out.chg hch4 (fun q hq => Hnew.out q (by omega)), BlX.out.trans (hch4.below (B := w.heap.size) BlX.out.size (fun q hq => by omega)), by omega⟩
            case measure => simp [intOf]; omega
          | true =>
            by_cases hv : best.ver.toNat < mm.ver.toNat
            · have hS : rst (slotL d) (k + 1) = ⟨mm, true, true⟩ := by rw [Hmm.out] at hv; rw [Hst.out, Hmm.out]; simp [rstep, newer, hok, hfo, hv, hbl]
              have HS := Lib.hid hS
              have hvd : decide ((best.ver.toNat : Int) < (mm.ver.toNat : Int)) = true := decide_eq_true (by omega)
              clear hS hok
              go_wp2_with (first
                | (refine wpList_load_agg rfl 56 (.tmp 10) rfl ⟨w2.heap.size, 0, none⟩ rfl (encM mm (.slice Ag mm.files.length cg)) Y3.out.cells Try.underlying56 rfl info_man3 ?_)
                | (refine wpList_store_boxW rfl 56 56 (.tmp 4) (.tmp 52) rfl gb (encM best (.slice Af best.files.length cf)) (encM mm (.slice Ag mm.files.length cg)) rfl rfl BxX.out rfl Hone.out info_man3 ?_
                   intro w4 hbx4 hch4 hz4))
              go_roundw
              case rel => exact ⟨k + 1, .slice Ag mm.files.length cg, by omega, by go_num, by rw [HS.out], by rw [HS.out], by rw [HS.out]; exact hbx4, by rw [HS.out]; exact GmX.out.chg hch4 (fun q hq => by omega), RsX.out.chg hch4 (fun e => by omega), DkX.out.chg hch4 (fun q hq => Hnew.out q (by omega)), BlX.out.trans (hch4.below (B := w.heap.size) BlX.out.size (fun q hq => by omega)), by omega⟩
              case measure => simp [intOf]; omega
            · have hS : rst (slotL d) (k + 1) = ⟨best, true, true⟩ := by rw [Hmm.out] at hv; rw [Hst.out]; simp [rstep, newer, hok, hfo, hv, hbl]
              have HS := Lib.hid hS
              have hvd : decide ((best.ver.toNat : Int) < (mm.ver.toNat : Int)) = false := decide_eq_false (by omega)
              clear hS hok
              go_wp2_with fail
              go_roundw
              case rel => exact ⟨k + 1, .slice Af best.files.length cf, by omega, by go_num, by rw [HS.out], by rw [HS.out], by rw [HS.out]; exact BxX.out, by rw [HS.out]; exact InX.out, RsX.out, DkX.out, BlX.out, by omega⟩
              case measure => simp [intOf]; omega
      | false =>
        go_wp2_with fail
        refine (contains_any w1 _ _ b By1.out (by omega)).mono ?_
        rintro _ _ ⟨rfl, rfl⟩
        obtain ⟨z, hz0⟩ : ∃ z, z = b.all fun x => decide (x = 0) := ⟨_, rfl⟩
        rw [← hz0]
        have Hz0 := Lib.hid hz0
        clear hz0
        go_wp2_with fail
        refine (mget_any w1 _ b By1.out (by omega)).mono ?_
        rintro _ w2 ⟨v2, rfl, hm2, hb2⟩
        obtain ⟨mm, hmm⟩ : ∃ mm, mm = getM b := ⟨_, rfl⟩
        rw [← hmm] at hm2
        obtain ⟨vg, hvg, hgg⟩ := id hm2
        obtain ⟨Ag, cg, hvg2, _, _⟩ := hgg.form
        subst hvg2
        subst hvg
        have Hone : Hid (∀ u ∈ encM mm (.slice Ag mm.files.length cg), u.oneCell' = true) := encM_one _ _ rfl
        have Gm2 := Lib.hid hm2
        have Bx2 := Lib.hid (Bx1.out.blwM hb2)
        have In2 := Lib.hid (In1.out.step hb2)
        have Rs2 := Lib.hid (Rs1.out.blwM hb2)
        have Dk2 := Lib.hid (Dk1.out.below_ hb2)
        have Bl2 := Lib.hid (Bl1.out.trans (hb2.mono (by have := Bl1.out.size; omega)))
        have hs2 := hb2.size
        have Hmm := Lib.hid hmm
        obtain ⟨e2, he2⟩ : ∃ e2 : Int, e2 = if getOk b = true then 0 else 5 := ⟨_, rfl⟩
        rw [← he2]
        have He2 := Lib.hid he2
        clear hm2 hgg hb2 hmm he2
        go_upto_region 13 with (first
          | (refine wpList_alloc_z rfl 56 rfl info_manz zeroMc zeroM_cells ?_)
          | (refine wpList_store_newW rfl 56 (.tmp 10) (.tmp 37) rfl zeroMc (encM mm (.slice Ag mm.files.length cg)) rfl rfl info_man3 rfl Hone.out ?_
             intro w3 hbx3 hb3 hz3))
        try simp only [Act.put, List.setIfInBounds_toArray, List.set_cons_zero, List.set_cons_succ]
        have hc10 := hbx3.cell 0 _ rfl
        have hcb := (Bx2.out.blwM hb3).cell 0 _ rfl
        have Y3 := Lib.hid hbx3
        have GmX := Lib.hid ((Gm2.out.step hb3).low (show gb + 1 ≤ w1.heap.size by omega))
        have BxX := Lib.hid (Bx2.out.blwM hb3)
        have InX := Lib.hid (In2.out.step hb3)
        have RsX := Lib.hid (Rs2.out.blwM hb3)
        have DkX := Lib.hid (Dk2.out.below_ hb3)
        have BlX := Lib.hid (Bl2.out.trans (hb3.mono (by have := Bl2.out.size; omega)))
        have hs3 := hb3.size
        clear hbx3 hb3 Gm2 Bx2 In2 Rs2 Dk2 Bl2 Bx1 In1 Rs1 Dk1 Bl1 By1
        cases hok : getOk b with
        | false =>
          have he : e2 = 5 := by rw [He2.out, hok]; rfl
          have hS : rst (slotL d) (k + 1) = ⟨best, found, z⟩ := by rw [Hst.out]; simp [rstep, newer, hok, hbl, ← Hz0.out]
          have HS := Lib.hid hS
          subst he
          clear hS hok
          go_wp2_with fail
          go_roundw
          case rel => exact ⟨k + 1, .slice Af best.files.length cf, by omega, by go_num, by rw [HS.out], by rw [HS.out], by rw [HS.out]; exact BxX.out, by rw [HS.out]; exact InX.out, RsX.out, DkX.out, BlX.out, by omega⟩
          case measure => simp [intOf]; omega
        | true =>
          have he : e2 = 0 := by rw [He2.out, hok]; rfl
          subst he
          cases hfo : found with
          | false =>
            have hS : rst (slotL d) (k + 1) = ⟨mm, true, z⟩ := by rw [Hst.out, Hmm.out]; simp [rstep, newer, hok, hfo, hbl, ← Hz0.out]
            have HS := Lib.hid hS
            clear hS hok
            go_wp2_with (first
              | (refine wpList_load_agg rfl 56 (.tmp 10) rfl ⟨w2.heap.size, 0, none⟩ rfl (encM mm (.slice Ag mm.files.length cg)) Y3.out.cells Try.underlying56 rfl info_man3 ?_)
              | (refine wpList_store_boxW rfl 56 56 (.tmp 4) (.tmp 52) rfl gb (encM best (.slice Af best.files.length cf)) (encM mm (.slice Ag mm.files.length cg)) rfl rfl BxX.out rfl Hone.out info_man3 ?_
                 intro w4 hbx4 hch4 hz4))
            go_roundw
            case rel => exact ⟨k + 1, .slice Ag mm.files.length cg, by omega, by go_num, by rw [HS.out], by rw [HS.out], by rw [HS.out]; exact hbx4, by rw [HS.out]; exact GmX.out.chg hch4 (fun q hq => by omega), RsX.out.chg hch4 (fun e => by omega), DkX.out.chg hch4 (fun q hq => Hnew.out q (by omega)), BlX.out.trans (hch4.below (B := w.heap.size) BlX.out.size (fun q hq => by omega)), by omega⟩
            case measure => simp [intOf]; omega
          | true =>
            by_cases hv : best.ver.toNat < mm.ver.toNat
            · have hS : rst (slotL d) (k + 1) = ⟨mm, true, z⟩ := by rw [Hmm.out] at hv; rw [Hst.out, Hmm.out]; simp [rstep, newer, hok, hfo, hv, hbl, ← Hz0.out]
              have HS := Lib.hid hS
              have hvd : decide ((best.ver.toNat : Int) < (mm.ver.toNat : Int)) = true := decide_eq_true (by omega)
              clear hS hok
              go_wp2_with (first
                | (refine wpList_load_agg rfl 56 (.tmp 10) rfl ⟨w2.heap.size, 0, none⟩ rfl (encM mm (.slice Ag mm.files.length cg)) Y3.out.cells Try.underlying56 rfl info_man3 ?_)
                | (refine wpList_store_boxW rfl 56 56 (.tmp 4) (.tmp 52) rfl gb (encM best (.slice Af best.files.length cf)) (encM mm (.slice Ag mm.files.length cg)) rfl rfl BxX.out rfl Hone.out info_man3 ?_
                   intro w4 hbx4 hch4 hz4))
              go_roundw
              case rel => exact ⟨k + 1, .slice Ag mm.files.length cg, by omega, by go_num, by rw [HS.out], by rw [HS.out], by rw [HS.out]; exact hbx4, by rw [HS.out]; exact GmX.out.chg hch4 (fun q hq => by omega), RsX.out.chg hch4 (fun e => by omega), DkX.out.chg hch4 (fun q hq => Hnew.out q (by omega)), BlX.out.trans (hch4.below (B := w.heap.size) BlX.out.size (fun q hq => by omega)), by omega⟩
              case measure => simp [intOf]; omega
            · have hS : rst (slotL d) (k + 1) = ⟨best, true, z⟩ := by rw [Hmm.out] at hv; rw [Hst.out]; simp [rstep, newer, hok, hfo, hv, hbl, ← Hz0.out]
              have HS := Lib.hid hS
              have hvd : decide ((best.ver.toNat : Int) < (mm.ver.toNat : Int)) = false := decide_eq_false (by omega)
              clear hS hok
              go_wp2_with fail
              go_roundw
              case rel => exact ⟨k + 1, .slice Af best.files.length cf, by omega, by go_num, by rw [HS.out], by rw [HS.out], by rw [HS.out]; exact BxX.out, by rw [HS.out]; exact InX.out, RsX.out, DkX.out, BlX.out, by omega⟩
              case measure => simp [intOf]; omega
    · obtain rfl : k = 2 := by omega
      generalize hs : rst (slotL d) 2 = s at *
      obtain ⟨best, found, blank⟩ := s
      simp only at Bx In hc0
      have hgo : Hid (∀ q, q = w.heap.size → q < B ∨ X' q) := fun q hq => Hnew.out q (by omega)
      cases hfo : found with
      | true =>
        have hr : er = 0 := by rw [Her.out, hfo]; rfl
        have hm : rm = best := by rw [Hrm.out, hfo]; rfl
        have Hm := Lib.hid hm
        have Hone : Hid (∀ u ∈ encM best (.slice Af best.files.length cf), u.oneCell' = true) := encM_one _ _ rfl
        subst hr
        clear hm
        go_wp2_with (first
          | (refine wpList_load_agg rfl 56 (.tmp 4) rfl ⟨gb, 0, none⟩ rfl (encM best (.slice Af best.files.length cf)) Bx.out.cells Try.underlying56 rfl info_man3 ?_)
          | (refine wpList_store_boxW rfl 56 56 (.tmp 2) (.tmp 61) rfl w.heap.size zeroMc (encM best (.slice Af best.files.length cf)) rfl rfl Rs.out rfl Hone.out info_man3 ?_
             intro we hend hche hze))
        refine bodyPost_ret (results_ct rfl _ _ w.heap.size (encM best (.slice Af best.files.length cf)) rfl (fun j v hj => (hend.cells j v hj : _)) Try.underlying56 rfl info_man3) rfl ?_
        refine ⟨_, rfl, by rw [Hm.out]; exact (In.out.chg hche (fun q hq => by omega)).low (by omega), Hback.out _ (Dk.out.chg hche hgo.out), Bl.out.trans (hche.below (B := w.heap.size) Bl.out.size (fun k hk => by omega))⟩
      | false =>
        cases hbl : blank with
        | true =>
          have hr : er = 0 := by rw [Her.out, hfo, hbl]; rfl
          have hm : rm = best := by rw [Hrm.out, hfo, hbl]; rfl
          have Hm := Lib.hid hm
          have Hone : Hid (∀ u ∈ encM best (.slice Af best.files.length cf), u.oneCell' = true) := encM_one _ _ rfl
          subst hr
          clear hm
          go_wp2_with (first
            | (refine wpList_load_agg rfl 56 (.tmp 4) rfl ⟨gb, 0, none⟩ rfl (encM best (.slice Af best.files.length cf)) Bx.out.cells Try.underlying56 rfl info_man3 ?_)
            | (refine wpList_store_boxW rfl 56 56 (.tmp 2) (.tmp 61) rfl w.heap.size zeroMc (encM best (.slice Af best.files.length cf)) rfl rfl Rs.out rfl Hone.out info_man3 ?_
               intro we hend hche hze))
          refine bodyPost_ret (results_ct rfl _ _ w.heap.size (encM best (.slice Af best.files.length cf)) rfl (fun j v hj => (hend.cells j v hj : _)) Try.underlying56 rfl info_man3) rfl ?_
          refine ⟨_, rfl, by rw [Hm.out]; exact (In.out.chg hche (fun q hq => by omega)).low (by omega), Hback.out _ (Dk.out.chg hche hgo.out), Bl.out.trans (hche.below (B := w.heap.size) Bl.out.size (fun k hk => by omega))⟩
        | false =>
          have hr : er = 5 := by rw [Her.out, hfo, hbl]; rfl
          have hm : rm = emptyM := by rw [Hrm.out, hfo, hbl]; rfl
          have Hm := Lib.hid hm
          subst hr
          clear hm
          go_wp2_with (refine wpList_store_boxW rfl 56 56 (.tmp 2) (.tmp 60) rfl w.heap.size zeroMc zeroMc rfl rfl Rs.out rfl Hz.out info_man3 ?_
                       intro we hend hche hze)
          refine bodyPost_ret (results_ct rfl _ _ w.heap.size zeroMc rfl (fun j v hj => (hend.cells j v hj : _)) Try.underlying56 rfl info_man3) rfl ?_
          refine ⟨_, rfl, by rw [Hm.out]; exact MIn.empty _ _, Hback.out _ (Dk.out.chg hche hgo.out), Bl.out.trans (hche.below (B := w.heap.size) Bl.out.size (fun k hk => by omega))⟩
set_option maxRecDepth 100000 in
set_option maxHeartbeats 1600000 in
theorem mfread_few (w : World) (B : Nat) (X : Nat → Prop) (g : Nat) (d : DState) (h : DK B X w g d) (hc : d.bl.length ≤ 32) :
    Calls Try.prog 35 #[.pointer (some ⟨g, 0, none⟩)] w fun e w' => ∃ v, e = .returned (.tuple #[v, .int .i64 1]) ∧ MIn w' w.heap.size v emptyM ∧ DK B X w' g d ∧ Below w.heap.size w w' := by
  have hB := h.lt
  obtain ⟨w0, hw0⟩ : ∃ w0, w0 = w.alloc (.cells zeroMc.toArray 56) := ⟨_, rfl⟩
  have hb0 : Below w.heap.size w w0 := by rw [hw0]; exact balloc w _
  have hres0 : BoxAt 56 w0 w.heap.size zeroMc := by rw [hw0]; exact BoxAt.new_ _ _ _
  have hz0 : w0.heap.size = w.heap.size + 1 := by rw [hw0]; simp
  obtain ⟨X', hX'⟩ : ∃ X' : Nat → Prop, X' = fun k => X k ∨ w.heap.size ≤ k := ⟨_, rfl⟩
  have hdk0 : DK B X' w0 g d := by rw [hX']; exact (h.apart fun k hk => hk : DK B (fun k => X k ∨ w.heap.size ≤ k) w g d).below_ hb0
  have Hnew : Hid (∀ q, w.heap.size ≤ q → q < B ∨ X' q) := fun q hq => .inr (by rw [hX']; exact .inr hq)
  have Hback : Hid (∀ W, DK B X' W g d → DK B X W g d) := fun W hW => by rw [hX'] at hW; exact hW.apart fun k hk => .inl (.inl hk)
  have hcount := dcount_dk hdk0
  have Hcount := Lib.hid hcount
  have Hw0 := Lib.hid hw0
  have Hb0 := Lib.hid hb0
  have Hres0 := Lib.hid hres0
  have Hdk0 := Lib.hid hdk0
  have Hz : Hid (∀ u ∈ zeroMc, u.oneCell' = true) := encM_one emptyM _ rfl
  have hcd : decide ((d.bl.length : Int) ≤ 32) = true := decide_eq_true (by omega)
  clear hw0 hb0 hres0 hX' hdk0 hcount h
  go_enter Try.func35, Try.ntmps35
  go_upto_region 1 with (first
    | (refine wpList_alloc_z rfl 56 rfl info_manz zeroMc zeroM_cells ?_))
  try simp only [Act.put, List.setIfInBounds_toArray, List.set_cons_zero, List.set_cons_succ]
  rw [← Hw0.out]
  go_wp2_with fail
  refine Hcount.out.mono ?_
  rintro _ _ ⟨rfl, rfl⟩
  go_wp2_with (refine wpList_store_boxW rfl 56 56 (.tmp 2) (.tmp 14) rfl w.heap.size zeroMc zeroMc rfl rfl Hres0.out rfl Hz.out info_man3 ?_
               intro we hend hche hze)
  refine bodyPost_ret (results_ct rfl _ _ w.heap.size zeroMc rfl (fun j v hj => (hend.cells j v hj : _)) Try.underlying56 rfl info_man3) rfl ?_
  exact ⟨_, rfl, MIn.empty _ _, Hback.out _ (Hdk0.out.chg hche (fun q hq => Hnew.out q (by omega))), Hb0.out.trans (hche.below (B := w.heap.size) Hb0.out.size (fun k hk => by omega))⟩
set_option maxRecDepth 100000 in
set_option maxHeartbeats 1600000 in
theorem mfread_nil (w : World) :
    Calls Try.prog 35 #[.pointer none] w fun e w' => ∃ v, e = .returned (.tuple #[v, .int .i64 1]) ∧ MIn w' w.heap.size v emptyM ∧ Below w.heap.size w w' := by
  obtain ⟨w0, hw0⟩ : ∃ w0, w0 = w.alloc (.cells zeroMc.toArray 56) := ⟨_, rfl⟩
  have hb0 : Below w.heap.size w w0 := by rw [hw0]; exact balloc w _
  have hres0 : BoxAt 56 w0 w.heap.size zeroMc := by rw [hw0]; exact BoxAt.new_ _ _ _
  have Hcount := Lib.hid (ncount w0)
  have Hw0 := Lib.hid hw0
  have Hb0 := Lib.hid hb0
  have Hres0 := Lib.hid hres0
  have Hz : Hid (∀ u ∈ zeroMc, u.oneCell' = true) := encM_one emptyM _ rfl
  clear hw0 hb0 hres0
  go_enter Try.func35, Try.ntmps35
  go_upto_region 1 with (first
    | (refine wpList_alloc_z rfl 56 rfl info_manz zeroMc zeroM_cells ?_))
  try simp only [Act.put, List.setIfInBounds_toArray, List.set_cons_zero, List.set_cons_succ]
  rw [← Hw0.out]
  go_wp2_with fail
  refine Hcount.out.mono ?_
  rintro _ _ ⟨rfl, rfl⟩
  go_wp2_with (refine wpList_store_boxW rfl 56 56 (.tmp 2) (.tmp 14) rfl w.heap.size zeroMc zeroMc rfl rfl Hres0.out rfl Hz.out info_man3 ?_
               intro we hend hche hze)
  refine bodyPost_ret (results_ct rfl _ _ w.heap.size zeroMc rfl (fun j v hj => (hend.cells j v hj : _)) Try.underlying56 rfl info_man3) rfl ?_
  exact ⟨_, rfl, MIn.empty _ _, Hb0.out.trans (hche.below (B := w.heap.size) Hb0.out.size (fun k hk => by omega))⟩
set_option maxRecDepth 100000 in
set_option maxHeartbeats 1600000 in
theorem mfread_off (w : World) (B : Nat) (X : Nat → Prop) (g : Nat) (d : DState) (h : DK B X w g d) (hw : d.wt.length ≤ 1000000) (ho : d.off = true) (hc : 32 < d.bl.length) (hmax : d.bl.length ≤ 65536) :
    Calls Try.prog 35 #[.pointer (some ⟨g, 0, none⟩)] w fun e w' => ∃ v, e = .returned (.tuple #[v, .int .i64 6]) ∧ MIn w' w.heap.size v emptyM ∧ DK B X w' g d ∧ Below w.heap.size w w' := by
  have hB := h.lt
  obtain ⟨w0, hw0⟩ : ∃ w0, w0 = w.alloc (.cells zeroMc.toArray 56) := ⟨_, rfl⟩
  have hb0 : Below w.heap.size w w0 := by rw [hw0]; exact balloc w _
  have hres0 : BoxAt 56 w0 w.heap.size zeroMc := by rw [hw0]; exact BoxAt.new_ _ _ _
  have hz0 : w0.heap.size = w.heap.size + 1 := by rw [hw0]; simp
  obtain ⟨X', hX'⟩ : ∃ X' : Nat → Prop, X' = fun k => X k ∨ w.heap.size ≤ k := ⟨_, rfl⟩
  have hdk0 : DK B X' w0 g d := by rw [hX']; exact (h.apart fun k hk => hk : DK B (fun k => X k ∨ w.heap.size ≤ k) w g d).below_ hb0
  have Hnew : Hid (∀ q, w.heap.size ≤ q → q < B ∨ X' q) := fun q hq => .inr (by rw [hX']; exact .inr hq)
  have Hback : Hid (∀ W, DK B X' W g d → DK B X W g d) := fun W hW => by rw [hX'] at hW; exact hW.apart fun k hk => .inl (.inl hk)
  have hcount := dcount_dk hdk0
  have Hcount := Lib.hid hcount
  have Hw0 := Lib.hid hw0
  have Hb0 := Lib.hid hb0
  have Hres0 := Lib.hid hres0
  have Hdk0 := Lib.hid hdk0
  have Hz : Hid (∀ u ∈ zeroMc, u.oneCell' = true) := encM_one emptyM _ rfl
  have hcd : decide ((d.bl.length : Int) ≤ 32) = false := decide_eq_false (by omega)
  have Hw := Lib.hid hw
  have Ho := Lib.hid ho
  clear hw0 hb0 hres0 hX' hdk0 hcount h hw ho
  go_enter Try.func35, Try.ntmps35
  go_upto_region 1 with (first
    | (refine wpList_alloc_z rfl 56 rfl info_manz zeroMc zeroM_cells ?_))
  try simp only [Act.put, List.setIfInBounds_toArray, List.set_cons_zero, List.set_cons_succ]
  rw [← Hw0.out]
  go_wp2_with fail
  refine Hcount.out.mono ?_
  rintro _ _ ⟨rfl, rfl⟩
  have hb01 := balloc w0 (.cells zeroMc.toArray 56)
  go_upto_region 4 with (first
    | (refine wpList_alloc_z rfl 56 rfl info_manz zeroMc zeroM_cells ?_))
  try simp only [Act.put, List.setIfInBounds_toArray, List.set_cons_zero, List.set_cons_succ]
  obtain ⟨w1, hw1⟩ : ∃ w1, w1 = w0.alloc (.cells zeroMc.toArray 56) := ⟨_, rfl⟩
  rw [← hw1] at hb01 ⊢
  have Hb1 := Lib.hid (bstep Hb0.out hb01)
  have Hres1 := Lib.hid (Hres0.out.blwM hb01)
  have Hdk1 := Lib.hid (Hdk0.out.below_ hb01)
  clear hw1 hb01
  go_wp2_with fail
  refine wp_loop_rounds 1 ?_
  rw [rounds_succ]
  have hslot := mslot_off w1 B X' g d Hdk1.out Hw.out 0 (by decide) Ho.out
  have Hslot := Lib.hid hslot
  clear hslot
  go_wp2_with fail
  refine Hslot.out.mono ?_
  rintro _ w2 ⟨rfl, hdk2, hb2⟩
  have Hb2 := Lib.hid (bstep Hb1.out hb2)
  have Hres2 := Lib.hid (Hres1.out.blwM hb2)
  have Hdk2 := Lib.hid hdk2
  clear hdk2 hb2
  go_wp2_with (refine wpList_store_boxW rfl 56 56 (.tmp 2) (.tmp 26) rfl w.heap.size zeroMc zeroMc rfl rfl Hres2.out rfl Hz.out info_man3 ?_
               intro we hend hche hze)
  refine bodyPost_ret (results_ct rfl _ _ w.heap.size zeroMc rfl (fun j v hj => (hend.cells j v hj : _)) Try.underlying56 rfl info_man3) rfl ?_
  exact ⟨_, rfl, MIn.empty _ _, Hback.out _ (Hdk2.out.chg hche (fun q hq => Hnew.out q (by omega))), Hb2.out.trans (hche.below (B := w.heap.size) Hb2.out.size (fun k hk => by omega))⟩
end Go.Proofs.Ytpoicbhbkabllaa

namespace Go.Proofs.Ytpoicbhbkabllaa
set_option linter.unusedSimpArgs false
set_option linter.unusedVariables false
open Go.RowKit

theorem rst_mix (f : Nat → List UInt8) (m was : MMan) (h0 : getOk (f 0) = true → getM (f 0) = m ∨ getM (f 0) = was) (h1 : getOk (f 1) = true → getM (f 1) = m ∨ getM (f 1) = was)
    (hg : getOk (f 0) = true ∨ getOk (f 1) = true ∨ (was = emptyM ∧ (((f 0).all fun x => decide (x = 0)) = true ∨ ((f 1).all fun x => decide (x = 0)) = true))) :
    rdE (rst f 2) = 0 ∧ (rdM (rst f 2) = m ∨ rdM (rst f 2) = was) := by
  have e : rst f 2 = rstep (f 1) (rstep (f 0) ⟨emptyM, false, false⟩) := rfl
  rw [e]
  cases k0 : getOk (f 0) <;> cases k1 : getOk (f 1)
  · rw [k0, k1] at hg
    obtain ⟨he, hb⟩ : was = emptyM ∧ (((f 0).all fun x => decide (x = 0)) = true ∨ ((f 1).all fun x => decide (x = 0)) = true) := by simpa using hg
    have hbl : (((f 0).all fun x => decide (x = 0)) || ((f 1).all fun x => decide (x = 0))) = true := by rcases hb with h | h <;> rw [h] <;> simp
    simp only [rstep, newer, k0, k1, Bool.false_and, Bool.false_or, Bool.or_false]
    unfold rdE rdM
    simp only [hbl]
    simp [he]
  · have := h1 k1
    simp only [rstep, newer, k0, k1, Bool.false_and, Bool.false_or, Bool.or_false, Bool.or_true, Bool.true_and, Bool.not_false, Bool.true_or]
    unfold rdE rdM
    simpa using this
  · have := h0 k0
    simp only [rstep, newer, k0, k1, Bool.false_and, Bool.false_or, Bool.or_false, Bool.or_true, Bool.true_and, Bool.not_false, Bool.true_or]
    unfold rdE rdM
    simpa using this
  · have a0 := h0 k0
    have a1 := h1 k1
    simp only [rstep, newer, k0, k1, Bool.false_and, Bool.false_or, Bool.or_false, Bool.or_true, Bool.true_and, Bool.not_false, Bool.true_or, Bool.not_true]
    unfold rdE rdM
    refine ⟨by simp, ?_⟩
    simp only [Bool.true_eq_false, false_and, if_false, if_true]
    split
    · exact a1
    · exact a0
theorem rst_two (f : Nat → List UInt8) (m : MMan) (h0 : getOk (f 0) = true → getM (f 0) = m) (h1 : getOk (f 1) = true → getM (f 1) = m) (hg : getOk (f 0) = true ∨ getOk (f 1) = true) :
    rdE (rst f 2) = 0 ∧ rdM (rst f 2) = m := by
  have h := rst_mix f m m (fun h => .inl (h0 h)) (fun h => .inl (h1 h)) (by rcases hg with h | h; exact .inl h; exact .inr (.inl h))
  exact ⟨h.1, by rcases h.2 with h | h <;> exact h⟩
theorem slotM_get (m : MMan) (hm : mayM m = true) : getOk (slotM m) = true ∧ getM (slotM m) = m := slot_get m hm _

/-! ### one byte spoilt -/
theorem flat_at (g : Nat → List UInt8) (hg : ∀ i, (g i).length = 128) : ∀ (k p : Nat), p < 128 * k → ((List.range k).flatMap g)[p]? = (g (p / 128))[p % 128]?
  | 0, p, h => by omega
  | k + 1, p, h => by
    have hl : ∀ k, ((List.range k).flatMap g).length = 128 * k := by
      intro k
      induction k with
      | zero => rfl
      | succ k ih => rw [List.range_succ, List.flatMap_append, List.length_append, ih]; simp [hg]; omega
    rw [List.range_succ, List.flatMap_append]
    by_cases hp : p < 128 * k
    · rw [List.getElem?_append_left (by rw [hl]; exact hp), flat_at g hg k p hp]
    · rw [List.getElem?_append_right (by rw [hl]; omega), hl]
      have e1 : p / 128 = k := by omega
      have e2 : p % 128 = p - 128 * k := by omega
      rw [e1, e2]
      simp
theorem slotB_at (bl : List Blk) (n p : Nat) (hp : p < 2048) : (slotB bl n)[p]? = ((bl.getD (n * 16 + p / 128) zeroB).1)[p % 128]? :=
  flat_at (fun i => (bl.getD (n * 16 + i) zeroB).1) (fun i => (bl.getD (n * 16 + i) zeroB).2) 16 p (by omega)
theorem slotB_spoilt (bl : List Blk) (n j at_ : Nat) (c : UInt8) (hj : j < 16) (ha : at_ < 128) (hb : n * 16 + 16 ≤ bl.length) :
    slotB (bl.set (n * 16 + j) (over (bl.getD (n * 16 + j) zeroB) at_ [(bl.getD (n * 16 + j) zeroB).1.getD at_ 0 ^^^ c])) n = (slotB bl n).set (128 * j + at_) ((slotB bl n).getD (128 * j + at_) 0 ^^^ c) := by
  have hq : (128 * j + at_) / 128 = j := by omega
  have hr : (128 * j + at_) % 128 = at_ := by omega
  have hgd : (slotB bl n).getD (128 * j + at_) 0 = (bl.getD (n * 16 + j) zeroB).1.getD at_ 0 := by
    rw [List.getD_eq_getElem?_getD, slotB_at _ _ _ (show 128 * j + at_ < 2048 by omega), hq, hr, ← List.getD_eq_getElem?_getD]
  rw [hgd]
  refine List.ext_getElem? fun p => ?_
  rcases Nat.lt_or_ge p 2048 with hp | hp
  · rw [slotB_at _ _ _ hp, List.getElem?_set, slotB_len, if_pos (show 128 * j + at_ < 2048 by omega), slotB_at _ _ _ hp]
    by_cases hpj : p / 128 = j
    · rw [hpj, getD_set_same _ (by omega), over_get _ _ _ (by simp; omega)]
      by_cases hpa : p % 128 = at_
      · rw [if_pos (show 128 * j + at_ = p by omega), if_pos (by simp; omega), hpa]
        simp [List.getD_eq_getElem?_getD]
      · rw [if_neg (show ¬ 128 * j + at_ = p by omega), if_neg (by simp; omega)]
    · rw [getD_set_other _ (by omega), if_neg (by omega)]
  · rw [List.getElem?_eq_none (by rw [slotB_len]; exact hp), List.getElem?_eq_none (by rw [List.length_set, slotB_len]; exact hp)]
theorem slotB_set_other (bl : List Blk) (n n' j : Nat) (b : Blk) (hne : n ≠ n') (hj : j < 16) : slotB (bl.set (n * 16 + j) b) n' = slotB bl n' := by
  unfold slotB
  refine flat_congr fun i hi => ?_
  have hi := List.mem_range.1 hi
  rw [getD_set_other _ (by omega)]

/-- both slots have l -/
theorem both_slots (d : DState) (v : Nat) (l : List UInt8) (hl : l.length = 2048) (ho : d.off = false) (ha : 32 ≤ d.bl.length) (hw : d.wt = []) (hf : fit d.fuse 34) :
    (wman d v l 2).2 = 0 ∧ (wman d v l 2).1.off = false ∧ (wman d v l 2).1.wt = [] ∧ (wman d v l 2).1.fuse = burn d.fuse 34 ∧ (wman d v l 2).1.bl.length = d.bl.length ∧ ∀ n, n < 2 → slotB (wman d v l 2).1.bl n = l := by
  rw [wman_fit d v l hl ho ha hw hf]
  refine ⟨rfl, ho, rfl, rfl, by simp only; rw [syncBl_length, syncBl_length], fun n hn => ?_⟩
  simp only
  by_cases h1 : (v + 1) % 2 = n
  · have e1 : slotA v 1 = n * 16 := by unfold slotA; omega
    rw [e1, slotB_sync n l hl _ (by rw [syncBl_length]; omega)]
  · have e1 : slotA v 1 = (1 - n) * 16 := by unfold slotA; omega
    have e0 : slotA v 0 = n * 16 := by unfold slotA; omega
    rw [e1, slotB_sync_other (1 - n) n (by omega) l hl _ (by rw [syncBl_length]; omega), e0, slotB_sync n l hl _ (by omega)]
/-- a manifest with one byte spoilt is read -/
theorem spoilt_law (d : DState) (m : MMan) (hm : mayM m = true) (ho : d.off = false) (hw : d.wt = []) (ha : 32 ≤ d.bl.length) (hs : ∀ n, n < 2 → slotB d.bl n = slotM m) (i : Nat) (at_ : Int) (c : UInt8) (hi : i < 32) :
    rdE (rst (slotL (spoilD d (i : Int) at_ c)) 2) = 0 ∧ rdM (rst (slotL (spoilD d (i : Int) at_ c)) 2) = m := by
  obtain ⟨hg1, hg2⟩ := slotM_get m hm
  by_cases he : spoilE d (i : Int) at_ = 0
  · have hat : 0 ≤ at_ ∧ at_ < 128 := by
      unfold spoilE at he
      split at he
      · omega
      · cases he
    obtain ⟨at', rfl⟩ : ∃ a : Nat, at_ = (a : Int) := ⟨at_.toNat, by omega⟩
    have ei : i = (i / 16) * 16 + i % 16 := by omega
    have e : spoilD d (i : Int) (at' : Int) c = { d with bl := d.bl.set i (over (d.bl.getD i zeroB) at' [(d.bl.getD i zeroB).1.getD at' 0 ^^^ c]) } := by
      unfold spoilD
      rw [if_neg (by rw [he]; simp), Int.toNat_natCast, Int.toNat_natCast]
    have hsl : ∀ n, n < 2 → slotL (spoilD d (i : Int) (at' : Int) c) n = slotB (d.bl.set i (over (d.bl.getD i zeroB) at' [(d.bl.getD i zeroB).1.getD at' 0 ^^^ c])) n := fun n hn => by
      rw [e]
      exact slotL_bl { d with bl := d.bl.set i (over (d.bl.getD i zeroB) at' [(d.bl.getD i zeroB).1.getD at' 0 ^^^ c]) } ho hw (by simpa using ha) n hn
    have h1 : ∀ n, n < 2 → n = i / 16 → slotL (spoilD d (i : Int) (at' : Int) c) n = (slotM m).set (128 * (i % 16) + at') ((slotM m).getD (128 * (i % 16) + at') 0 ^^^ c) := fun n hn hni => by
      rw [hsl n hn]
      have := slotB_spoilt d.bl (i / 16) (i % 16) at' c (by omega) (by omega) (by omega)
      rw [← ei] at this
      rw [hni, this, hs _ (by omega)]
    have h2 : ∀ n, n < 2 → n ≠ i / 16 → slotL (spoilD d (i : Int) (at' : Int) c) n = slotM m := fun n hn hni => by
      rw [hsl n hn]
      have := slotB_set_other d.bl (i / 16) n (i % 16) (over (d.bl.getD i zeroB) at' [(d.bl.getD i zeroB).1.getD at' 0 ^^^ c]) (fun e => hni e.symm) (by omega)
      rw [← ei] at this
      rw [this, hs n hn]
    have h3 : ∀ n, n < 2 → getOk (slotL (spoilD d (i : Int) (at' : Int) c) n) = true → getM (slotL (spoilD d (i : Int) (at' : Int) c) n) = m := fun n hn hk => by
      by_cases hni : n = i / 16
      · rw [h1 n hn hni] at hk ⊢
        exact slot_spoilt m hm _ c hk
      · rw [h2 n hn hni]; exact hg2
    refine rst_two _ m (h3 0 (by omega)) (h3 1 (by omega)) ?_
    by_cases hi0 : 0 = i / 16
    · exact .inr (by rw [h2 1 (by omega) (by omega)]; exact hg1)
    · exact .inl (by rw [h2 0 (by omega) hi0]; exact hg1)
  · have e : spoilD d (i : Int) at_ c = d := by unfold spoilD; rw [if_pos he]
    rw [e]
    have h1 : ∀ n, n < 2 → slotL d n = slotM m := fun n hn => by rw [slotL_bl d ho hw ha n hn, hs n hn]
    exact rst_two _ m (fun _ => by rw [h1 0 (by omega)]; exact hg2) (fun _ => by rw [h1 1 (by omega)]; exact hg2) (.inl (by rw [h1 0 (by omega)]; exact hg1))
end Go.Proofs.Ytpoicbhbkabllaa

namespace Go.Proofs.Ytpoicbhbkabllaa
set_option linter.unusedSimpArgs false
set_option linter.unusedVariables false
open Go.RowKit Go.Shelf
attribute [local go_sem] Oper.semAt_some

/-- Write's own boxes, its bytes' block g5, and the disk; X' holds all that is Write's own -/
structure WJ (T : TypeId) (B : Nat) (X X' : Nat → Prop) (w wr : World) (g g5 : Nat) (cm cs : List Value) (e : Value) (d : DState) : Prop where
  sub : ∀ k, X k → X' k
  x0 : X' w.heap.size
  x1 : X' (w.heap.size + 1)
  x2 : X' (w.heap.size + 1 + 1)
  x5 : X' g5
  big : w.heap.size + 2 < g5
  lt : ∀ k, X' k → k < wr.heap.size
  dk : DK B X' wr g d
  b0 : BoxAt 23 wr w.heap.size [.pointer (some ⟨g, 0, none⟩)]
  b1 : BoxAt 56 wr (w.heap.size + 1) cm
  b2 : BoxAt 24 wr (w.heap.size + 1 + 1) [e]
  b5 : BoxAt T wr g5 cs
  chg : DChg B X w wr
  base : B ≤ w.heap.size
section
variable {T : TypeId} {B : Nat} {X X' : Nat → Prop} {w wr W : World} {g g5 : Nat} {cm cs : List Value} {e : Value} {d : DState}
theorem WJ.size (h : WJ T B X X' w wr g g5 cm cs e d) : w.heap.size + 3 < wr.heap.size ∧ g5 < wr.heap.size := by
  have := h.b5.lt
  have := h.big
  omega
theorem WJ.ownk {row : Option Nat} (h : WJ T B X X' w wr g g5 cm cs e d) (hg : wr.grownBy W row) (hr : ∀ r, row = some r → w.heap.size ≤ r ∧ ∃ o : Obj, wr.heap[r]? = some o ∧ o.isCells = false) : WJ T B X X' w W g g5 cm cs e d :=
  ⟨h.sub, h.x0, h.x1, h.x2, h.x5, h.big, fun k hk => Nat.lt_of_lt_of_le (h.lt k hk) hg.size, h.dk.ownk hg fun r e => (hr r e).2, h.b0.ownk hg fun r e => (hr r e).2, h.b1.ownk hg fun r e => (hr r e).2, h.b2.ownk hg fun r e => (hr r e).2, h.b5.ownk hg fun r e => (hr r e).2,
    h.chg.past (Q := fun k => row = some k) (Chg.ofGrown hg fun k e => e) fun i hi => .inl (hr i hi).1, h.base⟩
theorem WJ.new (h : WJ T B X X' w wr g g5 cm cs e d) (o : Obj) : WJ T B X (fun k => X' k ∨ k = wr.heap.size) w (wr.alloc o) g g5 cm cs e d := by
  refine ⟨fun k hk => .inl (h.sub k hk), .inl h.x0, .inl h.x1, .inl h.x2, .inl h.x5, h.big, fun k hk => ?_, (h.dk.apart fun k hk => ?_).below_ (balloc wr o), h.b0.alloc o, h.b1.alloc o, h.b2.alloc o, h.b5.alloc o, h.chg.alloc_ o, h.base⟩
  · rw [World.size_alloc]
    rcases hk with hk | hk
    · have := h.lt k hk; omega
    · omega
  · rcases hk with hk | hk
    · exact .inl hk
    · exact .inr (by omega)
theorem WJ.below_ (h : WJ T B X X' w wr g g5 cm cs e d) (hb : Below wr.heap.size wr W) : WJ T B X X' w W g g5 cm cs e d :=
  ⟨h.sub, h.x0, h.x1, h.x2, h.x5, h.big, fun k hk => Nat.lt_of_lt_of_le (h.lt k hk) hb.size, h.dk.below_ hb, h.b0.below h.b0.lt hb, h.b1.below h.b1.lt hb, h.b2.below h.b2.lt hb, h.b5.below h.b5.lt hb, h.chg.trans (Chg.ofBelow hb), h.base⟩
theorem WJ.deed {d' : DState} (h : WJ T B X X' w wr g g5 cm cs e d) (hd : DK B X' W g d') (hc : DChg B X' wr W) : WJ T B X X' w W g g5 cm cs e d' :=
  ⟨h.sub, h.x0, h.x1, h.x2, h.x5, h.big, fun k hk => Nat.lt_of_lt_of_le (h.lt k hk) hc.size, hd, hc.box h.x0 h.b0, hc.box h.x1 h.b1, hc.box h.x2 h.b2, hc.box h.x5 h.b5,
    h.chg.trans (hc.more fun k _ hk => ⟨hk.1, fun hx => hk.2 (h.sub k hx)⟩), h.base⟩
theorem WJ.set_ (h : WJ T B X X' w wr g g5 cm cs e d) (p : Addr) (u : Value) (hx : X' p.block) (h0 : w.heap.size ≤ p.block) (h1 : p.block ≠ w.heap.size) (h2 : p.block ≠ w.heap.size + 1) (h3 : p.block ≠ w.heap.size + 1 + 1) (h4 : p.block ≠ g5) : WJ T B X X' w (wr.setCell p u) g g5 cm cs e d :=
  ⟨h.sub, h.x0, h.x1, h.x2, h.x5, h.big, fun k hk => by simpa [World.setCell] using h.lt k hk, h.dk.set_ p u (.inr hx), h.b0.other p u h1, h.b1.other p u h2, h.b2.other p u h3, h.b5.other p u h4,
    h.chg.past (Q := fun k => k = p.block) (Chg.set wr p u rfl) fun i hi => .inl (by omega), h.base⟩
theorem WJ.ret_ (h : WJ T B X X' w wr g g5 cm cs e d) (u : Value) : WJ T B X X' w (wr.setCell ⟨w.heap.size + 1 + 1, 0, none⟩ u) g g5 cm cs u d := by
  have := h.big
  exact ⟨h.sub, h.x0, h.x1, h.x2, h.x5, h.big, fun k hk => by simpa [World.setCell] using h.lt k hk, h.dk.set_ _ u (.inr h.x2), h.b0.other _ u (by show w.heap.size + 1 + 1 ≠ _; omega), h.b1.other _ u (by show w.heap.size + 1 + 1 ≠ _; omega), h.b2.put 0 u, h.b5.other _ u (by show w.heap.size + 1 + 1 ≠ _; omega),
    h.chg.past (Q := fun k => k = w.heap.size + 1 + 1) (Chg.set wr _ u rfl) fun i hi => .inl (by omega), h.base⟩
end
/-- a part of a row of 2048 bytes -/
theorem part_by {T : TypeId} {W : World} {g5 c5 : Nat} {cs : List Value} {l : List UInt8} (hl : l.length = 2048) (hc : 2048 ≤ c5) (hm : c5 ≤ maxLen) (hb : BoxAt T W g5 cs) (hcs : ∀ (j : Nat) (u : Value), (b8s l)[j]? = some u → cs[j]? = some u) (x : Fin 16) :
    By W W.heap.size (.slice (some ((⟨g5, 0, none⟩ : Addr).add (128 * x.val))) 128 128) (partH l x) := by
  have h1 : By W W.heap.size (.slice (some ⟨g5, 0, none⟩) l.length c5) l := (Fresh.by_ (B := 0) (.inr ⟨g5, c5, T, cs, rfl, by omega, hm, by omega, hb, hcs⟩))
  have hx := x.isLt
  have h2 := h1.back_ (k := 128 * x.val) (by omega)
  rw [if_neg (by omega)] at h2
  have h3 := h2.front_ (k := 128) (by simp; omega)
  obtain ⟨A, c, e, h4, h5, h6⟩ := h3
  injection e with e1 e2 e3
  subst e1
  have e4 : (List.take 128 (List.drop (128 * x.val) l)).length = 128 := partH_length hl x
  refine ⟨_, 128, ?_, ?_, by simp [maxLen], h6⟩
  · rw [show (partH l x).length = 128 from e4]; rfl
  · rw [show (partH l x).length = 128 from e4]; omega
end Go.Proofs.Ytpoicbhbkabllaa

namespace Go.Proofs.Ytpoicbhbkabllaa
set_option linter.unusedSimpArgs false
set_option linter.unusedVariables false
open Go.RowKit Go.Shelf
attribute [local go_sem] Oper.semAt_some

theorem slotI_eq (ver n : Nat) (hv : ver < 18446744073709551616) (hn : n ≤ 2) : wrap64 (wrap64 ((IntKind.u64.wrap ((ver : Int) + (n : Int))).tmod 2) * 16) = slotI ver n := by
  have h0 : (ver + n) % 18446744073709551616 % 2 = (ver + n) % 2 := by omega
  have h1 : (((ver : Int) + (n : Int)) % 18446744073709551616) = (((ver + n) % 18446744073709551616 : Nat) : Int) := by omega
  rw [wrap_u64, h1, Int.tmod_eq_emod_of_nonneg (by omega)]
  have h2 : ((((ver + n) % 18446744073709551616 : Nat) : Int) % 2) = (((ver + n) % 2 : Nat) : Int) := by omega
  rw [h2]
  have h3 : (ver + n) % 2 ≤ 1 := by omega
  generalize hr : (ver + n) % 2 = r at *
  have w1 : wrap64 (r : Int) = (r : Int) := by unfold wrap64; omega
  have w2 : wrap64 ((r : Int) * 16) = (r : Int) * 16 := by unfold wrap64; omega
  rw [w1, w2]
  unfold slotI
  rw [hr]
  omega

theorem leave_w {F : Fence} {nf : Nat} {T : TypeId} {B : Nat} {X X' : Nat → Prop} {w W : World} {g g5 : Nat} {cm cs : List Value} {e : Int} {d' : DState} {tmps : Array Value} {R : Ending → World → Prop} {Ds : List Nat}
    (hw : WJ T B X X' w W g g5 cm cs (.int .i64 e) d') (htm : tmps.getD 4 undef = .pointer (some ⟨w.heap.size + 1 + 1, 0, none⟩)) (hnd : Ds.Nodup) (hDs : ∀ D ∈ Ds, w.heap.size ≤ D ∧ W.heap[D]? = some (.deferred (some [])))
    (hR : ∀ W', DK B X W' g d' → DChg B X w W' → R (.returned (.int .i64 e)) W') :
    LeavesInM F nf Try.prog Try.f38 tmps R (Ds.map fun D => ({ target := .collected D, args := #[] } : Deferred)) .returning W :=
  leaves_all (fun W => WJ T B X X' w W g g5 cm cs (.int .i64 e) d') (fun W hW => ⟨_, results_e rfl _ _ _ _ htm (hW.b2.cell 0 _ rfl) Try.underlying24 rfl, hR W (hW.dk.weak hW.sub) hW.chg⟩) Ds W hnd (fun D hD => (hDs D hD).2)
    (fun W D hD hW hK => hW.ownk (grownBy_putObj' W D (.deferred none)) (fun r e => by cases e; exact ⟨(hDs D hD).1, _, hK, rfl⟩)) hw
theorem upto_split (k : Nat) (hk : k ≤ 16) : ∃ t, upto f16 16 = upto f16 k ++ t := by
  refine ⟨((List.range 16).drop k).map f16, ?_⟩
  unfold upto
  rw [← List.map_append]
  congr 1
  have h := List.take_append_drop k (List.range 16)
  rw [List.take_range, Nat.min_eq_left hk] at h
  exact h.symm

set_option maxRecDepth 100000 in
set_option maxHeartbeats 6400000 in
theorem mwrite_any (w : World) (B : Nat) (X : Nat → Prop) (g : Nat) (d : DState) (v : Value) (m : MMan) (hd : DK B X w g d) (hX : ∀ k, X k → k < w.heap.size) (hB : B ≤ w.heap.size) (hwt : d.wt.length ≤ 900000) (h : MAt w w.heap.size v m) (hm : mayM m = true) :
    Calls Try.prog 38 #[.pointer (some ⟨g, 0, none⟩), v] w fun e w' => e = .returned (.int .i64 (wman d m.ver.toNat (slotM m) 2).2) ∧ DK B X w' g (wman d m.ver.toNat (slotM m) 2).1 ∧ DChg B X w w' := by
  have hsl := slotM_length m hm
  obtain ⟨L, hL⟩ : ∃ L, L = slotM m := ⟨_, rfl⟩
  obtain ⟨ver, hver⟩ : ∃ ver, ver = m.ver.toNat := ⟨_, rfl⟩
  rw [← hL] at hsl
  rw [← hL, ← hver]
  obtain ⟨vf, rfl, hf⟩ := h
  obtain ⟨A, c, rfl, hc1, hc2⟩ := hf.form
  unfold maxLen at hc2
  obtain ⟨w0, hw0⟩ : ∃ w0, w0 = ((w.alloc (.cells #[.pointer (some ⟨g, 0, none⟩)] 23)).alloc (.cells (encM m (.slice A m.files.length c)).toArray 56)).alloc (.cells #[.int .i64 0] 24) := ⟨_, rfl⟩
  have hb0 : Below w.heap.size w w0 := by rw [hw0]; exact bstep (bstep (balloc w _) (balloc _ _)) (balloc _ _)
  have hx0 : BoxAt 23 w0 w.heap.size [.pointer (some ⟨g, 0, none⟩)] := by rw [hw0]; exact ((BoxAt.new_ 23 w [.pointer (some ⟨g, 0, none⟩)]).alloc _).alloc _
  have hx1 : BoxAt 56 w0 (w.heap.size + 1) (encM m (.slice A m.files.length c)) := by
    rw [hw0]
    have := (BoxAt.new_ 56 (w.alloc (.cells #[.pointer (some ⟨g, 0, none⟩)] 23)) (encM m (.slice A m.files.length c))).alloc (.cells #[.int .i64 0] 24)
    rwa [World.size_alloc] at this
  have hx2 : BoxAt 24 w0 (w.heap.size + 1 + 1) [.int .i64 0] := by
    rw [hw0]
    have := BoxAt.new_ 24 ((w.alloc (.cells #[.pointer (some ⟨g, 0, none⟩)] 23)).alloc (.cells (encM m (.slice A m.files.length c)).toArray 56)) [.int .i64 0]
    rwa [World.size_alloc, World.size_alloc] at this
  have hs0 : w0.heap.size = w.heap.size + 3 := by rw [hw0]; simp
  have Hw0 := Lib.hid hw0
  have X0 := Lib.hid hx0
  have X1 := Lib.hid hx1
  have X2 := Lib.hid hx2
  have Hb0 := Lib.hid hb0
  have Hf := Lib.hid ((hf.below hb0).more hb0.size)
  have Hm := Lib.hid hm
  have Hd := Lib.hid hd
  clear hw0 hx0 hx1 hx2 hb0 hf hm hd
  refine (callsIn_wide (n := 5)).1 ?_
  refine callsIn_of_wp_marks Try.func38 rfl trivial ?_ rfl
  simp only [Try.ntmps38, List.size_toArray, List.length_cons, List.length_nil, Nat.reduceAdd, Nat.reduceSub, Array.replicate_succ, Array.replicate_zero, List.push_toArray, List.append_toArray, List.nil_append, List.cons_append]
  gi_wp2_with (rw [← Hw0.out]; refine wpListIn_load_agg rfl 56 (.tmp 3) rfl ⟨w.heap.size + 1, 0, none⟩ rfl (encM m (.slice A m.files.length c)) X1.out.cells Try.underlying56 rfl info_man3 ?_)
  refine ⟨trivial, ?_⟩
  refine (callsIn_wide.2 (put_any w0 _ m ⟨_, rfl, Hf.out⟩ Hm.out)).mono ?_
  rintro _ w1 ⟨v1, rfl, ho1, hb1⟩
  rw [← hL] at ho1
  have hfr := ho1.fresh
  rcases hfr with ⟨_, he⟩ | ⟨g5, c5, T, cs, rfl, hq1, hq2, hq3, hq4, hq5⟩
  · rw [he] at hsl; cases hsl
  rw [hsl] at hq1
  have hb01 := bstep Hb0.out hb1
  have hw1 : WJ T B X (fun k => X k ∨ (w.heap.size ≤ k ∧ k < w1.heap.size)) w w1 g g5 (encM m (.slice A m.files.length c)) cs (.int .i64 0) d := by
    have hs1 := hb1.size
    have hs2 := hq4.lt
    refine ⟨fun k hk => .inl hk, .inr (by omega), .inr (by omega), .inr (by omega), .inr (by omega), by omega, fun k hk => ?_, (Hd.out.apart fun k hk => ?_).below_ hb01, X0.out.below X0.out.lt hb1, X1.out.below X1.out.lt hb1, X2.out.below X2.out.lt hb1, hq4, Chg.ofBelow hb01, hB⟩
    · rcases hk with hk | hk
      · have := hX k hk; omega
      · exact hk.2
    · rcases hk with hk | hk
      · exact .inl hk
      · exact .inr hk.1
  have HP := Lib.hid (fun (W : World) (hb : BoxAt T W g5 cs) (x : Fin 16) => (by have := part_by hsl hq1 hq2 hb hq5 x; rwa [Addr.add_mid, Nat.zero_add] at this : By W W.heap.size (.slice (some ⟨g5, 128 * x.val, none⟩) 128 128) (partH L x)))
  have Hw1 := Lib.hid hw1
  have Hdwt := Lib.hid (wman_wt d ver L)
  have Hnext := Lib.hid (wman_next d ver L)
  have Hstop := Lib.hid (wman_stop d ver L)
  have hv64 : ver < 18446744073709551616 := by rw [hver]; exact m.ver.toNat_lt
  clear ho1 hb1 hb01 hw1 hq3 hq4 hq5 Hb0 X0 X1 X2 Hf Hm Hd Hw0
  rw [hsl]
  have hcm : (encM m (.slice A m.files.length c))[0]? = some (.int .u64 (ver : Int)) := by rw [hver]; rfl
  generalize encM m (.slice A m.files.length c) = cm at *
  clear hL hver
  gi_wp2
  refine wpIn_loop (fun a' wr => ∃ (n : Nat) (i : Int) (Ds : List Nat) (X' : Nat → Prop), (n ≤ 2 ∧ i = (n : Int) ∧ (wman d ver L n).2 = 0 ∧ WJ T B X X' w wr g g5 cm cs (.int .i64 0) (wman d ver L n).1 ∧ Ds.Nodup ∧ ∀ D ∈ Ds, w.heap.size ≤ D ∧ wr.heap[D]? = some (.deferred (some []))) ∧ ∃ u7 u8 u9 u10 u11 u21 u22 u23 u24 u25 u26 u27 u28 u29 u30 u31 u32 u33 u34 u35 u36 u37 u38 u39 u40 u41 u42 u43 u44 u45 u46 u47 : Value, a' = { tmps := #[.pointer (some ⟨g, 0, none⟩), .agg cm.toArray, .pointer (some ⟨w.heap.size, 0, none⟩), .pointer (some ⟨w.heap.size + 1, 0, none⟩), .pointer (some ⟨w.heap.size + 1 + 1, 0, none⟩), .slice (some ⟨g5, 0, none⟩) 2048 c5, .int .i64 0, u7, u8, u9, u10, u11, .tuple #[.slice (some ⟨g5, 0, none⟩) 2048 c5, .int .i64 0], .agg cm.toArray, .tuple #[.slice (some ⟨g5, 0, none⟩) 2048 c5, .int .i64 0], .slice (some ⟨g5, 0, none⟩) 2048 c5, .int .i64 0, .int .i64 0, .bool false, undef, .int .u64 i, u21, u22, u23, u24, u25, u26, u27, u28, u29, u30, u31, u32, u33, u34, u35, u36, u37, u38, u39, u40, u41, u42, u43, u44, u45, u46, u47], defers := Ds.map fun D => ({ target := .collected D, args := #[] } : Deferred) }) (fun a' _ => (2 - intOf (a'.tmps.getD 20 undef)).toNat) ?_ ?_
  · refine ⟨0, 0, [], _, ⟨by omega, rfl, rfl, Hw1.out, List.nodup_nil, by simp⟩, ?_⟩
    (repeat apply Exists.intro)
    rfl
  clear Hw1
  rintro _ wr ⟨n, i, Ds, X', ⟨hn2, rfl, he0, hwj, hnd, hDs⟩, u7, u8, u9, u10, u11, u21, u22, u23, u24, u25, u26, u27, u28, u29, u30, u31, u32, u33, u34, u35, u36, u37, u38, u39, u40, u41, u42, u43, u44, u45, u46, u47, rfl⟩
  have Hwj := Lib.hid hwj
  have Hnd := Lib.hid hnd
  have HDs := Lib.hid hDs
  have He0 := Lib.hid he0
  clear hwj hnd hDs he0
  have hv := Hwj.out.b1.cell 0 _ hcm
  have hf2 := Hwj.out.b2.frozen 0
  have hc2 := Hwj.out.b2.cell 0 _ rfl
  by_cases hlt : n < 2
  · have hsI := slotI_eq ver n hv64 hn2
    have ha0 : 0 ≤ slotI ver n ∧ slotI ver n ≤ 16 := by unfold slotI; omega
    have HsI := Lib.hid hsI
    have Hwn := Lib.hid (Hnext.out n He0.out)
    have hdn := Hdwt.out n
    clear hsI
    dsimp only
    gi_wp2
    simp only [HsI.out]
    clear HsI
    generalize slotI ver n = a0 at *
    generalize (wman d ver L n).1 = dn at *
    generalize IntKind.u64.wrap ((ver : Int) + (n : Int)) = e26 at *
    have hwA := Hwj.out.new (.cells #[.int .i64 a0] 3)
    have hqA := BoxAt.new_ 3 wr [.int .i64 a0]
    have hsA : (wr.alloc (.cells #[.int .i64 a0] 3)).heap.size = wr.heap.size + 1 := by simp
    have hDA : ∀ D ∈ Ds, w.heap.size ≤ D ∧ (wr.alloc (.cells #[.int .i64 a0] 3)).heap[D]? = some (.deferred (some [])) := fun D hD =>
      ⟨(HDs.out D hD).1, (heap_alloc_old _ _ (Array.getElem?_eq_some_iff.1 (HDs.out D hD).2).1).trans (HDs.out D hD).2⟩
    have hsz0 := Hwj.out.size
    have HA := Lib.hid hwA
    have HqA := Lib.hid hqA
    have HDA := Lib.hid hDA
    clear hwA hqA hDA HDs Hwj hv hf2 hc2
    generalize (wr.alloc (.cells #[.int .i64 a0] 3)) = wA at *
    generalize hq : wr.heap.size = q at *
    refine ⟨trivial, ?_⟩
    refine (chunk_in Fence.wide 4 trivial rfl _ _ _ _).mono ?_
    rintro e w' ⟨rfl, rfl⟩
    have hwB := (HA.out.new (.cells #[.slice (some ⟨g5, 0, none⟩) 2048 c5] 30)).new (.cells #[.int .i64 128] 3)
    have hqB := (HqA.out.alloc (.cells #[.slice (some ⟨g5, 0, none⟩) 2048 c5] 30)).alloc (.cells #[.int .i64 128] 3)
    have hS := (BoxAt.new_ 30 wA [.slice (some ⟨g5, 0, none⟩) 2048 c5]).alloc (.cells #[.int .i64 128] 3)
    have hN := BoxAt.new_ 3 (wA.alloc (.cells #[.slice (some ⟨g5, 0, none⟩) 2048 c5] 30)) [.int .i64 128]
    rw [World.size_alloc] at hN hwB
    have hsB : ((wA.alloc (.cells #[.slice (some ⟨g5, 0, none⟩) 2048 c5] 30)).alloc (.cells #[.int .i64 128] 3)).heap.size = wA.heap.size + 2 := by simp
    have hDB : ∀ D ∈ Ds, w.heap.size ≤ D ∧ D < wA.heap.size ∧ ((wA.alloc (.cells #[.slice (some ⟨g5, 0, none⟩) 2048 c5] 30)).alloc (.cells #[.int .i64 128] 3)).heap[D]? = some (.deferred (some [])) := fun D hD => by
      have h := HDA.out D hD
      have h2 := (Array.getElem?_eq_some_iff.1 h.2).1
      exact ⟨h.1, h2, (heap_alloc_old _ _ (by simp; omega)).trans ((heap_alloc_old _ _ h2).trans h.2)⟩
    have HB := Lib.hid hwB
    have HqB := Lib.hid hqB
    have HDB := Lib.hid hDB
    have HS := Lib.hid hS
    have HN := Lib.hid hN
    clear hwB hqB hDB hS hN HA HqA HDA
    generalize ((wA.alloc (.cells #[.slice (some ⟨g5, 0, none⟩) 2048 c5] 30)).alloc (.cells #[.int .i64 128] 3)) = wB at *
    rw [hsA] at HS HN HB hsB HDB
    obtain ⟨X4, hX4⟩ : ∃ X4 : Nat → Prop, X4 = fun k => ((X' k ∨ k = q) ∨ k = q + 1) ∨ k = q + 1 + 1 := ⟨_, rfl⟩
    have hx4 : X4 q ∧ X4 (q + 1) ∧ X4 (q + 1 + 1) := by rw [hX4]; exact ⟨.inl (.inl (.inr rfl)), .inl (.inr rfl), .inr rfl⟩
    obtain ⟨hx4q, hx4a, hx4b⟩ := hx4
    rw [← hX4] at HB
    clear hX4
    gi_wp2
    refine wpIn_rangeFunc_ownG rfl (by omega) (gf := 90) (lb := #[.pointer (some ⟨q + 1, 0, none⟩), .pointer (some ⟨q + 1 + 1, 0, none⟩)]) rfl trivial (enters_of Try.func90 (by kernel_rfl) rfl)
      (chunk_stops 4 (by omega) wB (fun k => (B ≤ k ∧ ¬ X4 k) ∨ k = q) (q + 1) (q + 1 + 1) ⟨g5, 0, none⟩ c5 hq1 (by unfold maxLen at hq2; omega) HS.out HN.out (by rintro (h | h); exact h.2 hx4a; omega) (by rintro (h | h); exact h.2 hx4b; omega)) Kp.trans (fun W l o o' h1 h2 h3 h4 => Kp.putObj _ wB.heap.size W l o o' h1 h2 h3 h4) (Below.refl _ _) (fun _ => rfl)
      (fun pre W => ((wrs dn a0 (pre.map (partH L))).2 = 0 ∧ WJ T B X X4 w W g g5 cm cs (.int .i64 0) (wrs dn a0 (pre.map (partH L))).1 ∧ BoxAt 3 W q [.int .i64 (a0 + (pre.length : Int))]) ∧ ∀ D ∈ Ds, W.heap[D]? = some (.deferred (some [])))
      (fun cd pre W => (cd = .ret ∧ (wrs dn a0 (pre.map (partH L))).2 ≠ 0 ∧ WJ T B X X4 w W g g5 cm cs (.int .i64 (wrs dn a0 (pre.map (partH L))).2) (wrs dn a0 (pre.map (partH L))).1) ∧ ∀ D ∈ Ds, W.heap[D]? = some (.deferred (some [])))
      (fun s Y Z row hs hg hr => ⟨⟨hs.1.1, hs.1.2.1.ownk hg (fun r e => ⟨by have := (hr r e).1; omega, (hr r e).2⟩), hs.1.2.2.ownk hg (fun r e => (hr r e).2)⟩, fun D hD => (hg.block D (Array.getElem?_eq_some_iff.1 (hs.2 D hD)).1 (fun e => by have := (hr D e.symm).1; have := (HDB.out D hD).2.1; omega)).trans (hs.2 D hD)⟩)
      (fun cd s Y Z row hs hg hr => ⟨⟨hs.1.1, hs.1.2.1, hs.1.2.2.ownk hg (fun r e => ⟨by have := (hr r e).1; omega, (hr r e).2⟩)⟩, fun D hD => (hg.block D (Array.getElem?_eq_some_iff.1 (hs.2 D hD)).1 (fun e => by have := (hr D e.symm).1; have := (HDB.out D hD).2.1; omega)).trans (hs.2 D hD)⟩)
      ⟨⟨rfl, HB.out, by simpa using HqB.out⟩, fun D hD => (HDB.out D hD).2.2⟩
      (fun x => { tmps := #[.pointer (some ⟨g, 0, none⟩), .agg cm.toArray, .pointer (some ⟨w.heap.size, 0, none⟩), .pointer (some ⟨w.heap.size + 1, 0, none⟩), .pointer (some ⟨w.heap.size + 1 + 1, 0, none⟩), .slice (some ⟨g5, 0, none⟩) 2048 c5, .int .i64 0, .int .u64 (n : Int), .pointer (some ⟨q, 0, none⟩), .slice (some ⟨g5, 128 * x.val, none⟩) 128 128, u10, u11, .tuple #[.slice (some ⟨g5, 0, none⟩) 2048 c5, .int .i64 0], .agg cm.toArray, .tuple #[.slice (some ⟨g5, 0, none⟩) 2048 c5, .int .i64 0], .slice (some ⟨g5, 0, none⟩) 2048 c5, .int .i64 0, .int .i64 0, .bool false, undef, .int .u64 (n : Int), .bool true, .int .u64 (n : Int), .pointer (some ⟨w.heap.size + 1, 0, none⟩), .int .u64 (ver : Int), .int .u64 (n : Int), .int .u64 e26, .int .u64 (e26.tmod 2), .int .i64 (wrap64 (e26.tmod 2)), .int .i64 a0, .slice (some ⟨g5, 0, none⟩) 2048 c5, .func (.func 90) #[] #[.pointer (some ⟨q + 1, 0, none⟩), .pointer (some ⟨q + 1 + 1, 0, none⟩)], .slice (some ⟨g5, 128 * x.val, none⟩) 128 128, u33, u34, u35, u36, u37, u38, u39, u40, u41, u42, u43, u44, u45, u46, u47], defers := [] }) ?assign ?body ?done ?stop
    case assign =>
      intro l x W K hK
      gi_wp2
      exact hK
    case body =>
      rintro lq pre x W ⟨⟨i1, i2, i3⟩, i4⟩ hpl
      have hsn := wrs_snoc (pre.map (partH L)) (partH L x) dn a0 i1
      rw [List.length_map] at hsn
      have hmp : (pre ++ [x]).map (partH L) = pre.map (partH L) ++ [partH L x] := by simp
      have hpx : (pre ++ [x]).length = pre.length + 1 := by simp
      rw [← hmp] at hsn
      have hwl := wrs_wt (pre.map (partH L)) dn a0
      rw [List.length_map] at hwl
      have Hsn := Lib.hid hsn
      have Hpx := Lib.hid hpx
      have I2 := Lib.hid i2
      have I3 := Lib.hid i3
      have I4 := Lib.hid i4
      have hpv := HP.out W i2.b5 x
      have Hpv := Lib.hid hpv
      have hc0 := i2.b0.cell 0 _ rfl
      have hcq := i3.cell 0 _ rfl
      clear i1 i2 i3 i4 hpv hsn hmp hpx
      generalize hdk : (wrs dn a0 (pre.map (partH L))).1 = dk at *
      clear hdk
      generalize hk : pre.length = k at *
      clear hk
      dsimp only
      gi_wp2
      have hwr := dwrite_firm (i := a0 + (k : Int)) I2.out.dk I2.out.lt (by have := I2.out.base; have := I2.out.size; omega) (by omega) Hpv.out (fun qq e => by
        have e1 : g5 = qq := by injection e
        subst e1; exact .inr I2.out.x5)
      refine ⟨trivial, ?_⟩
      refine (CallsIn.inRound lq (callsIn_wide.2 hwr)).mono ?_
      rintro _ W3 ⟨rfl, hd3, hch3, hfm3⟩
      have hs3 := hch3.size
      have j2 := I2.out.deed hd3 hch3
      have j3 := hch3.box hx4q I3.out
      have j4 : ∀ D ∈ Ds, W3.heap[D]? = some (.deferred (some [])) := fun D hD => hfm3 D _ (I4.out D hD) rfl
      have hk3 := hfm3.from_ hs3 wB.heap.size
      have hkp3 := hch3.kp (fun k => (B ≤ k ∧ ¬ X4 k) ∨ k = q) (fun k h1 h2 => .inl ⟨h1, h2⟩)
      have J2 := Lib.hid j2
      have J3 := Lib.hid j3
      have J4 := Lib.hid j4
      have K3 := Lib.hid hk3
      have KP3 := Lib.hid hkp3
      have hf2 := j2.b2.frozen 0
      have hc2 := j2.b2.cell 0 _ rfl
      have hfq := j3.frozen 0
      have hcq3 := j3.cell 0 _ rfl
      have hszB := I2.out.size
      clear hwr hd3 hch3 hfm3 j2 j3 j4 hk3 hkp3 I2 I3 I4 Hpv hc0 hcq
      generalize writeE dk (a0 + (k : Int)) (partH L x) = we at *
      generalize writeD dk (a0 + (k : Int)) (partH L x) = wd at *
      by_cases he : we = 0
      · have he2 : (we == 0) = true := by rw [he]; rfl
        have hwk : wrap64 (a0 + (k : Int) + 1) = a0 + (k : Int) + 1 := by unfold wrap64; omega
        gi_wp2
        refine ⟨K3.out.trans ((KeepsOthers.setCell _ _ _).from _), KP3.out.trans (Kp.set _ _ _ (.inr rfl)), ⟨by rw [Hsn.out]; exact he, by rw [Hsn.out]; exact J2.out.set_ ⟨q, 0, none⟩ _ hx4q (by show w.heap.size ≤ q; omega) (by show q ≠ _; omega) (by show q ≠ _; omega) (by show q ≠ _; omega) (by show q ≠ _; omega), ?_⟩, fun D hD => ?_⟩
        · rw [Hpx.out, show a0 + ((k + 1 : Nat) : Int) = a0 + (k : Int) + 1 by omega]
          exact J3.out.put 0 _
        · refine (Below.heap_setCell _ _ _ _ (fun e => ?_)).trans (J4.out D hD)
          have h1 := J4.out D hD
          rw [e] at h1
          rw [show _ = _ from J3.out] at h1
          cases h1
      · have he2 : (we == 0) = false := by simpa using he
        gi_wp2
        refine ⟨K3.out.trans ((KeepsOthers.setCell _ _ _).from _), ⟨rfl, by rw [Hsn.out]; exact he, by rw [Hsn.out]; exact J2.out.ret_ _⟩, fun D hD => ?_⟩
        refine (Below.heap_setCell _ _ _ _ (fun e => ?_)).trans (J4.out D hD)
        have h1 := J4.out D hD
        rw [e] at h1
        rw [show _ = _ from J2.out.b2] at h1
        cases h1
    case done =>
      rintro D ys W hD rfl ⟨⟨i1, i2, i3⟩, i4⟩ hK
      have hpe : (upto f16 16).map (partH L) = partsH L := rfl
      rw [hpe] at i1 i2
      have hws : wslot dn a0 L = (syncD (wrs dn a0 (partsH L)).1, syncE (wrs dn a0 (partsH L)).1) := by unfold wslot; rw [if_neg (by simpa using i1)]
      have hwn2 := Hwn.out.trans hws
      have hwl := wrs_wt (partsH L) dn a0
      have hpl : (partsH L).length = 16 := by simp [partsH, upto]
      have hDn : D ∉ Ds := fun h => by have := (HDB.out D h).2.1; omega
      have hnd2 : (D :: Ds).Nodup := List.nodup_cons.2 ⟨hDn, Hnd.out⟩
      have hD2 : ∀ E ∈ D :: Ds, w.heap.size ≤ E ∧ W.heap[E]? = some (.deferred (some [])) := fun E hE => by
        rcases List.mem_cons.1 hE with rfl | hE
        · exact ⟨by omega, hK⟩
        · exact ⟨(HDB.out E hE).1, i4 E hE⟩
      have hszW := i2.size
      have hc0 := i2.b0.cell 0 _ rfl
      have I2 := Lib.hid i2
      have ND2 := Lib.hid hnd2
      have HD2 := Lib.hid hD2
      have HW2 := Lib.hid hwn2
      clear i1 i2 i3 i4 hpe hws hwn2 hDn hnd2 hD2 hK Hwn HB HqB HDB HS HN Hnd
      generalize (wrs dn a0 (partsH L)).1 = dk at *
      gi_wp2
      have hwr := dsync_firm I2.out.dk I2.out.lt (by have := I2.out.base; omega) (by omega)
      refine ⟨trivial, ?_⟩
      refine (callsIn_wide.2 hwr).mono ?_
      rintro _ W3 ⟨rfl, hd3, hch3, hfm3⟩
      have j2 := I2.out.deed hd3 hch3
      have j4 : ∀ E ∈ D :: Ds, w.heap.size ≤ E ∧ W3.heap[E]? = some (.deferred (some [])) := fun E hE => ⟨(HD2.out E hE).1, hfm3 E _ (HD2.out E hE).2 rfl⟩
      have hf2 := j2.b2.frozen 0
      have hc2 := j2.b2.cell 0 _ rfl
      have J2 := Lib.hid j2
      have J4 := Lib.hid j4
      clear hwr hd3 hch3 hfm3 j2 j4 HD2 I2 hc0
      generalize syncE dk = we at *
      generalize syncD dk = wd at *
      by_cases he : we = 0
      · have he2 : (we == 0) = true := by rw [he]; rfl
        have hwk : IntKind.u64.wrap ((n : Int) + 1) = (n : Int) + 1 := by rw [wrap_u64]; omega
        gi_wp2
        refine ⟨⟨n + 1, (n : Int) + 1, D :: Ds, X4, ⟨by omega, by omega, by rw [HW2.out]; exact he, by rw [HW2.out]; exact J2.out, ND2.out, J4.out⟩, ?_⟩, ?_⟩
        · (repeat apply Exists.intro)
          rfl
        · simp [intOf]
          omega
      · have he2 : (we == 0) = false := by simpa using he
        gi_wp2
        have hst := Hstop.out (n + 1) (1 - n) (by rw [HW2.out]; exact he)
        rw [show n + 1 + (1 - n) = 2 by omega, HW2.out] at hst
        have Hst := Lib.hid hst
        clear hst
        refine leave_w (Ds := D :: Ds) (J2.out.ret_ (.int .i64 we)) rfl ND2.out (fun E hE => ⟨(J4.out E hE).1, ?_⟩) fun W' hd' hc' => ?_
        · refine (Below.heap_setCell _ _ _ _ (fun e => ?_)).trans (J4.out E hE).2
          have h1 := (J4.out E hE).2
          rw [e] at h1
          rw [show _ = _ from J2.out.b2] at h1
          cases h1
        · rw [Hst.out]
          exact ⟨rfl, hd', hc'⟩
    case stop =>
      rintro D cd pre W hD ⟨k, hk, rfl⟩ ⟨⟨rfl, i1, i2⟩, i4⟩ hK
      obtain ⟨t, ht⟩ := upto_split k hk
      have hpe : partsH L = (upto f16 k).map (partH L) ++ t.map (partH L) := by unfold partsH; rw [ht, List.map_append]
      have hws : wslot dn a0 L = wrs dn a0 ((upto f16 k).map (partH L)) := by unfold wslot; rw [hpe, wrs_stop _ _ _ _ i1, if_pos i1]
      have hwn2 := Hwn.out.trans hws
      have hst := Hstop.out (n + 1) (1 - n) (by rw [hwn2]; exact i1)
      rw [show n + 1 + (1 - n) = 2 by omega, hwn2] at hst
      have hDn : D ∉ Ds := fun h => by have := (HDB.out D h).2.1; omega
      have hnd2 : (D :: Ds).Nodup := List.nodup_cons.2 ⟨hDn, Hnd.out⟩
      have hD2 : ∀ E ∈ D :: Ds, w.heap.size ≤ E ∧ W.heap[E]? = some (.deferred (some [])) := fun E hE => by
        rcases List.mem_cons.1 hE with rfl | hE
        · exact ⟨by omega, hK⟩
        · exact ⟨(HDB.out E hE).1, i4 E hE⟩
      have I2 := Lib.hid i2
      have ND2 := Lib.hid hnd2
      have HD2 := Lib.hid hD2
      have Hst := Lib.hid hst
      clear i1 i2 i4 hpe hws hwn2 hst hDn hnd2 hD2 hK
      gi_wp2
      refine leave_w (Ds := D :: Ds) I2.out rfl ND2.out HD2.out fun W' hd' hc' => ?_
      rw [Hst.out]
      exact ⟨rfl, hd', hc'⟩
  · obtain rfl : n = 2 := by omega
    dsimp only
    gi_wp2
    refine leave_w (Hwj.out.ret_ (.int .i64 0)) rfl Hnd.out (fun D hD => ⟨(HDs.out D hD).1, ?_⟩) fun W' hd' hc' => ⟨by rw [He0.out], hd', hc'⟩
    refine (Below.heap_setCell _ _ _ _ (fun e => ?_)).trans (HDs.out D hD).2
    have h1 := (HDs.out D hD).2
    rw [e] at h1
    rw [show _ = _ from Hwj.out.b2] at h1
    cases h1
end Go.Proofs.Ytpoicbhbkabllaa

namespace Go.Proofs.Ytpoicbhbkabllaa.manifestSpoilt
open Go.Proofs.Ytpoicbhbkabllaa
open Go.ChangeShapes Go.WideShapes Go.ChangeAt Go.RowKit
set_option linter.unusedVariables false
set_option linter.unusedSimpArgs false

theorem own : ownKnob Try.prog.godebug = none := by kernel_rfl
theorem laidOut : laidOutB Try.prog = true := by kernel_rfl

set_option maxRecDepth 100000 in
set_option maxHeartbeats 3200000 in
theorem walk (cs0 : List Value) (v1 v2 v3 : Value) (w : World) (h0 : InC w 56 cs0) (h1 : InC w 3 [v1]) (h2 : InC w 3 [v2]) (h3 : InC w 5 [v3]) :
    Calls Try.prog 10 #[.agg cs0.toArray, v1, v2, v3] w fun e w' => e = .returned (.bool true) ∧ Below w.heap.size w w' := by
  obtain ⟨m, vf, rfl, hf⟩ := InC.man h0
  obtain ⟨i, e1, hi⟩ := InC.i64 (S := fun _ => True) Try.underlying3 h1
  simp at e1
  subst e1
  obtain ⟨at_, e2, hat⟩ := InC.i64 (S := fun _ => True) Try.underlying3 h2
  simp at e2
  subst e2
  obtain ⟨c8, e3, _⟩ := InC.u8 (S := fun _ => True) Try.underlying5 h3
  simp at e3
  subst e3
  obtain ⟨A, c, rfl, hc1, hc2⟩ := hf.form
  unfold maxLen at hc2
  have HA := Lib.hid (fun W => awake09 W)
  obtain ⟨w0, hw0⟩ : ∃ w0, w0 = w.alloc (.cells (encM m (.slice A m.files.length c)).toArray 56) := ⟨_, rfl⟩
  have hb0 : Below w.heap.size w w0 := by rw [hw0]; exact balloc w _
  have hx0 : BoxAt 56 w0 w.heap.size (encM m (.slice A m.files.length c)) := by rw [hw0]; exact BoxAt.new_ _ _ _
  have hz0 : w0.heap.size = w.heap.size + 1 := by rw [hw0]; simp
  have Hw0 := Lib.hid hw0
  have X0 := Lib.hid hx0
  have Hb0 := Lib.hid hb0
  have Hf := Lib.hid hf
  have HM0 : Hid (∀ W, Below w.heap.size w W → MAt W W.heap.size (.agg (encM m (.slice A m.files.length c)).toArray) m) := Lib.hid fun W hW => ⟨_, rfl, (hf.below hW).more hW.size⟩
  clear hw0 hx0 hb0 hf h0 h1 h2 h3
  go_enter Try.func10, Try.ntmps10
  go_wp2_with (rw [← Hw0.out]; refine wpList_load_agg rfl 56 (.tmp 4) rfl ⟨w.heap.size, 0, none⟩ rfl (encM m (.slice A m.files.length c)) X0.out.cells Try.underlying56 rfl info_man3 ?_)
  refine (great_any w0 _ m (HM0.out w0 Hb0.out)).mono ?_
  rintro _ w1 ⟨rfl, hb1⟩
  have X1 := Lib.hid (X0.out.blwM hb1)
  have Hb1 := Lib.hid (bstep Hb0.out hb1)
  clear hb1
  cases hg : greatM m with
  | true =>
    go_wp2_with (go_at_call 30; refine (HA.out _).mono ?_; rintro e wa ⟨rfl, hba⟩)
    go_ret
    exact ⟨rfl, bstep Hb1.out hba⟩
  | false =>
    have Hg := Lib.hid hg
    clear hg
    go_wp2_with (refine wpList_load_aggG (by first | rfl | simp [Region.wanted, yielded]) 56 (.tmp 4) rfl ⟨w.heap.size, 0, none⟩ rfl (encM m (.slice A m.files.length c)) X1.out.cells Try.underlying56 rfl info_man3 ?_)
    refine (rmay_any w1 _ m (HM0.out w1 Hb1.out) Hg.out).mono ?_
    rintro _ w2 ⟨rfl, hb2⟩
    have X2 := Lib.hid (X1.out.blwM hb2)
    have Hb2 := Lib.hid (bstep Hb1.out hb2)
    clear hb2
    cases hm : mayM m with
    | false =>
      go_wp2_with (go_at_call 30; refine (HA.out _).mono ?_; rintro e wa ⟨rfl, hba⟩)
      go_ret
      exact ⟨rfl, bstep Hb2.out hba⟩
    | true =>
      have Hm := Lib.hid hm
      clear hm
      by_cases hi0 : i < 0
      · have hd : decide (i < 0) = true := decide_eq_true hi0
        go_wp2_with (go_at_call 30; refine (HA.out _).mono ?_; rintro e wa ⟨rfl, hba⟩)
        go_ret
        exact ⟨rfl, bstep Hb2.out hba⟩
      · have hd : decide (i < 0) = false := decide_eq_false hi0
        by_cases hi32 : 32 ≤ i
        · have hd2 : decide (32 ≤ i) = true := decide_eq_true hi32
          go_wp2_with (go_at_call 30; refine (HA.out _).mono ?_; rintro e wa ⟨rfl, hba⟩)
          go_ret
          exact ⟨rfl, bstep Hb2.out hba⟩
        · have hd2 : decide (32 ≤ i) = false := decide_eq_false hi32
          obtain ⟨k, rfl⟩ : ∃ k : Nat, i = (k : Int) := ⟨i.toNat, by omega⟩
          have hk32 : k < 32 := by omega
          have hboth := both_slots (newD 40) m.ver.toNat (slotM m) (slotM_length m Hm.out) rfl (by decide) rfl (.inl (by decide))
          obtain ⟨p1, p2, p3, p4, p5, p6⟩ := hboth
          have hlaw := spoilt_law _ m Hm.out p2 p3 (by rw [p5]; decide) p6 k at_ c8 hk32
          have P1 := Lib.hid p1
          have P2 := Lib.hid p2
          have P3 := Lib.hid p3
          have P5 := Lib.hid p5
          have Hlaw := Lib.hid hlaw
          clear p1 p2 p3 p4 p5 p6 hlaw
          go_wp2_with fail
          refine (dnew_dk w2 40 (by omega) (by omega)).mono ?_
          rintro _ w3 ⟨g, rfl, hd3, hb3⟩
          have X3 := Lib.hid (X2.out.blwM hb3)
          have Hb3 := Lib.hid (bstep Hb2.out hb3)
          have Hd3 := Lib.hid hd3
          have hz3 := hb3.size
          have hz2 := Hb2.out.size
          clear hb3 hd3
          go_wp2_with (refine wpList_load_aggG (by first | rfl | simp [Region.wanted, yielded]) 56 (.tmp 4) rfl ⟨w.heap.size, 0, none⟩ rfl (encM m (.slice A m.files.length c)) X3.out.cells Try.underlying56 rfl info_man3 ?_)
          refine (mwrite_any w3 w2.heap.size (fun _ => False) g (newD 40) _ m Hd3.out (fun _ h => h.elim) hz3 (by decide) (HM0.out w3 Hb3.out) Hm.out).mono ?_
          rintro _ w4 ⟨rfl, hd4, hch4⟩
          rw [P1.out]
          have hbb4 := hch4.below_ hz3
          have X4 := Lib.hid (X3.out.below (by have := X2.out.lt; omega) hbb4)
          have Hb4 := Lib.hid (Hb3.out.trans (hbb4.mono hz2))
          have Hd4 := Lib.hid hd4
          have hz4 := hch4.size
          clear hd4 hch4 hbb4 Hd3
          generalize (wman (newD 40) m.ver.toNat (slotM m) 2).1 = dW at *
          go_wp2_with fail
          refine (dspoil_dk (i := (k : Int)) (at_ := at_) (c := c8) Hd4.out (fun _ h => h.elim) (by omega)).mono ?_
          rintro _ w5 ⟨rfl, hd5, hch5⟩
          have hbb5 := hch5.below_ (by omega : w2.heap.size ≤ w4.heap.size)
          have X5 := Lib.hid (X4.out.below (by have := X2.out.lt; omega) hbb5)
          have Hb5 := Lib.hid (Hb4.out.trans (hbb5.mono hz2))
          have Hd5 := Lib.hid hd5
          have hz5 := hch5.size
          have hsw : (spoilD dW (k : Int) at_ c8).wt = [] ∧ (spoilD dW (k : Int) at_ c8).off = false ∧ (spoilD dW (k : Int) at_ c8).bl.length = 40 := by
            have h1 := P2.out
            have h2 := P3.out
            have h3 : dW.bl.length = 40 := P5.out
            unfold spoilD
            split
            · exact ⟨h2, h1, h3⟩
            · exact ⟨h2, h1, by simpa using h3⟩
          obtain ⟨s1, s2, s3⟩ := hsw
          clear hd5 hch5 hbb5 Hd4
          generalize spoilD dW (k : Int) at_ c8 = dS at *
          go_wp2_with fail
          refine (mfread_on w5 w2.heap.size (fun _ => False) g dS Hd5.out (by rw [s1]; decide) s2 (by omega) (by omega)).mono ?_
          rintro _ w6 ⟨v6, rfl, hm6, hd6, hb6⟩
          rw [Hlaw.out.1]
          rw [Hlaw.out.2] at hm6
          obtain ⟨vg, hvg, hff⟩ := id hm6
          obtain ⟨Af, cf, hvf2, -, -⟩ := hff.form
          subst hvf2
          subst hvg
          have X6 := Lib.hid (X5.out.blwM hb6)
          have Hb6 := Lib.hid (bstep Hb5.out hb6)
          have M6 := Lib.hid hm6
          have Hd6 := Lib.hid hd6
          have HoneR : Hid (∀ u ∈ encM m (.slice Af m.files.length cf), u.oneCell' = true) := encM_one _ _ rfl
          clear hm6 hff hb6 hd6 Hd5
          generalize spoilE dW (k : Int) at_ = eS at *
          go_wp2_with (first
            | (refine wpList_alloc_z rfl 56 rfl info_manz zeroMc zeroM_cells ?_)
            | (refine wpList_store_newW rfl 56 (.tmp 11) (.tmp 49) rfl zeroMc (encM m (.slice Af m.files.length cf)) rfl rfl info_man3 rfl HoneR.out ?_
               intro w7 hbx7 hb7 hz7
               have X7 := Lib.hid (X6.out.blwM hb7)
               have B7 := Lib.hid hbx7
               have Hb7 := Lib.hid (bstep Hb6.out hb7)
               have M7 := Lib.hid (M6.out.step hb7)
               have Hd7 := Lib.hid (Hd6.out.below_ hb7)
               clear hbx7 hb7)
            | (refine wpList_load_aggG (by first | rfl | simp [Region.wanted, yielded]) 56 (.tmp 11) rfl ⟨w6.heap.size, 0, none⟩ rfl (encM m (.slice Af m.files.length cf)) B7.out.cells Try.underlying56 rfl info_man3 ?_)
            | (refine wpList_load_aggG (by first | rfl | simp [Region.wanted, yielded]) 56 (.tmp 4) rfl ⟨w.heap.size, 0, none⟩ rfl (encM m (.slice A m.files.length c)) X7.out.cells Try.underlying56 rfl info_man3 ?_))
          refine (msame_any w7 _ _ m m M7.out.mat (HM0.out w7 Hb7.out) true (by simp)).mono ?_
          rintro _ w8 ⟨rfl, hb8⟩
          have Hd8 := Lib.hid (Hd7.out.below_ hb8)
          have Hb8 := Lib.hid (bstep Hb7.out hb8)
          clear hb8
          go_wp2_with fail
          refine (dwaiting_dk Hd8.out).mono ?_
          rintro _ _ ⟨rfl, rfl⟩
          rw [s1]
          go_wp2_with (go_at_call 30; refine (HA.out _).mono ?_; rintro e wa ⟨rfl, hba⟩)
          go_ret
          exact ⟨rfl, bstep Hb8.out hba⟩

set_option maxRecDepth 100000 in
theorem lifted (os : Os) (started : os.Started) (H : Type) (enc : TypeId × Value → H) :
    ReturnsInHanded {} Try.checked os 10 .any (Rows.manifestSpoiltSpec.pre6 enc Try.prog Try.f10 Rows.manifestSpoiltRow.domain false) (Rows.manifestSpoiltSpec.post enc Try.prog Try.f10 false true false false) := by
  refine returnsInHanded_of_change (C := Try.checked) own started (by kernel_rfl) Try.func10
    (ChangeSpec.witness6 (enc := enc) (C := Try.checked) false ⟨#[], #[.agg #[.int .u64 0, .int .u32 0, .slice none 0 0], .int .i64 0, .int .i64 0, .int .u8 0], []⟩ 8 (by kernel_rfl) (by kernel_rfl) (by kernel_rfl) (by kernel_rfl)) ?_
  intro W base args ds gs before hval0 hW hcnd _
  have hval : ∀ (j : Nat) t v, Try.f10.params[j]? = some t → args[j]? = some v → Value.okWide Try.prog W .any base t v := hval0
  have hW' := hW
  obtain ⟨p, q, hA0, hV, rfl, hfz, hnd⟩ := hW
  have hA : DataW.TrodAll enc Try.prog W 0 (fun _ => true) true Try.f10.params.toList args.toList ds p := hA0
  rw [Try.params10] at hA hval
  obtain ⟨v0, vs0, d0, ds0, p0, q0, hargs, rfl, rfl, h0, r0⟩ := trodAll_cons hA
  obtain ⟨v1, vs1, d1, ds1, p1, q1, rfl, rfl, rfl, h1, r1⟩ := trodAll_cons r0
  obtain ⟨v2, vs2, d2, ds2, p2, q2, rfl, rfl, rfl, h2, r2⟩ := trodAll_cons r1
  obtain ⟨v3, vs3, d3, ds3, p3, q3, rfl, rfl, rfl, h3, r3⟩ := trodAll_cons r2
  obtain ⟨rfl, rfl, rfl⟩ := trodAll_nil r3
  obtain rfl : args = #[v0, v1, v2, v3] := by cases args; simp_all
  obtain ⟨rfl, rfl⟩ := trodVars_none hV
  have k0 := h0
  have lt0 : ∀ x ∈ p0, x.block < W.heap.size := by obtain ⟨m, hm⟩ := k0; exact DataW.trod_lt m _ _ _ hm
  have i0 := InC.of h0
  obtain ⟨cs0, rfl, j0⟩ := InC.agg Try.underlying56 (hval 0 56 v0 rfl rfl) i0
  have k1 := h1
  have lt1 : ∀ x ∈ p1, x.block < W.heap.size := by obtain ⟨m, hm⟩ := k1; exact DataW.trod_lt m _ _ _ hm
  have i1 := InC.of h1
  obtain ⟨a1, rfl⟩ := okWide_int Try.underlying3 (hval 1 3 v1 rfl rfl)
  have j1 : InC W 3 [_] := i1
  have k2 := h2
  have lt2 : ∀ x ∈ p2, x.block < W.heap.size := by obtain ⟨m, hm⟩ := k2; exact DataW.trod_lt m _ _ _ hm
  have i2 := InC.of h2
  obtain ⟨a2, rfl⟩ := okWide_int Try.underlying3 (hval 2 3 v2 rfl rfl)
  have j2 : InC W 3 [_] := i2
  have k3 := h3
  have lt3 : ∀ x ∈ p3, x.block < W.heap.size := by obtain ⟨m, hm⟩ := k3; exact DataW.trod_lt m _ _ _ hm
  have i3 := InC.of h3
  obtain ⟨a3, rfl⟩ := okWide_int Try.underlying5 (hval 3 5 v3 rfl rfl)
  have j3 : InC W 5 [_] := i3
  clear hA0 hval0
  refine (walk cs0 _ _ _ W j0 j1 j2 j3).mono fun e W' ⟨he, bel⟩ => ?_
  subst he
  exact ⟨_, rfl, _, _, _, [], _, [], hW', trodAll_mk1 (shut_bool Try.underlying4 _), (trodAll_cons_mk (Below.trod laidOut (by kernel_rfl) (of_decide_eq_true (by kernel_rfl)) k0 bel lt0) (trodAll_cons_mk (Below.trod laidOut (by kernel_rfl) (of_decide_eq_true (by kernel_rfl)) k1 bel lt1) (trodAll_cons_mk (Below.trod laidOut (by kernel_rfl) (of_decide_eq_true (by kernel_rfl)) k2 bel lt2) (trodAll_cons_mk (Below.trod laidOut (by kernel_rfl) (of_decide_eq_true (by kernel_rfl)) k3 bel lt3) trodAll_mk0)))), rfl, bel.frame _, fun h => by cases h⟩

theorem over : Rows.manifestSpoiltRow.holds Try.pinned (OpenSpec.ofChange Rows.manifestSpoiltSpec) :=
  OpenClaim.holds_of_wide 10 Try.f10 rfl rfl rfl rfl rfl rfl rfl ⟨rfl, rfl, rfl, rfl, rfl⟩ rfl rfl rfl rfl rfl (by kernel_rfl) Try.func10 (by kernel_rfl)
    (of_decide_eq_true (by kernel_rfl)) (by unfold Func.isWrapper; first | (rw [if_pos (by decide +kernel)]; kernel_rfl) | (rw [if_neg (by decide +kernel)]; exact ⟨rfl, rfl⟩))
    (fun os started H enc _ => lifted os started H enc)

theorem proved : Rows.ManifestSpoiltSaid := over
#print axioms proved
end Go.Proofs.Ytpoicbhbkabllaa.manifestSpoilt
