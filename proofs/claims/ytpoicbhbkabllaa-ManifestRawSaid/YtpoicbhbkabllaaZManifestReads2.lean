/- Lemmas for the law ManifestReads: A region that draws its order, in which ONE operation (a call) changes the world, and whose end waits for all the others: the others by facts on their values, which speak of no world.; A region that draws its order, in which SOME operations change the world: what holds of the world is told by which operations have come up (J), the others by facts on their values.; Disks: On, Count, there, may, deed, Fuse, Off, Waiting, New; Structs with an array within, built; slices of one such.; append, as an operation is run.; (*disk.Disk).Write; (*disk.Disk).Sync (printed by wip/gen/dsync.py); palmerref09.Body and manifest.body: a manifest's bytes (printed by wip/gen/manw.py); palmerref09.file, palmerref09.May (printed by wip/gen/manf.py); palmerref09.May; Sets (maps to struct{}); manifest.right (printed by wip/gen/manm.py); append(b, s...): a string's bytes behind an own row.; A call within a region of the mixed law.. No condition. -/
import Derived.Test.YtpoicbhbkabllaaZManifestReads1
import Derived.Great.BuildSlice
import Derived.Deep.WholeRow
import Derived.Maps.OwnSet
import Derived.Lib.AppendStr
namespace Go.Proofs.Ytpoicbhbkabllaa
set_option linter.unusedSimpArgs false
set_option linter.unusedVariables false
open Go.RowKit

def factO (dl : List (Option Nat)) (Φ : List (Value → Prop)) (f : Nat → Value) (j : Nat) : Prop := (Φ.getD j fun _ => True) (valOf dl f j)
def PreO (dl : List (Option Nat)) (Φ : List (Value → Prop)) (f : Nat → Value) : List Edge → Prop
  | [] => True
  | e :: es => (if Region.binds .any e then factO dl Φ f e.on else True) ∧ PreO dl Φ f es
def PostO (f : Nat → Value) : List (Option Nat) → List (Value → Prop) → Prop
  | [], _ => True
  | _ :: _, [] => True
  | d :: os, ph :: phs => ph (match d with | some d => f d | none => undef) ∧ PostO f os phs
theorem preO_mk {dl : List (Option Nat)} {Φ : List (Value → Prop)} {f : Nat → Value} : ∀ (es : List Edge), (∀ e ∈ es, Region.binds .any e = true → factO dl Φ f e.on) → PreO dl Φ f es
  | [], _ => trivial
  | e :: es, h => by
    refine ⟨?_, preO_mk es fun x hx => h x (List.mem_cons_of_mem _ hx)⟩
    split
    · exact h e (List.mem_cons_self ..) ‹_›
    · trivial
theorem postO_mk {f : Nat → Value} : ∀ (os : List (Option Nat)) (phs : List (Value → Prop)),
    (∀ (i : Nat) (d : Option Nat), os[i]? = some d → (phs.getD i fun _ => True) (match d with | some d => f d | none => undef)) → PostO f os phs
  | [], _, _ => by simp [PostO]
  | _ :: _, [], _ => by simp [PostO]
  | d :: os, ph :: phs, h => ⟨h 0 d rfl, postO_mk os phs fun i d hd => by simpa using h (i + 1) d (by simpa using hd)⟩
/-- how one operation may run: all but number s read alone; number s is a call -/
def mildO (P : Program) (w' : World) (d : Option Nat) (ph : Value → Prop) (i s : Nat) (J : Bool → Value → World → Prop) : Result Next → Prop
  | .ok (.value u) w'' => i ≠ s ∧ w'' = w' ∧ ph (dstVal d u)
  | .ok (.enter f args) w'' => i = s ∧ Calls P f args w'' (fun e w3 => ∃ v, e = .returned v ∧ J true (dstVal d v) w3 ∧ ph (dstVal d v))
  | _ => False
def ObO (P : Program) (dl : List (Option Nat)) (Φ : List (Value → Prop)) (ds : List Nat) (a : Act) (s : Nat) (J : Bool → Value → World → Prop) (i : Nat) (ph : Value → Prop) (o : Oper) : Prop :=
  ∀ f b w', J b (valOf dl f s) w' → (i = s → b = false) → PreO dl Φ f o.after.toList →
    (Gd dl f o.guard → mildO P w' o.dst ph i s J ((execOp (evalF ds f a) o).run P w')) ∧ (¬ Gd dl f o.guard → ph undef ∧ i ≠ s)

section
variable {P : Program} {l : List Oper} {dl : List (Option Nat)} {Φ : List (Value → Prop)} {a : Act} {w : World} {Q : Exit → Act → World → Prop} {s : Nat} {J : Bool → Value → World → Prop}
theorem one_aux {l2 : List Oper} (hs0 : s < l.length) (hdl : l.map (·.dst) = dl) (hn : typedB l a.tmps.size = true) (ht : tailB l l2 = true) (hob : ∀ (i : Nat) (o : Oper), l[i]? = some o → ObO P dl Φ (dstsOf_ l) a s J i (Φ.getD i fun _ => True) o)
    (hQ : ∀ f w', J true (valOf dl f s) w' → PostO f dl Φ → wpList P (l ++ l2).toArray Q l2 (fills (dstsOf_ l) f a) w') :
    ∀ (fuel : Nat) (listed : Array Bool) (rem : List Nat), rem.length = fuel → listed.size = (l ++ l2).length → rem.Nodup → (∀ i, i ∈ rem ↔ i < l.length ∧ listed.getD i true = false) →
      (∀ i, l.length ≤ i → i < (l ++ l2).length → listed.getD i false = false) → Closed (l ++ l2) listed →
      ∀ f w', J (listed.getD s false) (valOf dl f s) w' → (∀ i, i < l.length → listed.getD i false = true → factO dl Φ f i) →
      wpAny P .any (l ++ l2).toArray Q (fuel + l2.length) listed (fills (dstsOf_ l) f a) w' := by
  simp only [typedB, Bool.and_eq_true] at hn
  obtain ⟨⟨⟨hnd, hlt⟩, hed⟩, _⟩ := hn
  have hdlg : ∀ i : Nat, dl[i]? = (l[i]?).map (fun (o : Oper) => o.dst) := fun i => by rw [← hdl]; simp
  have hnd := of_decide_eq_true hnd
  have hlt : ∀ d ∈ dstsOf_ l, d < a.tmps.size := fun d hd => of_decide_eq_true (List.all_eq_true.1 hlt d hd)
  have hed : ∀ (i : Nat) (o : Oper), l[i]? = some o → ∀ e ∈ o.after, Region.binds .any e = true → e.on < i := by
    intro i o ho e he hb
    have h1 := List.all_eq_true.1 hed (o, i) (by
      rw [List.mem_zipIdx_iff_getElem?]; exact ho)
    have h2 := (Array.all_eq_true_iff_forall_mem.1 h1) e he
    simpa [hb] using h2
  have hanc := tail_anc ht
  have hback : backB (l ++ l2) = true := by simp only [tailB, Bool.and_eq_true] at ht; exact ht.1.1
  have hguard : guardB l = true := by simp only [tailB, Bool.and_eq_true] at ht; exact ht.1.2
  intro fuel
  induction fuel with
  | zero =>
    intro listed rem hrem hs hnr hmem hhi hcl f w' hb hf
    have hr0 : rem = [] := List.eq_nil_of_length_eq_zero hrem
    have hal : ∀ i, i < l.length → listed.getD i false = true := by
      intro i hi
      rcases hc : listed.getD i false with _ | _
      · exfalso
        have : i ∈ rem := (hmem i).2 ⟨hi, by
          rw [Array.getD_eq_getD_getElem?] at hc ⊢
          rw [Array.getElem?_eq_getElem (by rw [hs, List.length_append]; omega)] at hc ⊢
          exact hc⟩
        rw [hr0] at this
        cases this
      · rfl
    rw [Nat.zero_add]
    refine lex_tail (l := l) hback hanc l2 l.length listed (Nat.le_refl _) (fun j => by rw [List.getElem?_append_right (by omega)]; congr 1; omega) (by simp) hs hal hhi ?_
    rw [hal s hs0] at hb
    refine hQ f w' hb (postO_mk dl Φ fun i d hd => ?_)
    have hi : i < l.length := by
      have := (List.getElem?_eq_some_iff.1 hd).1
      rw [← hdl] at this
      simpa using this
    have := hf i hi (hal i hi)
    unfold factO valOf at this
    rw [hd] at this
    cases d <;> exact this
  | succ fuel ih =>
    intro listed rem hrem hs hnr hmem hhi hcl f w' hb hf
    rw [show fuel + 1 + l2.length = (fuel + l2.length) + 1 by omega]
    refine ⟨fun h => ?_, fun i hi => ?_⟩
    · exfalso
      -- the least one that has not come up may come up
      have hno : ∀ i, i < l.length → listed.getD i false = true := by
        intro i
        induction i using Nat.strongRecOn with
        | _ i ih =>
          intro hi
          rcases hc : listed.getD i false with _ | _
          · exfalso
            have hm : i ∈ Region.ready .any (l ++ l2).toArray listed := by
              rw [mem_ready]
              refine ⟨?_, l[i], by simp [List.getElem?_append_left hi, hi], fun e he hb => ?_⟩
              · rw [Array.getD_eq_getD_getElem?] at hc ⊢
                rw [Array.getElem?_eq_getElem (by rw [hs, List.length_append]; omega)] at hc ⊢
                exact hc
              · have := hed i l[i] (by simp [hi]) e he hb
                exact ih e.on this (by omega)
            rw [h] at hm
            cases hm
          · rfl
      obtain ⟨k, hk⟩ : ∃ k, k ∈ rem := by
        cases rem with
        | nil => simp at hrem
        | cons x _ => exact ⟨x, List.mem_cons_self ..⟩
      obtain ⟨hk1, hk2⟩ := (hmem k).1 hk
      have h1 := hno k hk1
      rw [Array.getD_eq_getD_getElem?, Array.getElem?_eq_getElem (by rw [hs, List.length_append]; omega)] at h1 hk2
      simp at h1 hk2
      rw [h1] at hk2
      cases hk2
    obtain ⟨hun, o, ho, hpre⟩ := mem_ready.1 hi
    have hil : i < l.length := by
      rcases Nat.lt_or_ge i l.length with h | h
      · exact h
      · exfalso
        have hall := hanc listed hcl i o (by simpa using ho) h hpre
        obtain ⟨k, hk⟩ : ∃ k, k ∈ rem := by
          cases rem with
          | nil => simp at hrem
          | cons x _ => exact ⟨x, List.mem_cons_self ..⟩
        obtain ⟨hk1, hk2⟩ := (hmem k).1 hk
        have h1 := hall k (by omega)
        rw [Array.getD_eq_getD_getElem?, Array.getElem?_eq_getElem (by rw [hs, List.length_append]; omega)] at h1 hk2
        simp at h1 hk2
        rw [h1] at hk2
        cases hk2
    have hol : l[i]? = some o := by
      have h1 : (l ++ l2)[i]? = some o := by simpa using ho
      rwa [List.getElem?_append_left hil] at h1
    have hcl2 : Closed (l ++ l2) (listed.setIfInBounds i true) := by
      intro k ok hok hlk e he hbd
      by_cases hki : k = i
      · subst hki
        have h1 : (l ++ l2)[k]? = some o := by simpa using ho
        rw [h1] at hok
        injection hok with hok
        subst hok
        have h2 := hpre e he hbd
        by_cases hei : e.on = k
        · rw [hei] at h2 ⊢; rw [Array.getD_eq_getD_getElem?, Array.getElem?_setIfInBounds_self_of_lt (by rw [hs, List.length_append]; omega)]; rfl
        · rw [getD_set_ne false (Ne.symm hei)]; exact h2
      · rw [getD_set_ne false (Ne.symm hki)] at hlk
        have h2 := hcl k ok hok hlk e he hbd
        by_cases hei : e.on = i
        · rw [hei, Array.getD_eq_getD_getElem?, Array.getElem?_setIfInBounds_self_of_lt (by rw [hs, List.length_append]; omega)]; rfl
        · rw [getD_set_ne false (Ne.symm hei)]; exact h2
    have hhi2 : ∀ k, l.length ≤ k → k < (l ++ l2).length → (listed.setIfInBounds i true).getD k false = false := by
      intro k h1 h2
      rw [getD_set_ne false (by omega)]
      exact hhi k h1 h2
    have hp : PreO dl Φ f o.after.toList := preO_mk _ fun e he hbd => by
      have he' : e ∈ o.after := by simpa using he
      have hlist := hpre e he' hbd
      exact hf e.on (Nat.lt_trans (hed i o hol e he' hbd) hil) hlist
    have huf : listed.getD i false = false := by
      rw [Array.getD_eq_getD_getElem?] at hun ⊢
      rw [Array.getElem?_eq_getElem (by rw [hs, List.length_append]; omega)] at hun ⊢
      exact hun
    have hone := hob i o hol f (listed.getD s false) w' hb (fun e => by subst e; exact huf) hp
    have hgd := yielded_iff2 l l2 dl hdl (dstsOf_ l) f a hlt (fun d hd => by
      rw [← hdl] at hd
      obtain ⟨oo, h1, h2⟩ := List.mem_map.1 hd
      exact List.mem_filterMap.2 ⟨oo, h1, h2⟩) o.guard o rfl (fun j b hg => guard_spec hguard hol j b hg)
    have hval : ∀ (d : Nat), o.dst = some d → ∀ v k, k ≠ i → valOf dl (fun t => if t = d then v else f t) k = valOf dl f k := by
      intro d hd v k hki
      unfold valOf
      rw [hdlg]
      cases hok : l[k]? with
      | none => rfl
      | some ok =>
        cases hdk : ok.dst with
        | none => simp [hdk]
        | some dk =>
          simp only [Option.map_some, hdk]
          rw [if_neg]
          intro e
          subst e
          have h3 : (dstsOf_ l).Nodup := hnd
          have : ∀ (m : List Oper) (x y : Nat) (ox oy : Oper), (m.filterMap (·.dst)).Nodup → m[x]? = some ox → m[y]? = some oy → ox.dst = some dk → oy.dst = some dk → x = y := by
            intro m
            induction m with
            | nil => intro x y ox oy _ hx; simp at hx
            | cons q m ihm =>
              intro x y ox oy hnd hx hy hdx hdy
              cases x with
              | zero =>
                cases y with
                | zero => rfl
                | succ y =>
                  exfalso
                  simp at hx hy
                  subst hx
                  simp only [List.filterMap_cons, hdx] at hnd
                  exact (List.nodup_cons.1 hnd).1 (List.mem_filterMap.2 ⟨oy, List.mem_of_getElem? hy, hdy⟩)
              | succ x =>
                cases y with
                | zero =>
                  exfalso
                  simp at hx hy
                  subst hy
                  simp only [List.filterMap_cons, hdy] at hnd
                  exact (List.nodup_cons.1 hnd).1 (List.mem_filterMap.2 ⟨ox, List.mem_of_getElem? hx, hdx⟩)
                | succ y =>
                  simp at hx hy
                  have : (m.filterMap (·.dst)).Nodup := by
                    simp only [List.filterMap_cons] at hnd
                    cases hq : q.dst with
                    | none => simpa [hq] using hnd
                    | some _ => simp only [hq] at hnd; exact (List.nodup_cons.1 hnd).2
                  rw [ihm x y ox oy this hx hy hdx hdy]
          exact hki (this l k i ok o h3 hok hol hdk hd)
    -- what follows once the value is there
    have hnext : ∀ v w'', J ((listed.setIfInBounds i true).getD s false) (if s = i then dstVal o.dst v else valOf dl f s) w'' → (Φ.getD i fun _ => True) (dstVal o.dst v) →
        wpAny P .any (l ++ l2).toArray Q (fuel + l2.length) (listed.setIfInBounds i true) ((fills (dstsOf_ l) f a).put o.dst v) w'' := by
      intro v w'' hb' hv
      have hrem' : (rem.erase i).length = fuel := by
        have : i ∈ rem := (hmem i).2 ⟨hil, hun⟩
        rw [List.length_erase_of_mem this]; omega
      have hmem' : ∀ k, k ∈ rem.erase i ↔ k < l.length ∧ (listed.setIfInBounds i true).getD k true = false := by
        intro k
        rw [hnr.mem_erase_iff, hmem]
        by_cases hk : k = i
        · subst hk
          simp only [ne_eq, not_true, false_and, false_iff, not_and]
          intro hk
          rw [Array.getD_eq_getD_getElem?, Array.getElem?_setIfInBounds_self_of_lt (by rw [hs, List.length_append]; omega)]
          simp
        · rw [getD_set_ne true (Ne.symm hk)]
          simp [hk]
      have hst : ∀ k, k < l.length → k ≠ i → (listed.setIfInBounds i true).getD k false = true → listed.getD k false = true := by
        intro k _ hk h
        rw [getD_set_ne false (Ne.symm hk)] at h
        exact h
      cases hd : o.dst with
      | none =>
        show wpAny P .any (l ++ l2).toArray Q (fuel + l2.length) _ (fills (dstsOf_ l) f a) w''
        refine ih _ (rem.erase i) hrem' (by simpa using hs) (hnr.erase i) hmem' hhi2 hcl2 f w'' ?_ fun k hk hl => ?_
        · by_cases hsi : s = i
          · rw [if_pos hsi] at hb'
            have : valOf dl f s = dstVal o.dst v := by
              unfold valOf
              rw [hdlg, hsi, hol]
              simp only [Option.map_some, hd]
              rfl
            rw [this]; exact hb'
          · rw [if_neg hsi] at hb'; exact hb'
        · by_cases hki : k = i
          · subst hki
            unfold factO valOf
            rw [hdlg, hol]
            simp only [Option.map_some, hd]
            simpa [hd] using hv
          · exact hf k hk (hst k hk hki hl)
      | some d =>
        have hdm : d ∈ dstsOf_ l := List.mem_filterMap.2 ⟨o, List.mem_of_getElem? hol, hd⟩
        rw [fills_put _ _ _ _ _ hdm]
        refine ih _ (rem.erase i) hrem' (by simpa using hs) (hnr.erase i) hmem' hhi2 hcl2 _ w'' ?_ fun k hk hl => ?_
        · by_cases hsi : s = i
          · rw [if_pos hsi] at hb'
            have : valOf dl (fun t => if t = d then v else f t) s = dstVal o.dst v := by
              unfold valOf
              rw [hdlg, hsi, hol]
              simp only [Option.map_some, hd]
              simp
            rw [this]; exact hb'
          · rw [if_neg hsi] at hb'
            rw [hval d hd v s hsi]; exact hb'
        · by_cases hki : k = i
          · subst hki
            unfold factO valOf
            rw [hdlg, hol]
            simp only [Option.map_some, hd]
            simpa [hd] using hv
          · have h0 := hf k hk (hst k hk hki hl)
            unfold factO at h0 ⊢
            rw [hval d hd v k hki]
            exact h0
    unfold wpOp
    simp only [ho]
    by_cases hw : Region.wanted o (yielded (l ++ l2).toArray (fills (dstsOf_ l) f a).tmps) = true
    · replace hone := hone.1 (hgd.1 hw)
      simp only [hw, if_true]
      left
      unfold Oper.wp
      rw [evalF_fills f hlt]
      generalize (execOp (evalF (dstsOf_ l) f a) o).run P w' = r at *
      cases r with
      | ok n w'' =>
        cases n <;> simp only [mildO] at hone <;> simp only [Oper.upon]
        case value u =>
          obtain ⟨hne, rfl, hv⟩ := hone
          refine hnext u _ ?_ hv
          rw [if_neg (fun e => hne e.symm), getD_set_ne false hne]
          exact hb
        case enter f' args =>
          obtain ⟨rfl, hone⟩ := hone
          refine hone.mono ?_
          rintro e w3 ⟨v, rfl, hj, hv⟩
          refine hnext v w3 ?_ hv
          rw [if_pos rfl, Array.getD_eq_getD_getElem?, Array.getElem?_setIfInBounds_self_of_lt (by rw [hs, List.length_append]; omega)]
          exact hj
      | halt x w'' => simp only [mildO] at hone
    · replace hone := hone.2 (fun h => hw (hgd.2 h))
      simp only [hw]
      refine hnext undef w' ?_ ?_
      · rw [if_neg (fun e => hone.2 e.symm), getD_set_ne false hone.2]; exact hb
      · cases o.dst <;> exact hone.1

/-- THE LAW: n operations, of which number s changes the world, then the end. -/
theorem wp_region_one {id : Nat} {L : List Oper} {ds : List Nat} (n s : Nat) (J : Bool → Value → World → Prop) (dl : List (Option Nat)) (Φ : List (Value → Prop)) (hsn : s < (L.take n).length) (hdl : (L.take n).map (·.dst) = dl) (hds : dstsOf_ (L.take n) = ds) (hm : P.follows .mixedOrders = true)
    (hn : typedB (L.take n) a.tmps.size = true) (ht : tailB (L.take n) (L.drop n) = true) (hob : ∀ (i : Nat) (o : Oper), (L.take n)[i]? = some o → ObO P dl Φ ds a s J i (Φ.getD i fun _ => True) o) (h0 : ∀ v, J false v w.drew)
    (hQ : ∀ f w', J true (valOf dl f s) w' → PostO f dl Φ → wpList P L.toArray Q (L.drop n) (fills ds f a) w') : (Code.region id L.toArray true).wp P Q a w := by
  subst hds
  refine wp_region_any hm ?_
  have hL : L.take n ++ L.drop n = L := List.take_append_drop n L
  have hf0 : (Array.replicate L.length false).getD s false = false := by
    rw [Array.getD_eq_getD_getElem?, Array.getElem?_replicate]; split <;> rfl
  have := one_aux (l2 := L.drop n) hsn hdl hn ht hob (by rw [hL]; exact hQ) (L.take n).length (Array.replicate L.length false) (List.range (L.take n).length) (by simp) (by rw [hL]; simp) List.nodup_range (by
    intro i
    simp only [List.mem_range, Array.getD_eq_getD_getElem?]
    constructor
    · intro h; exact ⟨h, by
        have : i < L.length := by rw [List.length_take] at h; omega
        simp [this]⟩
    · exact fun h => h.1) (by
    intro i _ hi
    rw [hL] at hi
    simp [Array.getD_eq_getD_getElem?, hi]) (by
    intro i o _ hl
    exfalso
    simp [Array.getD_eq_getD_getElem?, Array.getElem?_replicate] at hl
    split at hl <;> simp at hl) (fun t => a.tmps.getD t undef) { w with drawn := w.drawn + 1 } (by rw [hf0]; exact h0 _) (by
    intro i hi h
    exfalso
    simp [Array.getD_eq_getD_getElem?, Array.getElem?_replicate] at h
    split at h <;> simp at h)
  rw [fills_self, hL] at this
  have hlen : (L.take n).length + (L.drop n).length = L.toArray.size := by rw [← List.length_append, hL]; simp
  rw [hlen] at this
  exact this
end
end Go.Proofs.Ytpoicbhbkabllaa

namespace Go.Proofs.Ytpoicbhbkabllaa
set_option linter.unusedSimpArgs false
set_option linter.unusedVariables false
open Go.RowKit

/-- how one operation may run -/
def mildM (P : Program) (d : Option Nat) (ph : Value → Prop) (i : Nat) (J : (Nat → Bool) → (Nat → Value) → World → Prop) (b : Nat → Bool) (vs : Nat → Value) : Result Next → Prop
  | .ok (.value u) w'' => ph (dstVal d u) ∧ J (fun s => if s = i then true else b s) (fun s => if s = i then dstVal d u else vs s) w''
  | .ok (.enter f args) w'' => Calls P f args w'' (fun e w3 => ∃ v, e = .returned v ∧ ph (dstVal d v) ∧ J (fun s => if s = i then true else b s) (fun s => if s = i then dstVal d v else vs s) w3)
  | _ => False
def ObM (P : Program) (dl : List (Option Nat)) (Φ : List (Value → Prop)) (ds : List Nat) (a : Act) (J : (Nat → Bool) → (Nat → Value) → World → Prop) (i : Nat) (ph : Value → Prop) (o : Oper) : Prop :=
  ∀ f b w', J b (valOf dl f) w' → b i = false → (∀ e ∈ o.after.toList, Region.binds .any e = true → b e.on = true) → PreO dl Φ f o.after.toList →
    (Gd dl f o.guard → mildM P o.dst ph i J b (valOf dl f) ((execOp (evalF ds f a) o).run P w')) ∧
    (¬ Gd dl f o.guard → ph undef ∧ J (fun s => if s = i then true else b s) (fun s => if s = i then undef else valOf dl f s) w')

section
variable {P : Program} {l : List Oper} {dl : List (Option Nat)} {Φ : List (Value → Prop)} {a : Act} {w : World} {Q : Exit → Act → World → Prop} {J : (Nat → Bool) → (Nat → Value) → World → Prop}
theorem mix_aux {l2 : List Oper} (hdl : l.map (·.dst) = dl) (hn : typedB l a.tmps.size = true) (ht : tailB l l2 = true) (hob : ∀ (i : Nat) (o : Oper), l[i]? = some o → ObM P dl Φ (dstsOf_ l) a J i (Φ.getD i fun _ => True) o)
    (hQ : ∀ f b w', (∀ i, i < l.length → b i = true) → J b (valOf dl f) w' → PostO f dl Φ → wpList P (l ++ l2).toArray Q l2 (fills (dstsOf_ l) f a) w') :
    ∀ (fuel : Nat) (listed : Array Bool) (rem : List Nat), rem.length = fuel → listed.size = (l ++ l2).length → rem.Nodup → (∀ i, i ∈ rem ↔ i < l.length ∧ listed.getD i true = false) →
      (∀ i, l.length ≤ i → i < (l ++ l2).length → listed.getD i false = false) → Closed (l ++ l2) listed →
      ∀ f w', J (fun s => listed.getD s false) (valOf dl f) w' → (∀ i, i < l.length → listed.getD i false = true → factO dl Φ f i) →
      wpAny P .any (l ++ l2).toArray Q (fuel + l2.length) listed (fills (dstsOf_ l) f a) w' := by
  simp only [typedB, Bool.and_eq_true] at hn
  obtain ⟨⟨⟨hnd, hlt⟩, hed⟩, _⟩ := hn
  have hdlg : ∀ i : Nat, dl[i]? = (l[i]?).map (fun (o : Oper) => o.dst) := fun i => by rw [← hdl]; simp
  have hnd := of_decide_eq_true hnd
  have hlt : ∀ d ∈ dstsOf_ l, d < a.tmps.size := fun d hd => of_decide_eq_true (List.all_eq_true.1 hlt d hd)
  have hed : ∀ (i : Nat) (o : Oper), l[i]? = some o → ∀ e ∈ o.after, Region.binds .any e = true → e.on < i := by
    intro i o ho e he hb
    have h1 := List.all_eq_true.1 hed (o, i) (by
      rw [List.mem_zipIdx_iff_getElem?]; exact ho)
    have h2 := (Array.all_eq_true_iff_forall_mem.1 h1) e he
    simpa [hb] using h2
  have hanc := tail_anc ht
  have hback : backB (l ++ l2) = true := by simp only [tailB, Bool.and_eq_true] at ht; exact ht.1.1
  have hguard : guardB l = true := by simp only [tailB, Bool.and_eq_true] at ht; exact ht.1.2
  intro fuel
  induction fuel with
  | zero =>
    intro listed rem hrem hs hnr hmem hhi hcl f w' hb hf
    have hr0 : rem = [] := List.eq_nil_of_length_eq_zero hrem
    have hal : ∀ i, i < l.length → listed.getD i false = true := by
      intro i hi
      rcases hc : listed.getD i false with _ | _
      · exfalso
        have : i ∈ rem := (hmem i).2 ⟨hi, by
          rw [Array.getD_eq_getD_getElem?] at hc ⊢
          rw [Array.getElem?_eq_getElem (by rw [hs, List.length_append]; omega)] at hc ⊢
          exact hc⟩
        rw [hr0] at this
        cases this
      · rfl
    rw [Nat.zero_add]
    refine lex_tail (l := l) hback hanc l2 l.length listed (Nat.le_refl _) (fun j => by rw [List.getElem?_append_right (by omega)]; congr 1; omega) (by simp) hs hal hhi ?_
    refine hQ f _ w' hal hb (postO_mk dl Φ fun i d hd => ?_)
    have hi : i < l.length := by
      have := (List.getElem?_eq_some_iff.1 hd).1
      rw [← hdl] at this
      simpa using this
    have := hf i hi (hal i hi)
    unfold factO valOf at this
    rw [hd] at this
    cases d <;> exact this
  | succ fuel ih =>
    intro listed rem hrem hs hnr hmem hhi hcl f w' hb hf
    rw [show fuel + 1 + l2.length = (fuel + l2.length) + 1 by omega]
    refine ⟨fun h => ?_, fun i hi => ?_⟩
    · exfalso
      -- the least one that has not come up may come up
      have hno : ∀ i, i < l.length → listed.getD i false = true := by
        intro i
        induction i using Nat.strongRecOn with
        | _ i ih =>
          intro hi
          rcases hc : listed.getD i false with _ | _
          · exfalso
            have hm : i ∈ Region.ready .any (l ++ l2).toArray listed := by
              rw [mem_ready]
              refine ⟨?_, l[i], by simp [List.getElem?_append_left hi, hi], fun e he hb => ?_⟩
              · rw [Array.getD_eq_getD_getElem?] at hc ⊢
                rw [Array.getElem?_eq_getElem (by rw [hs, List.length_append]; omega)] at hc ⊢
                exact hc
              · have := hed i l[i] (by simp [hi]) e he hb
                exact ih e.on this (by omega)
            rw [h] at hm
            cases hm
          · rfl
      obtain ⟨k, hk⟩ : ∃ k, k ∈ rem := by
        cases rem with
        | nil => simp at hrem
        | cons x _ => exact ⟨x, List.mem_cons_self ..⟩
      obtain ⟨hk1, hk2⟩ := (hmem k).1 hk
      have h1 := hno k hk1
      rw [Array.getD_eq_getD_getElem?, Array.getElem?_eq_getElem (by rw [hs, List.length_append]; omega)] at h1 hk2
      simp at h1 hk2
      rw [h1] at hk2
      cases hk2
    obtain ⟨hun, o, ho, hpre⟩ := mem_ready.1 hi
    have hil : i < l.length := by
      rcases Nat.lt_or_ge i l.length with h | h
      · exact h
      · exfalso
        have hall := hanc listed hcl i o (by simpa using ho) h hpre
        obtain ⟨k, hk⟩ : ∃ k, k ∈ rem := by
          cases rem with
          | nil => simp at hrem
          | cons x _ => exact ⟨x, List.mem_cons_self ..⟩
        obtain ⟨hk1, hk2⟩ := (hmem k).1 hk
        have h1 := hall k (by omega)
        rw [Array.getD_eq_getD_getElem?, Array.getElem?_eq_getElem (by rw [hs, List.length_append]; omega)] at h1 hk2
        simp at h1 hk2
        rw [h1] at hk2
        cases hk2
    have hol : l[i]? = some o := by
      have h1 : (l ++ l2)[i]? = some o := by simpa using ho
      rwa [List.getElem?_append_left hil] at h1
    have hcl2 : Closed (l ++ l2) (listed.setIfInBounds i true) := by
      intro k ok hok hlk e he hbd
      by_cases hki : k = i
      · subst hki
        have h1 : (l ++ l2)[k]? = some o := by simpa using ho
        rw [h1] at hok
        injection hok with hok
        subst hok
        have h2 := hpre e he hbd
        by_cases hei : e.on = k
        · rw [hei] at h2 ⊢; rw [Array.getD_eq_getD_getElem?, Array.getElem?_setIfInBounds_self_of_lt (by rw [hs, List.length_append]; omega)]; rfl
        · rw [getD_set_ne false (Ne.symm hei)]; exact h2
      · rw [getD_set_ne false (Ne.symm hki)] at hlk
        have h2 := hcl k ok hok hlk e he hbd
        by_cases hei : e.on = i
        · rw [hei, Array.getD_eq_getD_getElem?, Array.getElem?_setIfInBounds_self_of_lt (by rw [hs, List.length_append]; omega)]; rfl
        · rw [getD_set_ne false (Ne.symm hei)]; exact h2
    have hhi2 : ∀ k, l.length ≤ k → k < (l ++ l2).length → (listed.setIfInBounds i true).getD k false = false := by
      intro k h1 h2
      rw [getD_set_ne false (by omega)]
      exact hhi k h1 h2
    have hp : PreO dl Φ f o.after.toList := preO_mk _ fun e he hbd => by
      have he' : e ∈ o.after := by simpa using he
      have hlist := hpre e he' hbd
      exact hf e.on (Nat.lt_trans (hed i o hol e he' hbd) hil) hlist
    have huf : listed.getD i false = false := by
      rw [Array.getD_eq_getD_getElem?] at hun ⊢
      rw [Array.getElem?_eq_getElem (by rw [hs, List.length_append]; omega)] at hun ⊢
      exact hun
    have hone := hob i o hol f (fun s => listed.getD s false) w' hb huf (fun e he hbd => hpre e (by simpa using he) hbd) hp
    have hbs : (fun s => (listed.setIfInBounds i true).getD s false) = fun s => if s = i then true else listed.getD s false := by
      funext s
      by_cases hsi : s = i
      · subst hsi; rw [if_pos rfl, Array.getD_eq_getD_getElem?, Array.getElem?_setIfInBounds_self_of_lt (by rw [hs, List.length_append]; omega)]; rfl
      · rw [if_neg hsi, getD_set_ne false (fun e => hsi e.symm)]
    have hgd := yielded_iff2 l l2 dl hdl (dstsOf_ l) f a hlt (fun d hd => by
      rw [← hdl] at hd
      obtain ⟨oo, h1, h2⟩ := List.mem_map.1 hd
      exact List.mem_filterMap.2 ⟨oo, h1, h2⟩) o.guard o rfl (fun j b hg => guard_spec hguard hol j b hg)
    have hval : ∀ (d : Nat), o.dst = some d → ∀ v k, k ≠ i → valOf dl (fun t => if t = d then v else f t) k = valOf dl f k := by
      intro d hd v k hki
      unfold valOf
      rw [hdlg]
      cases hok : l[k]? with
      | none => rfl
      | some ok =>
        cases hdk : ok.dst with
        | none => simp [hdk]
        | some dk =>
          simp only [Option.map_some, hdk]
          rw [if_neg]
          intro e
          subst e
          have h3 : (dstsOf_ l).Nodup := hnd
          have : ∀ (m : List Oper) (x y : Nat) (ox oy : Oper), (m.filterMap (·.dst)).Nodup → m[x]? = some ox → m[y]? = some oy → ox.dst = some dk → oy.dst = some dk → x = y := by
            intro m
            induction m with
            | nil => intro x y ox oy _ hx; simp at hx
            | cons q m ihm =>
              intro x y ox oy hnd hx hy hdx hdy
              cases x with
              | zero =>
                cases y with
                | zero => rfl
                | succ y =>
                  exfalso
                  simp at hx hy
                  subst hx
                  simp only [List.filterMap_cons, hdx] at hnd
                  exact (List.nodup_cons.1 hnd).1 (List.mem_filterMap.2 ⟨oy, List.mem_of_getElem? hy, hdy⟩)
              | succ x =>
                cases y with
                | zero =>
                  exfalso
                  simp at hx hy
                  subst hy
                  simp only [List.filterMap_cons, hdy] at hnd
                  exact (List.nodup_cons.1 hnd).1 (List.mem_filterMap.2 ⟨ox, List.mem_of_getElem? hx, hdx⟩)
                | succ y =>
                  simp at hx hy
                  have : (m.filterMap (·.dst)).Nodup := by
                    simp only [List.filterMap_cons] at hnd
                    cases hq : q.dst with
                    | none => simpa [hq] using hnd
                    | some _ => simp only [hq] at hnd; exact (List.nodup_cons.1 hnd).2
                  rw [ihm x y ox oy this hx hy hdx hdy]
          exact hki (this l k i ok o h3 hok hol hdk hd)
    -- what follows once the value is there
    have hnext : ∀ v w'', J (fun s => if s = i then true else listed.getD s false) (fun s => if s = i then dstVal o.dst v else valOf dl f s) w'' → (Φ.getD i fun _ => True) (dstVal o.dst v) →
        wpAny P .any (l ++ l2).toArray Q (fuel + l2.length) (listed.setIfInBounds i true) ((fills (dstsOf_ l) f a).put o.dst v) w'' := by
      intro v w'' hb' hv
      have hrem' : (rem.erase i).length = fuel := by
        have : i ∈ rem := (hmem i).2 ⟨hil, hun⟩
        rw [List.length_erase_of_mem this]; omega
      have hmem' : ∀ k, k ∈ rem.erase i ↔ k < l.length ∧ (listed.setIfInBounds i true).getD k true = false := by
        intro k
        rw [hnr.mem_erase_iff, hmem]
        by_cases hk : k = i
        · subst hk
          simp only [ne_eq, not_true, false_and, false_iff, not_and]
          intro hk
          rw [Array.getD_eq_getD_getElem?, Array.getElem?_setIfInBounds_self_of_lt (by rw [hs, List.length_append]; omega)]
          simp
        · rw [getD_set_ne true (Ne.symm hk)]
          simp [hk]
      have hst : ∀ k, k < l.length → k ≠ i → (listed.setIfInBounds i true).getD k false = true → listed.getD k false = true := by
        intro k _ hk h
        rw [getD_set_ne false (Ne.symm hk)] at h
        exact h
      cases hd : o.dst with
      | none =>
        show wpAny P .any (l ++ l2).toArray Q (fuel + l2.length) _ (fills (dstsOf_ l) f a) w''
        refine ih _ (rem.erase i) hrem' (by simpa using hs) (hnr.erase i) hmem' hhi2 hcl2 f w'' ?_ fun k hk hl => ?_
        · have e : (fun s => if s = i then dstVal o.dst v else valOf dl f s) = valOf dl f := by
            funext s
            by_cases hsi : s = i
            · rw [if_pos hsi]
              subst hsi
              unfold valOf
              rw [hdlg, hol]
              simp only [Option.map_some, hd]
              rfl
            · rw [if_neg hsi]
          rw [e] at hb'
          rw [hbs]; exact hb'
        · by_cases hki : k = i
          · subst hki
            unfold factO valOf
            rw [hdlg, hol]
            simp only [Option.map_some, hd]
            simpa [hd] using hv
          · exact hf k hk (hst k hk hki hl)
      | some d =>
        have hdm : d ∈ dstsOf_ l := List.mem_filterMap.2 ⟨o, List.mem_of_getElem? hol, hd⟩
        rw [fills_put _ _ _ _ _ hdm]
        refine ih _ (rem.erase i) hrem' (by simpa using hs) (hnr.erase i) hmem' hhi2 hcl2 _ w'' ?_ fun k hk hl => ?_
        · have e : (fun s => if s = i then dstVal o.dst v else valOf dl f s) = valOf dl (fun t => if t = d then v else f t) := by
            funext s
            by_cases hsi : s = i
            · rw [if_pos hsi]
              subst hsi
              unfold valOf
              rw [hdlg, hol]
              simp only [Option.map_some, hd]
              simp
            · rw [if_neg hsi, hval d hd v s hsi]
          rw [e] at hb'
          rw [hbs]; exact hb'
        · by_cases hki : k = i
          · subst hki
            unfold factO valOf
            rw [hdlg, hol]
            simp only [Option.map_some, hd]
            simpa [hd] using hv
          · have h0 := hf k hk (hst k hk hki hl)
            unfold factO at h0 ⊢
            rw [hval d hd v k hki]
            exact h0
    unfold wpOp
    simp only [ho]
    by_cases hw : Region.wanted o (yielded (l ++ l2).toArray (fills (dstsOf_ l) f a).tmps) = true
    · replace hone := hone.1 (hgd.1 hw)
      simp only [hw, if_true]
      left
      unfold Oper.wp
      rw [evalF_fills f hlt]
      generalize (execOp (evalF (dstsOf_ l) f a) o).run P w' = r at *
      cases r with
      | ok n w'' =>
        cases n <;> simp only [mildM] at hone <;> simp only [Oper.upon]
        case value u => exact hnext u _ hone.2 hone.1
        case enter f' args =>
          refine hone.mono ?_
          rintro e w3 ⟨v, rfl, hv, hj⟩
          exact hnext v w3 hj hv
      | halt x w'' => simp only [mildM] at hone
    · replace hone := hone.2 (fun h => hw (hgd.2 h))
      simp only [hw]
      refine hnext undef w' ?_ ?_
      · have := hone.2
        cases hd : o.dst <;> exact this
      · cases o.dst <;> exact hone.1

/-- THE LAW: n operations, of which some change the world, then the end. -/
theorem wp_region_mix {id : Nat} {L : List Oper} {ds : List Nat} (n : Nat) (J : (Nat → Bool) → (Nat → Value) → World → Prop) (dl : List (Option Nat)) (Φ : List (Value → Prop)) (hdl : (L.take n).map (·.dst) = dl) (hds : dstsOf_ (L.take n) = ds) (hm : P.follows .mixedOrders = true)
    (hn : typedB (L.take n) a.tmps.size = true) (ht : tailB (L.take n) (L.drop n) = true) (hob : ∀ (i : Nat) (o : Oper), (L.take n)[i]? = some o → ObM P dl Φ ds a J i (Φ.getD i fun _ => True) o) (h0 : ∀ v, J (fun _ => false) v w.drew)
    (hQ : ∀ f b w', (∀ i, i < (L.take n).length → b i = true) → J b (valOf dl f) w' → PostO f dl Φ → wpList P L.toArray Q (L.drop n) (fills ds f a) w') : (Code.region id L.toArray true).wp P Q a w := by
  subst hds
  refine wp_region_any hm ?_
  have hL : L.take n ++ L.drop n = L := List.take_append_drop n L
  have hf0 : (fun s => (Array.replicate L.length false).getD s false) = fun _ => false := by
    funext s
    rw [Array.getD_eq_getD_getElem?, Array.getElem?_replicate]; split <;> rfl
  have := mix_aux (l2 := L.drop n) hdl hn ht hob (by rw [hL]; exact hQ) (L.take n).length (Array.replicate L.length false) (List.range (L.take n).length) (by simp) (by rw [hL]; simp) List.nodup_range (by
    intro i
    simp only [List.mem_range, Array.getD_eq_getD_getElem?]
    constructor
    · intro h; exact ⟨h, by
        have : i < L.length := by rw [List.length_take] at h; omega
        simp [this]⟩
    · exact fun h => h.1) (by
    intro i _ hi
    rw [hL] at hi
    simp [Array.getD_eq_getD_getElem?, hi]) (by
    intro i o _ hl
    exfalso
    simp [Array.getD_eq_getD_getElem?, Array.getElem?_replicate] at hl
    split at hl <;> simp at hl) (fun t => a.tmps.getD t undef) { w with drawn := w.drawn + 1 } (by rw [hf0]; exact h0 _) (by
    intro i hi h
    exfalso
    simp [Array.getD_eq_getD_getElem?, Array.getElem?_replicate] at h
    split at h <;> simp at h)
  rw [fills_self, hL] at this
  have hlen : (L.take n).length + (L.drop n).length = L.toArray.size := by rw [← List.length_append, hL]; simp
  rw [hlen] at this
  exact this
end

/-! ### one by one -/
def ObMAll (P : Program) (dl : List (Option Nat)) (Φ : List (Value → Prop)) (ds : List Nat) (a : Act) (J : (Nat → Bool) → (Nat → Value) → World → Prop) : Nat → List Oper → List (Value → Prop) → Prop
  | _, [], _ => True
  | _, _ :: _, [] => False
  | i, o :: os, ph :: phs => ObM P dl Φ ds a J i ph o ∧ ObMAll P dl Φ ds a J (i + 1) os phs
theorem obMAll_get {P : Program} {dl : List (Option Nat)} {Φ : List (Value → Prop)} {ds : List Nat} {a : Act} {J : (Nat → Bool) → (Nat → Value) → World → Prop} : ∀ (os : List Oper) (phs : List (Value → Prop)) (k : Nat), ObMAll P dl Φ ds a J k os phs →
    ∀ (i : Nat) (o : Oper), os[i]? = some o → ObM P dl Φ ds a J (k + i) (phs.getD i fun _ => True) o
  | [], _, _, _ => fun i o h => by simp at h
  | _ :: _, [], _, h => h.elim
  | x :: os, ph :: phs, k, h => fun i o ho => by
    cases i with
    | zero => obtain rfl : x = o := by simpa using ho
              exact h.1
    | succ i =>
      have := obMAll_get os phs (k + 1) h.2 i o (by simpa using ho)
      rw [show k + (i + 1) = k + 1 + i by omega]
      simpa using this
section
variable {P : Program} {dl : List (Option Nat)} {Φ : List (Value → Prop)} {ds : List Nat} {a : Act} {w : World} {i : Nat} {J : (Nat → Bool) → (Nat → Value) → World → Prop} {ph : Value → Prop} {o : Oper}
theorem obM_yes (h : ∀ f b w', J b (valOf dl f) w' → b i = false → (∀ e ∈ o.after.toList, Region.binds .any e = true → b e.on = true) → PreO dl Φ f o.after.toList → Gd dl f o.guard ∧ mildM P o.dst ph i J b (valOf dl f) ((execOp (evalF ds f a) o).run P w')) : ObM P dl Φ ds a J i ph o := by
  intro f b w' h1 h2 h3 h4
  have := h f b w' h1 h2 h3 h4
  exact ⟨fun _ => this.2, fun hn => absurd this.1 hn⟩
theorem mildM_val {d : Option Nat} {q : Value → Prop} {r : Result Next} {w' : World} {b : Nat → Bool} {vs : Nat → Value} (u : Value) (hr : r = .ok (.value u) w') (hq : q (dstVal d u)) (hj : J (fun s => if s = i then true else b s) (fun s => if s = i then dstVal d u else vs s) w') : mildM P d q i J b vs r := by
  subst hr
  exact ⟨hq, hj⟩
theorem mildM_ex {d : Option Nat} {q : Value → Prop} {r : Result Next} {b : Nat → Bool} {vs : Nat → Value} {A B : Value → World → Prop} (hr : ∃ v' w3, r = .ok (.value v') w3 ∧ A v' w3 ∧ B v' w3)
    (h : ∀ v' w3, A v' w3 → B v' w3 → q (dstVal d v') ∧ J (fun s => if s = i then true else b s) (fun s => if s = i then dstVal d v' else vs s) w3) : mildM P d q i J b vs r := by
  obtain ⟨v', w3, rfl, h1, h2⟩ := hr
  exact h v' w3 h1 h2
end
theorem wp_region_mixL {P : Program} {a : Act} {w : World} {Q : Exit → Act → World → Prop} {id : Nat} {L : List Oper} {ds : List Nat} (n : Nat) (J : (Nat → Bool) → (Nat → Value) → World → Prop) (dl : List (Option Nat)) (Φ : List (Value → Prop)) (hdl : (L.take n).map (·.dst) = dl) (hds : dstsOf_ (L.take n) = ds) (hm : P.follows .mixedOrders = true)
    (hn : typedB (L.take n) a.tmps.size = true) (ht : tailB (L.take n) (L.drop n) = true) (hob : ObMAll P dl Φ ds a J 0 (L.take n) Φ) (h0 : ∀ v, J (fun _ => false) v w.drew)
    (hQ : ∀ f b w', (∀ i, i < (L.take n).length → b i = true) → J b (valOf dl f) w' → PostO f dl Φ → wpList P L.toArray Q (L.drop n) (fills ds f a) w') : (Code.region id L.toArray true).wp P Q a w :=
  wp_region_mix n J dl Φ hdl hds hm hn ht (fun i o ho => by simpa using obMAll_get _ _ 0 hob i o ho) h0 hQ
end Go.Proofs.Ytpoicbhbkabllaa

namespace Go.Proofs.Ytpoicbhbkabllaa
set_option linter.unusedSimpArgs false
set_option linter.unusedVariables false
open Go.RowKit

abbrev dptr (g : Nat) : Value := .pointer (some ⟨g, 0, none⟩)
set_option maxRecDepth 100000 in
set_option maxHeartbeats 1600000 in
theorem don_any (w : World) (S : Nat → Prop) (g : Nat) (d : DState) (h : DiskAt w S g d) :
    Calls Try.prog 18 #[.pointer (some ⟨g, 0, none⟩)] w fun e w' => e = .returned (.bool (!d.off)) ∧ w = w' := by
  obtain ⟨hb, vw, h1, h2, h3, h4, h5, h6⟩ := h.ex
  have hc := h1.cell 2 _ rfl
  clear h h1 h2 h3
  generalize d.off = b at *
  go_enter Try.func18, Try.ntmps18
  go_wp2_with fail
  go_ret
  exact ⟨rfl, rfl⟩
set_option maxRecDepth 100000 in
set_option maxHeartbeats 1600000 in
theorem dcount_any (w : World) (S : Nat → Prop) (g : Nat) (d : DState) (h : DiskAt w S g d) :
    Calls Try.prog 24 #[.pointer (some ⟨g, 0, none⟩)] w fun e w' => e = .returned (.int .i64 (d.bl.length : Int)) ∧ w = w' := by
  obtain ⟨hb, vw, h1, h2, h3, h4, h5, h6⟩ := h.ex
  have hc := h1.cell 0 _ rfl
  go_enter Try.func24, Try.ntmps24
  go_wp2_with fail
  go_ret
  exact ⟨rfl, rfl⟩
set_option maxRecDepth 100000 in
set_option maxHeartbeats 1600000 in
theorem dwaiting_any (w : World) (S : Nat → Prop) (g : Nat) (d : DState) (h : DiskAt w S g d) :
    Calls Try.prog 21 #[.pointer (some ⟨g, 0, none⟩)] w fun e w' => e = .returned (.int .i64 (d.wt.length : Int)) ∧ w = w' := by
  obtain ⟨hb, vw, h1, h2, h3, h4, h5, h6⟩ := h.ex
  obtain ⟨A, c, rfl, _, _, _⟩ := h3.form'
  have hc := h1.cell 1 _ rfl
  go_enter Try.func21, Try.ntmps21
  go_wp2_with fail
  go_ret
  exact ⟨rfl, rfl⟩
set_option maxRecDepth 100000 in
set_option maxHeartbeats 1600000 in
theorem dthere_any (w : World) (S : Nat → Prop) (g : Nat) (d : DState) (i : Int) (h : DiskAt w S g d) :
    Calls Try.prog 50 #[.pointer (some ⟨g, 0, none⟩), .int .i64 i] w fun e w' => e = .returned (.bool (decide (0 ≤ i) && decide (i < (d.bl.length : Int)))) ∧ w = w' := by
  have hc := dcount_any w S g d h
  have Hc := Lib.hid hc
  clear hc h
  by_cases hi : 0 ≤ i
  · have hd : decide (0 ≤ i) = true := decide_eq_true hi
    have Hd := Lib.hid hd
    clear hi
    go_enter Try.func50, Try.ntmps50
    go_wp2_with fail
    refine Hc.out.mono ?_
    rintro _ _ ⟨rfl, rfl⟩
    go_wp2_with fail
    go_ret
    rw [Hd.out]
    exact ⟨rfl, rfl⟩
  · have hd : decide (0 ≤ i) = false := decide_eq_false hi
    have Hd := Lib.hid hd
    clear hi
    go_enter Try.func50, Try.ntmps50
    go_wp2_with fail
    go_ret
    rw [Hd.out]
    exact ⟨rfl, rfl⟩
set_option maxRecDepth 100000 in
set_option maxHeartbeats 1600000 in
theorem dmay_any (w : World) (S : Nat → Prop) (g : Nat) (d : DState) (i : Int) (h : DiskAt w S g d) :
    Calls Try.prog 42 #[.pointer (some ⟨g, 0, none⟩), .int .i64 i] w fun e w' => e = .returned (.int .i64 (mayE d i)) ∧ w = w' := by
  have Ho := Lib.hid (don_any w S g d h)
  have ht := dthere_any w S g d i h
  clear h
  unfold mayE
  cases hof : d.off with
  | true =>
    rw [hof] at Ho
    clear ht
    go_enter Try.func42, Try.ntmps42
    go_wp2_with fail
    refine Ho.out.mono ?_
    rintro _ _ ⟨rfl, rfl⟩
    go_wp2_with fail
    go_ret
    exact ⟨rfl, rfl⟩
  | false =>
    rw [hof] at Ho
    by_cases hi : 0 ≤ i ∧ i < (d.bl.length : Int)
    · rw [decide_eq_true hi.1, decide_eq_true hi.2] at ht
      have Ht := Lib.hid ht
      rw [if_neg (by simp), if_pos hi]
      clear hi ht
      go_enter Try.func42, Try.ntmps42
      go_wp2_with fail
      refine Ho.out.mono ?_
      rintro _ _ ⟨rfl, rfl⟩
      go_wp2_with fail
      refine Ht.out.mono ?_
      rintro _ _ ⟨rfl, rfl⟩
      go_wp2_with fail
      go_ret
      exact ⟨rfl, rfl⟩
    · have e : (decide (0 ≤ i) && decide (i < (d.bl.length : Int))) = false := by simp only [Bool.and_eq_false_iff, decide_eq_false_iff_not]; omega
      rw [e] at ht
      have Ht := Lib.hid ht
      rw [if_neg (by simp), if_neg hi]
      clear hi ht e
      go_enter Try.func42, Try.ntmps42
      go_wp2_with fail
      refine Ho.out.mono ?_
      rintro _ _ ⟨rfl, rfl⟩
      go_wp2_with fail
      refine Ht.out.mono ?_
      rintro _ _ ⟨rfl, rfl⟩
      go_wp2_with fail
      go_ret
      exact ⟨rfl, rfl⟩
/-- a field of the disk's own is set -/
theorem DiskAt.setOff {w : World} {S : Nat → Prop} {g : Nat} {d : DState} (h : DiskAt w S g d) (b : Bool) : DiskAt (w.setCell ⟨g, 2, none⟩ (.bool b)) S g { d with off := b } := by
  obtain ⟨hb, vw, h1, h2, h3, h4, h5, h6⟩ := h.ex
  exact ⟨⟨hb, vw, h1.put 2 _, h2.other _ _ (fun e => h4 e.symm), h3.keep (gset w ⟨g, 2, none⟩ _) (by cases hv : vw.ownBlock with
    | none => exact .inl rfl
    | some q => exact .inr (fun e => (h6 q hv).1 (by injection e))) (fun k hk => hk.elim), h4, h5, h6⟩, h.here, fun k hk => by simpa [World.setCell] using h.lt k hk, h.wts, h.pos, h.few, h.fuseR⟩
theorem DiskAt.setFuse {w : World} {S : Nat → Prop} {g : Nat} {d : DState} (h : DiskAt w S g d) (n : Int) (hn : -9223372036854775808 ≤ n ∧ n ≤ 9223372036854775807) : DiskAt (w.setCell ⟨g, 3, none⟩ (.int .i64 n)) S g { d with fuse := n } := by
  obtain ⟨hb, vw, h1, h2, h3, h4, h5, h6⟩ := h.ex
  exact ⟨⟨hb, vw, h1.put 3 _, h2.other _ _ (fun e => h4 e.symm), h3.keep (gset w ⟨g, 3, none⟩ _) (by cases hv : vw.ownBlock with
    | none => exact .inl rfl
    | some q => exact .inr (fun e => (h6 q hv).1 (by injection e))) (fun k hk => hk.elim), h4, h5, h6⟩, h.here, fun k hk => by simpa [World.setCell] using h.lt k hk, h.wts, h.pos, h.few, hn⟩
/-- what a deed of the disk's leaves -/
def DPost (w : World) (S : Nat → Prop) (g : Nat) (d' : DState) (w' : World) : Prop := ∃ S', DiskAt w' S' g d' ∧ (∀ k, S' k → S k ∨ w.heap.size ≤ k) ∧ Chg S w w'
theorem DPost.id_ {w : World} {S : Nat → Prop} {g : Nat} {d : DState} (h : DiskAt w S g d) : DPost w S g d w := ⟨S, h, fun k hk => .inl hk, Chg.refl _ _⟩
theorem DPost.trans {a b c : World} {S : Nat → Prop} {g : Nat} {d1 d2 : DState} (h : DPost a S g d1 b) (k : ∀ S', DiskAt b S' g d1 → DPost b S' g d2 c) : DPost a S g d2 c := by
  obtain ⟨S', h1, h2, h3⟩ := h
  obtain ⟨S2, k1, k2, k3⟩ := k S' h1
  refine ⟨S2, k1, fun i hi => ?_, h3.past k3 fun i hi => (h2 i hi).symm⟩
  rcases k2 i hi with h | h
  · exact h2 i h
  · exact .inr (Nat.le_trans h3.size h)
set_option maxRecDepth 100000 in
set_option maxHeartbeats 1600000 in
theorem ddeed_any (w : World) (S : Nat → Prop) (g : Nat) (d : DState) (h : DiskAt w S g d) :
    Calls Try.prog 41 #[.pointer (some ⟨g, 0, none⟩)] w fun e w' => e = .returned (.int .i64 (deedE d)) ∧ DiskAt w' S g (deedD d) ∧ Chg S w w' := by
  obtain ⟨hb, vw, h1, h2, h3, h4, h5, h6⟩ := id h.ex
  have hc := h1.cell 3 _ rfl
  have hf2 := h1.frozen 2
  have hf3 := h1.frozen 3
  have hc2 := h1.cell 2 _ rfl
  have hfr := h.fuseR
  unfold deedE deedD
  by_cases h0 : d.fuse = 0
  · have hd : (d.fuse == 0) = true := by simp [h0]
    have Hh := Lib.hid h
    rw [if_pos h0, if_pos h0]
    clear h0 h hfr h2 h3
    generalize hn : d.fuse = n at *
    have Hn := Lib.hid hn
    clear hn
    go_enter Try.func41, Try.ntmps41
    go_wp2_with fail
    go_ret
    exact ⟨rfl, by rw [← Hn.out]; exact Hh.out.setOff true, Chg.set w _ _ Hh.out.here⟩
  · have hd : (d.fuse == 0) = false := by simpa using h0
    rw [if_neg h0, if_neg h0]
    have Hh := Lib.hid h
    by_cases hp : 0 < d.fuse
    · have hd2 : decide (0 < d.fuse) = true := decide_eq_true hp
      rw [if_pos hp]
      have hw : IntKind.i64.wrap (d.fuse - 1) = d.fuse - 1 := by rw [wrap_i64]; omega
      have hfr2 : -9223372036854775808 ≤ d.fuse - 1 ∧ d.fuse - 1 ≤ 9223372036854775807 := by omega
      have Hfr := Lib.hid hfr2
      clear h0 h h2 h3 hp hfr hfr2
      generalize hn : d.fuse = n at *
      have Hn := Lib.hid hn
      clear hn
      go_enter Try.func41, Try.ntmps41
      go_wp2_with fail
      go_ret
      exact ⟨rfl, Hh.out.setFuse _ Hfr.out, Chg.set w _ _ Hh.out.here⟩
    · have hd2 : decide (0 < d.fuse) = false := decide_eq_false hp
      rw [if_neg hp]
      clear h0 h h2 h3 hp hfr
      generalize hn : d.fuse = n at *
      clear hn
      go_enter Try.func41, Try.ntmps41
      go_wp2_with fail
      go_ret
      exact ⟨rfl, Hh.out, Chg.refl _ _⟩
set_option maxRecDepth 100000 in
set_option maxHeartbeats 1600000 in
theorem dfuse_any (w : World) (S : Nat → Prop) (g : Nat) (d : DState) (n : Int) (hn : -9223372036854775808 ≤ n ∧ n ≤ 9223372036854775807) (h : DiskAt w S g d) :
    Calls Try.prog 14 #[.pointer (some ⟨g, 0, none⟩), .int .i64 n] w fun e w' => e = .returned (.tuple #[]) ∧ DiskAt w' S g { d with fuse := n } ∧ Chg S w w' := by
  obtain ⟨hb, vw, h1, h2, h3, h4, h5, h6⟩ := id h.ex
  have hc := h1.cell 3 _ rfl
  have hf3 := h1.frozen 3
  have Hh := Lib.hid h
  have Hn := Lib.hid hn
  clear h h2 h3 hn
  go_enter Try.func14, Try.ntmps14
  go_wp2_with fail
  go_end0
  exact ⟨rfl, Hh.out.setFuse _ Hn.out, Chg.set w _ _ Hh.out.here⟩
set_option maxRecDepth 100000 in
set_option maxHeartbeats 1600000 in
theorem doff_any (w : World) (S : Nat → Prop) (g : Nat) (d : DState) (h : DiskAt w S g d) :
    Calls Try.prog 26 #[.pointer (some ⟨g, 0, none⟩)] w fun e w' => e = .returned (.tuple #[]) ∧ DiskAt w' S g { d with off := true } ∧ Chg S w w' := by
  obtain ⟨hb, vw, h1, h2, h3, h4, h5, h6⟩ := id h.ex
  have hc := h1.cell 2 _ rfl
  have hf3 := h1.frozen 2
  have Hh := Lib.hid h
  clear h h2 h3
  go_enter Try.func26, Try.ntmps26
  go_wp2_with fail
  go_end0
  exact ⟨rfl, Hh.out.setOff true, Chg.set w _ _ Hh.out.here⟩
end Go.Proofs.Ytpoicbhbkabllaa

namespace Go.Proofs.Ytpoicbhbkabllaa
set_option linter.unusedSimpArgs false
set_option linter.unusedVariables false
open Go.RowKit

theorem fill_whole (n : Nat) (cells : Array Value) (cs : List Value) (hc : cells.size = n) (hn : cs.length = n) : Instr.fill (fun i => some (i * n, n)) cells [(0, .agg cs.toArray)] = some cs.toArray := by
  obtain ⟨g1, g2⟩ := Go.Great.foldl_set (0 * n) cs 0 cells
  unfold Instr.fill
  simp only [Value.cells, List.size_toArray, hn]
  rw [if_neg (by simp; omega)]
  unfold Instr.fill
  congr 1
  apply Array.ext_getElem?
  intro k
  have := g2 k
  have e : (cs.toArray.zipIdx.foldl (fun cs (x : Value × Nat) => cs.setIfInBounds (0 * n + x.2) x.1) cells) = (List.foldl (fun cs (x : Value × Nat) => cs.setIfInBounds (0 * n + x.2) x.1) cells (cs.zipIdx 0)) := by simp
  show (cs.toArray.zipIdx.foldl (fun cs (x : Value × Nat) => cs.setIfInBounds (0 * n + x.2) x.1) cells)[k]? = _
  rw [e, this]
  simp only [Nat.zero_mul, Nat.zero_add, Nat.sub_zero, Nat.zero_le, true_and, List.getElem?_toArray]
  split
  · rfl
  · rw [List.getElem?_eq_none (by omega), Array.getElem?_eq_none (by omega)]
theorem fill_two (n : Nat) (place : Nat → Option (Nat × Nat)) (h0 : place 0 = some (0, 1)) (h1 : place 1 = some (1, n)) (cells : Array Value) (a : Value) (ha : a.cells = #[a]) (cs : List Value) (hc : cells.size = n + 1) (hn : cs.length = n) :
    Instr.fill place cells [(0, a), (1, .agg cs.toArray)] = some (a :: cs).toArray := by
  obtain ⟨g1, g2⟩ := Go.Great.foldl_set 1 cs 0 (cells.setIfInBounds 0 a)
  have hz : (cells.setIfInBounds 0 a).size = n + 1 := by rw [Array.size_setIfInBounds, hc]
  unfold Instr.fill
  simp only [h0, ha, List.size_toArray, List.length_cons, List.length_nil]
  rw [if_neg (by rw [hc]; simp)]
  unfold Instr.fill
  simp only [h1, Value.cells, List.size_toArray, hn]
  rw [if_neg (by simp; omega)]
  unfold Instr.fill
  congr 1
  apply Array.ext_getElem?
  intro k
  have := g2 k
  have e : (cs.toArray.zipIdx.foldl (fun cs (x : Value × Nat) => cs.setIfInBounds (1 + x.2) x.1) (Array.foldl (fun cs (x : Value × Nat) => cs.setIfInBounds (0 + x.2) x.1) cells #[a].zipIdx)) = (List.foldl (fun cs (x : Value × Nat) => cs.setIfInBounds (1 + x.2) x.1) (cells.setIfInBounds 0 a) (cs.zipIdx 0)) := by simp
  show (cs.toArray.zipIdx.foldl (fun cs (x : Value × Nat) => cs.setIfInBounds (1 + x.2) x.1) (Array.foldl (fun cs (x : Value × Nat) => cs.setIfInBounds (0 + x.2) x.1) cells #[a].zipIdx))[k]? = _
  rw [e, this]
  simp only [Nat.add_zero, List.getElem?_toArray, Array.size_setIfInBounds]
  cases k with
  | zero => rw [if_neg (by omega), Array.getElem?_setIfInBounds_self_of_lt (by omega)]; rfl
  | succ k =>
    rw [List.getElem?_cons_succ]
    by_cases hk : k < n
    · rw [if_pos (by omega), Nat.add_sub_cancel]
    · rw [if_neg (by omega), List.getElem?_eq_none (by omega), Array.getElem?_eq_none (by omega)]
theorem fields_write : Try.prog.underlying 88 = some (.struct (Try.prog.fieldsOf 88)) := by kernel_rfl
theorem places_write : (Try.prog.fieldsOf 88).toList.mapM (fun f => (Try.prog.info? f.type).map fun i => (f.offset, i.size)) = some [(0, 1), (1, 128)] := by kernel_rfl
def zeroW : Value := .agg ((.int .i64 0 :: List.replicate 128 (.int .u8 0)).toArray)
theorem info_write : (Try.prog.info? 88).map (fun i => (i.zero, i.size, i.bytes)) = some (some zeroW, 129, 136) := by kernel_rfl
theorem built_write (i : Int) (b : Blk) : Try.prog.built 88 [(0, .int .i64 i), (1, .agg (b8s b.1).toArray)] = some (.int .i64 i :: b8s b.1).toArray := by
  obtain ⟨it, hit, hz0, hz1, hby⟩ := info_parts info_write
  unfold Program.built
  simp only [hit, fields_write, hz0, places_write]
  exact fill_two 128 _ rfl rfl _ _ rfl _ (by simp [zeroW, Value.cells]) (blk_len b)
theorem run_build_write (w : World) (i : Int) (b : Blk) : (Instr.build 88 #[(0, .int .i64 i), (1, .agg (b8s b.1).toArray)]).run Try.prog w = .ok (.agg (.int .i64 i :: b8s b.1).toArray) w :=
  run_build w _ _ _ (built_write i b)
theorem run_slice_write (w : World) (i : Int) (b : Blk) : (Instr.buildSlice 82 1 #[(0, .agg (.int .i64 i :: b8s b.1).toArray)]).run Try.prog w =
    .ok (.slice (some ⟨w.heap.size, 0, none⟩) 1 1) (w.alloc (.cells (.int .i64 i :: b8s b.1).toArray 88)) := by
  obtain ⟨it, hit, hz0, hz1, hby⟩ := info_parts info_write
  have hl := blk_len b
  refine run_buildSlice w _ _ 1 _ _ it zeroW Try.underlying82 hit hz0 (by rw [hz1]; decide) (by rw [hz1]; decide) ?_
  rw [hz1]
  exact fill_whole 129 _ _ (by simp) (by simp [hl])
end Go.Proofs.Ytpoicbhbkabllaa

namespace Go.Proofs.Ytpoicbhbkabllaa
set_option linter.unusedSimpArgs false
set_option linter.unusedVariables false
open Go.RowKit

/-- append(s, x...), s the call's own, x any readable row -/
theorem exec_appR {α : Type} {E : TypeId} {C : Cdc α} {w : World} {base : Nat} {O S : Nat → Prop} {v : Value} {xs : List α} {o : Oper} {ρ : Operand → Value} (s x : Operand) (t : TypeId)
    (ho : o.op = .call { callee := .builtin .append, args := #[s, x], argTypes := #[t, t] })
    (ht : Try.prog.underlying t = some (.slice E)) {z : Value} {bytes : Nat} (hinfo : (Try.prog.info? E).map (fun i => (i.zero, i.size, i.bytes)) = some (some z, C.n, bytes)) (hz2 : z.cells.size = C.n) (hn0 : 0 < C.n) (hb0 : bytes ≤ 256)
    {v2 : Value} {ys : List α} (hown : OwnR E C w base S v xs) (hrd : RowOn C w O S v2 ys) (hs : ρ s = v) (hx : ρ x = v2)
    (hsz : xs.length + ys.length ≤ 549755813888) (hbase : base ≤ w.heap.size) : ∃ v' w', (execOp ρ o).run Try.prog w = .ok (.value v') w' ∧ OwnR E C w' base S v' (xs ++ ys) ∧ Ext w w' v v' := by
  obtain ⟨i, hi, hz0, hz1, hby⟩ := info_parts hinfo
  obtain ⟨css, hl, h2, h3, h4⟩ := hown
  have hcl := OwnR.clen hl h3
  obtain ⟨A, c, rfl, hc1, hc2, hcell⟩ := hrd
  -- the cells of the source
  obtain ⟨dss, hdl, hd3, hdr⟩ : ∃ dss : List (List Value), dss.length = ys.length ∧ (∀ (i : Nat) (cs : List Value) (y : α), dss[i]? = some cs → ys[i]? = some y → C.at_ w S cs y) ∧
      ∃ B, Rd w B C.n A ys.length dss.flatten := by
    rcases Nat.eq_zero_or_pos ys.length with h0 | h0
    · have : ys = [] := List.eq_nil_of_length_eq_zero h0
      subst this
      exact ⟨[], rfl, fun i cs y h => by simp at h, 0, by simp [Rd]⟩
    · obtain ⟨ad, rfl, _, hc⟩ := hcell h0
      have hex : ∀ i : Fin ys.length, ∃ cs, C.at_ w S cs (ys[i.1]'i.2) ∧ ∀ (j : Nat) (u : Value), cs[j]? = some u → w.cell? (ad.add (i.1 * C.n + j)) = some u := fun i => hc i.1 _ (List.getElem?_eq_getElem i.2)
      refine ⟨List.ofFn fun i => (hex i).choose, by simp, ?_, ad.block + 1, ?_⟩
      · intro i cs y hcs hy
        obtain ⟨hi', rfl⟩ := List.getElem?_eq_some_iff.1 hy
        rw [List.getElem?_ofFn, dif_pos hi'] at hcs
        injection hcs with hcs
        rw [← hcs]
        exact (hex ⟨i, hi'⟩).choose_spec.1
      · have hcl2 : ∀ cs ∈ (List.ofFn fun i => (hex i).choose), cs.length = C.n := by
          intro cs hcs
          obtain ⟨i, rfl⟩ := List.mem_ofFn.1 hcs
          exact C.len (hex i).choose_spec.1
        refine ⟨by rw [flat_len C.n _ hcl2]; simp, fun _ => ⟨ad, rfl, Nat.lt_succ_self _, fun j u hu => ?_⟩⟩
        have hj : j < ys.length * C.n := by
          have := (List.getElem?_eq_some_iff.1 hu).1
          rw [flat_len C.n _ hcl2] at this
          simpa using this
        have hi' : j / C.n < ys.length := Nat.div_lt_of_lt_mul (by rw [Nat.mul_comm]; exact hj)
        have hj2 : j % C.n < C.n := Nat.mod_lt _ hn0
        have hdm : j / C.n * C.n + j % C.n = j := by rw [Nat.mul_comm]; exact Nat.div_add_mod j C.n
        have := flat_get C.n _ hcl2 (j / C.n) (hex ⟨j / C.n, hi'⟩).choose (j % C.n) (by rw [List.getElem?_ofFn, dif_pos hi']) hj2
        rw [hdm, hu] at this
        have := (hex ⟨j / C.n, hi'⟩).choose_spec.2 (j % C.n) u this.symm
        rwa [hdm] at this
  obtain ⟨B, hrd⟩ := hdr
  have hcl2 := OwnR.clen hdl hd3
  obtain ⟨v', w', hr, g2, g3, g5⟩ := run_append_rd (P := Try.prog) w base t o.type E i z C.n bytes ht hi hz0 hz1 hby hz2 hn0 v xs.length css.flatten h2 B A ys.length c dss.flatten hrd (by
      intro u hu
      obtain ⟨cs, hcs, hu⟩ := List.mem_flatten.1 hu
      obtain ⟨i, hi', rfl⟩ := List.mem_iff_getElem.1 hcs
      exact C.one (hd3 i _ (ys[i]'(by omega)) (List.getElem?_eq_getElem hi') (List.getElem?_eq_getElem (by omega))) u hu)
    (by unfold maxLen; omega) (by
      calc (xs.length + ys.length) * bytes ≤ 549755813888 * 256 := Nat.mul_le_mul hsz hb0
        _ ≤ _ := by decide) hbase
  have hSame : ∀ p : Addr, S p.block → w'.cell? p = w.cell? p := fun p hp => World.cell?_of_block (g3.block p.block (h4 _ hp).1 (fun e => (h4 _ hp).2 e.symm))
  refine ⟨v', w', ?_, ⟨css ++ dss, by simp [hl, hdl], by rw [List.length_append, List.flatten_append]; exact g2, ?_, ?_⟩, ⟨g3, ?_⟩⟩
  · unfold execOp
    simp only [ho, resolve, invoke, builtin, Sem.run_bind, Sem.run_pure, Result.andThen_ok, List.map_toArray, List.map_cons, List.map_nil, hs, hx, hr]
  · intro j cs x hc hx'
    refine C.keep ?_ hSame
    rcases Nat.lt_or_ge j xs.length with hj | hj
    · rw [List.getElem?_append_left (by omega)] at hc
      rw [List.getElem?_append_left hj] at hx'
      exact h3 j cs x hc hx'
    · rw [List.getElem?_append_right (by omega)] at hc
      rw [List.getElem?_append_right hj, ← hl] at hx'
      exact hd3 _ cs x hc hx'
  · intro k hk
    refine ⟨Nat.lt_of_lt_of_le (h4 k hk).1 g3.size, ?_⟩
    rcases g5 with g5 | g5
    · rw [g5]; exact (h4 k hk).2
    · rw [g5]; intro e; injection e with e; have := (h4 k hk).1; omega
  · rcases g5 with g5 | g5
    · exact .inl g5
    · exact .inr fun k hk => by rw [g5] at hk; injection hk with hk; omega

/-- append(s, y), one thing -/
theorem exec_app1R {α : Type} {E : TypeId} {C : Cdc α} {S : Nat → Prop} {o : Oper} {ρ : Operand → Value} {w : World} (s x : Operand) (t : TypeId)
    (ho : o.op = .call { callee := .builtin .append, args := #[s, x], argTypes := #[t, t] })
    (ht : Try.prog.underlying t = some (.slice E)) {z : Value} {bytes : Nat} (hinfo : (Try.prog.info? E).map (fun i => (i.zero, i.size, i.bytes)) = some (some z, C.n, bytes)) (hz2 : z.cells.size = C.n) (hn0 : 0 < C.n) (hb0 : bytes ≤ 256)
    {base : Nat} {v : Value} {xs : List α} {y : α} (cs : List Value) (hown : OwnR E C w base S v xs) (hy : C.at_ w S cs y) (hs : ρ s = v) (hx : ρ x = .slice (some ⟨w.heap.size, 0, none⟩) 1 1)
    (hsz : xs.length ≤ 549755813887) (hbase : base ≤ w.heap.size) : ∃ v' w', (execOp ρ o).run Try.prog (w.alloc (.cells cs.toArray E)) = .ok (.value v') w' ∧ OwnR E C w' base S v' (xs ++ [y]) ∧ Ext w w' v v' := by
  have hS : ∀ k, S k → k < w.heap.size := by obtain ⟨_, _, _, _, h4⟩ := hown; exact fun k hk => (h4 k hk).1
  have hrow : RowOn C (w.alloc (.cells cs.toArray E)) (fun k => k < w.heap.size + 1) S (.slice (some ⟨w.heap.size, 0, none⟩) 1 1) [y] := by
    refine ⟨_, 1, rfl, Nat.le_refl _, by simp [maxLen], fun _ => ⟨_, rfl, Nat.lt_succ_self _, fun i y' hi => ?_⟩⟩
    match i, hi with
    | 0, hi =>
      injection hi with hi
      subst hi
      refine ⟨cs, C.keep hy fun p hp => World.cell?_alloc_lt w _ p (hS _ hp), fun j u hu => ?_⟩
      rw [Nat.zero_mul, Nat.zero_add]
      exact World.news_of_block (heap_alloc_new w _) j u (by simpa using hu)
    | i + 1, hi => simp at hi
  obtain ⟨v', w', hr, h1, h2⟩ := exec_appR s x t ho ht hinfo hz2 hn0 hb0 (hown.alloc _) hrow hs hx (by simp; omega) (by simp; omega)
  exact ⟨v', w', hr, h1, h2.after (balloc w _) v rfl⟩
/-- a row of bytes, as an array's cells -/
theorem rowOn_load {w : World} {O S : Nat → Prop} {ad : Addr} {n c : Nat} {l : List UInt8} (h : RowOn c8 w O S (.slice (some ad) n c) l) : ∀ (j : Nat) (v : Value), (b8s l)[j]? = some v → w.cell? (ad.add j) = some v := by
  intro j v hv
  have hv' : (l[j]?).map b8 = some v := by rw [← hv]; simp [b8s]
  obtain ⟨x, hx, rfl⟩ := Option.map_eq_some_iff.1 hv'
  obtain ⟨ad', cs, e, _, ⟨rfl, _⟩, hc⟩ := h.at_ j x hx
  injection e with e
  subst e
  have := hc 0 _ rfl
  simpa [c8, Cdc.flat] using this
end Go.Proofs.Ytpoicbhbkabllaa

namespace Go.Proofs.Ytpoicbhbkabllaa
set_option linter.unusedSimpArgs false
set_option linter.unusedVariables false
open Go.RowKit

/-- bytes that lie outside S -/
abbrev BX (w : World) (S : Nat → Prop) (v : Value) (l : List UInt8) : Prop := RowOn c8 w (fun k => k < w.heap.size ∧ ¬ S k) (fun _ => True) v l
theorem BX.chg {w w' : World} {S : Nat → Prop} {v : Value} {l : List UInt8} (h : BX w S v l) (hc : Chg S w w') : BX w' S v l := by
  obtain ⟨A, c, h1, h2, h3, h4⟩ := h
  refine ⟨A, c, h1, h2, h3, fun hn => ?_⟩
  obtain ⟨ad, e, hb, hcc⟩ := h4 hn
  refine ⟨ad, e, ⟨Nat.lt_of_lt_of_le hb.1 hc.size, hb.2⟩, fun i x hx => ?_⟩
  obtain ⟨cs, ha, hcs⟩ := hcc i x hx
  exact ⟨cs, ha, fun j u hu => (World.cell?_of_block (hc.block _ (by rw [add_block]; exact hb.1) (by rw [add_block]; exact hb.2))).trans (hcs j u hu)⟩
theorem BX.grown {w w' : World} {S : Nat → Prop} {v : Value} {l : List UInt8} {row : Option Nat} (h : BX w S v l) (hg : w.grownBy w' row) (hr : ∀ k, row = some k → w.heap.size ≤ k ∨ S k) : BX w' S v l :=
  h.chg ⟨hg.os, hg.tape, hg.output, hg.size, fun k hk hn => hg.block k hk fun e => by rcases hr k e.symm with h | h; omega; exact hn h⟩
theorem BX.form {w : World} {S : Nat → Prop} {v : Value} {l : List UInt8} (h : BX w S v l) : ∃ A c, v = .slice A l.length c ∧ l.length ≤ c ∧ c ≤ maxLen := RowOn.form h

theorem DPost.pre {w w2 w' : World} {S : Nat → Prop} {g : Nat} {d : DState} (hc : Chg S w w2) (h : DPost w2 S g d w') : DPost w S g d w' := by
  obtain ⟨S', h1, h2, h3⟩ := h
  exact ⟨S', h1, fun k hk => (h2 k hk).imp id fun h => Nat.le_trans hc.size h, hc.trans h3⟩
theorem DiskAt.pushed {w2 w3 : World} {S : Nat → Prop} {g hb : Nat} {d1 : DState} {vw v34 : Value} (H : DiskAt w2 S g d1) (h1 : BoxAt 84 w2 g [.slice (some ⟨hb, 0, none⟩) d1.bl.length d1.bl.length, vw, .bool d1.off, .int .i64 d1.fuse])
    (h2 : BoxAt 86 w2 hb (flatB d1.bl)) (h3 : OwnF 88 cWt w2 0 vw d1.wt) (h4 : hb ≠ g) (h5 : S hb) (h6 : ∀ q, vw.ownBlock = some q → q ≠ g ∧ q ≠ hb ∧ S q) (k : Nat) (hk : k < d1.bl.length) (bk : Blk)
    (j7 : OwnF 88 cWt w3 0 v34 (d1.wt ++ [(k, bk)])) (j8 : Ext w2 w3 vw v34) (j1 : BoxAt 84 w3 g [.slice (some ⟨hb, 0, none⟩) d1.bl.length d1.bl.length, vw, .bool d1.off, .int .i64 d1.fuse]) :
    DPost w2 S g { d1 with wt := d1.wt ++ [(k, bk)] } (w3.setCell ⟨g, 1, none⟩ v34) := by
  have hg := h1.lt
  have hhb := h2.lt
  have hne : ∀ q, v34.ownBlock = some q → q ≠ g ∧ q ≠ hb ∧ (S q ∨ w2.heap.size ≤ q) := fun q hq => by
    rcases j8.at_ with e | e
    · rw [e] at hq
      exact ⟨(h6 q hq).1, (h6 q hq).2.1, .inl (h6 q hq).2.2⟩
    · have := e q hq
      exact ⟨by omega, by omega, .inr this⟩
  have h2' := h2.grown j8.gr (fun e => (h6 _ e).2.1 rfl)
  refine ⟨fun q => S q ∨ v34.ownBlock = some q, ⟨⟨hb, v34, j1.put 1 _, h2'.other _ _ (fun e => h4 e.symm), j7.keep (gset w3 ⟨g, 1, none⟩ _) (by
      cases hv : v34.ownBlock with
      | none => exact .inl rfl
      | some q => exact .inr (fun e => (hne q hv).1 (by injection e))) (fun k hk => hk.elim), h4, .inl h5, fun q hq => ⟨(hne q hq).1, (hne q hq).2.1, .inr hq⟩⟩, .inl H.here, fun q hq => ?_, fun x hx => ?_, H.pos, H.few, H.fuseR⟩, fun q hq => ?_, ?_⟩
  · have hs : (w3.setCell ⟨g, 1, none⟩ v34).heap.size = w3.heap.size := by simp [World.setCell]
    rw [hs]
    rcases hq with hq | hq
    · exact Nat.lt_of_lt_of_le (H.lt q hq) j8.gr.size
    · exact (j7.blk q hq).2
  · rw [List.mem_append, List.mem_singleton] at hx
    rcases hx with hx | rfl
    · exact H.wts x hx
    · exact hk
  · rcases hq with hq | hq
    · exact .inl hq
    · exact (hne q hq).2.2
  · exact (Chg.ofGrown j8.gr fun q hq => (h6 q hq).2.2).trans (Chg.set w3 _ _ H.here)

set_option maxRecDepth 100000 in
set_option maxHeartbeats 3200000 in
theorem dwrite_any (w : World) (S : Nat → Prop) (g : Nat) (d : DState) (i : Int) (v : Value) (b : List UInt8) (hw : d.wt.length ≤ 1000000) (h : DiskAt w S g d) (hv : BX w S v b) :
    Calls Try.prog 16 #[.pointer (some ⟨g, 0, none⟩), .int .i64 i, v] w fun e w' => e = .returned (.int .i64 (writeE d i b)) ∧ DPost w S g (writeD d i b) w' := by
  obtain ⟨A, c, rfl, hc1, hc2⟩ := hv.form
  unfold maxLen at hc2
  have hmay := dmay_any w S g d i h
  have hdeed := ddeed_any w S g d h
  have H := Lib.hid h
  have Hv := Lib.hid hv
  have Hdeed := Lib.hid hdeed
  clear h hv hdeed
  unfold writeE writeD
  by_cases hm : mayE d i ≠ 0
  · rw [if_pos hm, if_pos hm]
    have hd : (mayE d i == 0) = false := by simpa using hm
    clear hm
    generalize mayE d i = me at *
    go_enter Try.func16, Try.ntmps16
    go_wp2_with fail
    refine hmay.mono ?_
    rintro _ _ ⟨rfl, rfl⟩
    go_wp2_with fail
    go_ret
    exact ⟨rfl, DPost.id_ H.out⟩
  · rw [if_neg hm, if_neg hm]
    have hm0 : mayE d i = 0 := by simpa using hm
    rw [hm0] at hmay
    by_cases hb : b.length = 128
    · rw [if_neg (by simpa using hb), dif_pos hb]
      have hd : ((b.length : Int) == 128) = true := by simp [hb]
      by_cases hde : deedE d ≠ 0
      · rw [if_pos hde]
        have hd2 : (deedE d == 0) = false := by simpa using hde
        clear hde hm hm0
        generalize deedE d = de at *
        rw [hb] at *
        go_enter Try.func16, Try.ntmps16
        go_wp2_with fail
        refine hmay.mono ?_
        rintro _ _ ⟨rfl, rfl⟩
        go_wp2_with fail
        refine Hdeed.out.mono ?_
        rintro _ w2 ⟨rfl, hd3, hch⟩
        go_wp2_with fail
        go_ret
        exact ⟨rfl, S, hd3, fun k hk => .inl hk, hch⟩
      · rw [if_neg hde]
        have hde0 : deedE d = 0 := by simpa using hde
        rw [hde0] at Hdeed ⊢
        have hi : 0 ≤ i ∧ i < (d.bl.length : Int) := by
          unfold mayE at hm0
          split at hm0
          · cases hm0
          · split at hm0
            · assumption
            · cases hm0
        obtain ⟨k, rfl⟩ : ∃ k : Nat, i = (k : Int) := ⟨i.toNat, by omega⟩
        have hki : k < d.bl.length := by omega
        clear hde hde0 hm hm0
        rw [hb] at *
        rw [Int.toNat_natCast]
        have HB := Lib.hid hb
        clear hb hi
        go_enter Try.func16, Try.ntmps16
        go_wp2_with fail
        refine hmay.mono ?_
        rintro _ _ ⟨rfl, rfl⟩
        go_wp2_with fail
        refine Hdeed.out.mono ?_
        rintro _ w2 ⟨rfl, hd3, hch⟩
        go_wp2_with fail
        have hv2 := Hv.out.chg hch
        have hwt2 := deedD_wt d
        have hbl2 := deedD_bl d
        obtain ⟨d1, hd1⟩ : ∃ d1, d1 = deedD d := ⟨_, rfl⟩
        have Hd1 := Lib.hid hd1
        have Hwt2 := Lib.hid hwt2
        rw [← hd1] at hd3 hwt2 hbl2
        clear hd1
        have hw1 : d1.wt.length ≤ 1000000 := by rw [hwt2]; exact hw
        have hk1 : k < d1.bl.length := by rw [hbl2]; exact hki
        have hlb : b.length = 128 := by assumption
        obtain ⟨ad, rfl⟩ : ∃ ad, A = some ad := by
          obtain ⟨ad, cs, e, _⟩ := hv2.at_ 0 (b[0]'(by omega)) (List.getElem?_eq_getElem (by omega))
          exact ⟨ad, e⟩
        have Hch := Lib.hid hch
        have H3 := Lib.hid hd3
        obtain ⟨hb, vw, h1, h2, h3, h4, h5, h6⟩ := hd3.ex
        obtain ⟨bk, hbk⟩ : ∃ bk : Blk, bk = ⟨b, hlb⟩ := ⟨_, rfl⟩
        have hbk1 : bk.1 = b := by rw [hbk]
        have Hbk := Lib.hid hbk
        rw [← hbk1] at hv2
        have Hbk2 := Lib.hid hbk
        have hlk := bk.2
        rw [hlk] at hv2
        clear hmay Hdeed H Hv hlk hch hd3 hbk hbk1 hwt2 hbl2
        refine wp_region_mixL (ds := [23, 24, 25, 26, 27, 28, 29, 30, 31, 32, 33, 34, 35, 36]) 14
          (fun bb vs W' => BoxAt 84 W' g [.slice (some ⟨hb, 0, none⟩) d1.bl.length d1.bl.length, vw, .bool d1.off, .int .i64 d1.fuse] ∧ BX W' S (.slice (some ad) 128 c) bk.1 ∧ (bb 11 = true → bb 10 = true) ∧
            (bb 10 = false → W' = w2.drew) ∧ (bb 10 = true → bb 11 = false → W' = w2.drew.alloc (.cells (.int .i64 (k : Int) :: b8s bk.1).toArray 88) ∧ vs 10 = .slice (some ⟨w2.heap.size, 0, none⟩) 1 1) ∧
            (bb 11 = true → OwnF 88 cWt W' 0 (vs 11) (d1.wt ++ [(k, bk)]) ∧ Ext w2 W' vw (vs 11)))
          [some 23, some 24, some 25, some 26, some 27, some 28, some 29, some 30, some 31, some 32, some 33, some 34, some 35, some 36]
          [fun v => v = .pointer (some ⟨g, 0, none⟩), fun v => v = .pointer (some ⟨g, 0, none⟩), fun v => v = .pointer (some ⟨g, 0, none⟩), fun v => v = .pointer (some ⟨g, 1, none⟩), fun v => v = vw, fun v => v = .int .i64 (k : Int), fun v => v = .slice (some ad) 128 c,
            fun v => v = .pointer (some ad), fun v => v = .agg (b8s bk.1).toArray, fun v => v = .agg (.int .i64 (k : Int) :: b8s bk.1).toArray, fun _ => True, fun _ => True, fun v => v = .pointer (some ⟨g, 0, none⟩), fun v => v = .pointer (some ⟨g, 1, none⟩)]
          rfl rfl rfl (by kernel_rfl) (by kernel_rfl) ?_ ?_ ?_
        · refine ⟨?_, ?_, ?_, ?_, ?_, ?_, ?_, ?_, ?_, ?_, ?_, ?_, ?_, ?_, trivial⟩
          · refine obM_yes fun f bb w' hj hs hd hp => ?_
            simp [PreO, factO, valOf, Region.binds] at hp hd
            refine ⟨by simp [Gd, valOf, hp], ?_⟩
            refine mildM_val (.pointer (some ⟨g, 0, none⟩)) ?_ rfl (by simpa using hj)
            simp [execOp, evalF, hp]
          · refine obM_yes fun f bb w' hj hs hd hp => ?_
            simp [PreO, factO, valOf, Region.binds] at hp hd
            refine ⟨by simp [Gd, valOf, hp], ?_⟩
            refine mildM_val (.pointer (some ⟨g, 0, none⟩)) ?_ rfl (by simpa using hj)
            simp [execOp, evalF, hp]
          · refine obM_yes fun f bb w' hj hs hd hp => ?_
            simp [PreO, factO, valOf, Region.binds] at hp hd
            refine ⟨by simp [Gd, valOf, hp], ?_⟩
            refine mildM_val (.pointer (some ⟨g, 0, none⟩)) ?_ rfl (by simpa using hj)
            simp [execOp, evalF, hp, go_sem]
          · refine obM_yes fun f bb w' hj hs hd hp => ?_
            simp [PreO, factO, valOf, Region.binds] at hp hd
            refine ⟨by simp [Gd, valOf, hp], ?_⟩
            refine mildM_val (.pointer (some ⟨g, 1, none⟩)) ?_ rfl (by simpa using hj)
            simp [execOp, evalF, hp, go_sem]
          · refine obM_yes fun f bb w' hj hs hd hp => ?_
            simp [PreO, factO, valOf, Region.binds] at hp hd
            refine ⟨by simp [Gd, valOf, hp], ?_⟩
            have hc := hj.1.cell 1 _ rfl
            refine mildM_val (vw) ?_ rfl (by simpa using hj)
            simp [execOp, evalF, hp, hc, go_sem]
          · refine obM_yes fun f bb w' hj hs hd hp => ?_
            simp [PreO, factO, valOf, Region.binds] at hp hd
            refine ⟨by simp [Gd, valOf, hp], ?_⟩
            refine mildM_val (.int .i64 (k : Int)) ?_ rfl (by simpa using hj)
            simp [execOp, evalF, hp]
          · refine obM_yes fun f bb w' hj hs hd hp => ?_
            simp [PreO, factO, valOf, Region.binds] at hp hd
            refine ⟨by simp [Gd, valOf, hp], ?_⟩
            refine mildM_val (.slice (some ad) 128 c) ?_ rfl (by simpa using hj)
            simp [execOp, evalF, hp]
          · refine obM_yes fun f bb w' hj hs hd hp => ?_
            simp [PreO, factO, valOf, Region.binds] at hp hd
            refine ⟨by simp [Gd, valOf, hp], ?_⟩
            have hat : (Instr.arrayAt 86 (.slice (some ad) 128 c)).run Try.prog w' = .ok (.pointer (some ad)) w' := by
              unfold Instr.arrayAt
              simp [Sem.run_bind, run_underlying Try.underlying86]
            refine mildM_val (.pointer (some ad)) ?_ rfl (by simpa using hj)
            simp [execOp, evalF, hp, go_sem, hat]
          · refine obM_yes fun f bb w' hj hs hd hp => ?_
            simp [PreO, factO, valOf, Region.binds] at hp hd
            refine ⟨by simp [Gd, valOf, hp], ?_⟩
            have hl := run_loadVar_cells w' ad 86 (b8s bk.1) (rowOn_load hj.2.1) Try.underlying86 rfl (by rw [blk_len]; kernel_rfl)
            refine mildM_val (.agg (b8s bk.1).toArray) ?_ rfl (by simpa using hj)
            simp only [execOp, evalF, List.contains_eq_mem, Instr.loadAt, Instr.sureAddr, Sem.run_bind, Sem.run_pure, Result.andThen_ok]
            simp [hp, hl]
          · refine obM_yes fun f bb w' hj hs hd hp => ?_
            simp [PreO, factO, valOf, Region.binds] at hp hd
            refine ⟨by simp [Gd, valOf, hp], ?_⟩
            refine mildM_val (.agg (.int .i64 (k : Int) :: b8s bk.1).toArray) ?_ rfl (by simpa using hj)
            simp only [execOp]
            simp [evalF, hp, run_build_write]
          · refine obM_yes fun f bb w' hj hs hd hp => ?_
            simp [PreO, factO, valOf, Region.binds] at hp hd
            refine ⟨by simp [Gd, valOf, hp], ?_⟩
            obtain ⟨j1, j2, j3, j4, j5, j6⟩ := hj
            have h11 : bb 11 = false := by cases hx : bb 11 with | false => rfl | true => rw [j3 hx] at hs; cases hs
            have hw' := j4 hs
            subst hw'
            refine mildM_val (.slice (some ⟨w2.heap.size, 0, none⟩) 1 1) (w' := w2.drew.alloc (.cells (.int .i64 (k : Int) :: b8s bk.1).toArray 88)) ?_ trivial ?_
            · simp only [execOp]
              simp [evalF, hp, run_slice_write]
            · refine ⟨j1.alloc _, j2.chg (Chg.ofBelow (balloc _ _)), by simp, by simp, fun _ _ => ⟨rfl, rfl⟩, by simp [h11]⟩
          · refine obM_yes fun f bb w' hj hs hd hp => ?_
            simp [PreO, factO, valOf, Region.binds] at hp hd
            refine ⟨by simp [Gd, valOf, hp], ?_⟩
            obtain ⟨j1, j2, j3, j4, j5, j6⟩ := hj
            have h10 : bb 10 = true := by simpa using hd.2
            obtain ⟨hw', hv10⟩ := j5 h10 hs
            subst hw'
            have hsz : w2.drew.heap.size = w2.heap.size := rfl
            have ho : OwnF 88 cWt w2.drew 0 vw d1.wt := h3.below_ (Below.refl _ w2).drew
            refine mildM_ex (exec_app1R (C := cWt) (.tmp 27) (.tmp 33) 82 rfl Try.underlying82 info_write (by kernel_rfl) (by decide) (by decide) (.int .i64 (k : Int) :: b8s bk.1) ho (y := (k, bk)) ⟨rfl, trivial⟩ (by simp [evalF, hp]) (by simpa [evalF, valOf] using hv10) (by omega) (Nat.zero_le _)) ?_
            intro v' w3 g1 g2
            have g3 : Ext w2 w3 vw v' := ((Ext.refl w2 vw).then_ (Below.refl _ w2).drew).trans g2
            refine ⟨trivial, h1.grown g3.gr (fun e => (h6 _ e).1 rfl), hv2.chg (Chg.ofGrown g3.gr fun q hq => (h6 q hq).2.2), by simp [h10], by simp [h10], by simp, fun _ => ⟨g1, g3⟩⟩
          · refine obM_yes fun f bb w' hj hs hd hp => ?_
            simp [PreO, factO, valOf, Region.binds] at hp hd
            refine ⟨by simp [Gd, valOf, hp], ?_⟩
            refine mildM_val (.pointer (some ⟨g, 0, none⟩)) ?_ rfl (by simpa using hj)
            simp [execOp, evalF, hp, go_sem]
          · refine obM_yes fun f bb w' hj hs hd hp => ?_
            simp [PreO, factO, valOf, Region.binds] at hp hd
            refine ⟨by simp [Gd, valOf, hp], ?_⟩
            refine mildM_val (.pointer (some ⟨g, 1, none⟩)) ?_ rfl (by simpa using hj)
            simp [execOp, evalF, hp, go_sem]
        · intro _
          exact ⟨h1, hv2, by simp, by simp, by simp, by simp⟩
        · intro f bb w3 hall hj hp
          have hb11 := hall 11 (by decide)
          clear hall
          simp only [PostO] at hp
          obtain ⟨e0, e1, e2, e3, e4, e5, e6, e7, e8, e9, _, _, e12, e13, _⟩ := hp
          obtain ⟨j1, j2, _, _, _, j6⟩ := hj
          obtain ⟨j7, j8⟩ := j6 hb11
          simp only [valOf, List.getElem?_cons_succ, List.getElem?_cons_zero] at j7 j8
          simp only [fills, List.foldl_cons, List.foldl_nil, Act.put, List.setIfInBounds_toArray, List.set_cons_zero, List.set_cons_succ, e0, e1, e2, e3, e4, e5, e6, e7, e8, e9, e12, e13]
          clear e0 e1 e2 e3 e4 e5 e6 e7 e8 e9 e12 e13
          generalize f 34 = v34 at *
          generalize f 33 = v33 at *
          simp only [List.drop_succ_cons, List.drop_zero]
          have jf := j1.frozen 1
          have jc := j1.cell 1 _ rfl
          obtain ⟨A34, c34, hv34, _, _, _⟩ := j7.form'
          go_wp2_with fail
          go_ret
          rw [← Hwt2.out, ← Hd1.out]
          refine ⟨rfl, DPost.pre Hch.out ?_⟩
          have := DiskAt.pushed H3.out h1 h2 h3 h4 h5 h6 k hk1 bk j7 j8 j1
          rw [hv34, List.length_append, List.length_singleton, Hbk2.out] at this
          exact this
    · rw [if_pos hb, dif_neg hb]
      have hd : ((b.length : Int) == 128) = false := beq_eq_false_iff_ne.2 (by omega)
      have hd1 : (b.length == 128) = false := beq_eq_false_iff_ne.2 hb
      clear hm hm0 hb
      go_enter Try.func16, Try.ntmps16
      go_wp2_with fail
      refine hmay.mono ?_
      rintro _ _ ⟨rfl, rfl⟩
      go_wp2_with fail
      go_ret
      exact ⟨rfl, DPost.id_ H.out⟩
end Go.Proofs.Ytpoicbhbkabllaa

namespace Go.Proofs.Ytpoicbhbkabllaa
set_option linter.unusedSimpArgs false
set_option linter.unusedVariables false
open Go.RowKit

theorem wpList_alloc_z {ops : Array Oper} {rest : List Oper} {o : Oper} {a : Act} {w : World} {Q : Exit → Act → World → Prop} (hgd : o.guard = none) (T : TypeId) (ho : o.op = .alloc T) {z : Value} {n bytes : Nat}
    (hinfo : (Try.prog.info? T).map (fun i => (i.zero, i.size, i.bytes)) = some (some z, n, bytes)) (cs : List Value) (hz : z.cells = cs.toArray)
    (h : wpList Try.prog ops Q rest (a.put o.dst (.pointer (some ⟨w.heap.size, 0, none⟩))) (w.alloc (.cells cs.toArray T))) : wpList Try.prog ops Q (o :: rest) a w :=
  wpList_plain hgd fun K hK => by
    obtain ⟨i, hi, hz0, hz1, hby⟩ := info_parts hinfo
    have hr : (Instr.alloc T true (.tuple #[])).run Try.prog w = .ok (.pointer (some ⟨w.heap.size, 0, none⟩)) (w.alloc (.cells cs.toArray T)) := by
      simp [Instr.alloc, Sem.run_bind, zeroValue, typeInfo, hi, hz0, newVar, newRow, hz]
    unfold Oper.wp execOp
    simp only [ho, Sem.run_bind, hr, Result.andThen_ok]
    exact hK _ _ h
theorem wpList_store_new {ops : Array Oper} {rest : List Oper} {o : Oper} {a : Act} {w : World} {Q : Exit → Act → World → Prop} (hgd : o.guard = none) (T : TypeId) (x y : Operand) (ho : o.op = .store T x y)
    (cs ds : List Value) (hx : a.eval x = .pointer (some ⟨w.heap.size, 0, none⟩)) (hy : a.eval y = .agg ds.toArray) (hi : (Try.prog.info? T).map (·.size) = some ds.length) (hl : cs.length = ds.length) (h1 : ∀ u ∈ ds, u.oneCell' = true)
    (h : wpList Try.prog ops Q rest (a.put o.dst undef) (w.alloc (.cells ds.toArray T))) : wpList Try.prog ops Q (o :: rest) a (w.alloc (.cells cs.toArray T)) :=
  wpList_plain hgd fun K hK => by
    unfold Oper.wp execOp
    simp only [ho, hx, hy, Instr.storeAt, Instr.sureAddr, Sem.run_bind, Sem.run_pure, Result.andThen_ok, run_storeVar_new w T cs.toArray ds.toArray (by simpa using hi) (by simpa using hl) (all_oneCell_toArray h1)]
    exact hK _ _ h
def zeroWc : List Value := .int .i64 0 :: List.replicate 128 (.int .u8 0)
theorem zeroW_cells : zeroW.cells = zeroWc.toArray := rfl
def encW (x : Wt) : List Value := .int .i64 (x.1 : Int) :: b8s x.2.1
theorem encW_len (x : Wt) : (encW x).length = 129 := by simp [encW, blk_len]
theorem encW_one (x : Wt) : ∀ u ∈ encW x, u.oneCell' = true := fun u hu => by
  rcases List.mem_cons.1 hu with rfl | hu
  · rfl
  · obtain ⟨b, _, rfl⟩ := List.mem_map.1 hu; rfl
theorem encW_at {w : World} {g : Nat} {x : Wt} (h : BoxAt 88 w g (encW x)) : ∀ (j : Nat) (v : Value), (b8s x.2.1)[j]? = some v → w.cell? ((⟨g, 1, none⟩ : Addr).add j) = some v := fun j v hv => by
  rw [Addr.add_mid, Nat.add_comm 1 j]
  exact h.cell (j + 1) v (by simpa [encW] using hv)
/-- the cells of the k-th that waits -/
theorem wt_load {w : World} {O S : Nat → Prop} {A : Option Addr} {n c : Nat} {l : List Wt} (h : RowOn cWt w O S (.slice A n c) l) (k : Nat) (hk : k < l.length) : ∃ ad, A = some ad ∧ ∀ (j : Nat) (v : Value), (encW (l[k]))[j]? = some v → w.cell? ((ad.add (k * 129)).add j) = some v := by
  obtain ⟨ad, cs, e, _, ⟨rfl, _⟩, hc⟩ := h.at_ k _ (List.getElem?_eq_getElem hk)
  exact ⟨ad, e, fun j v hv => by rw [add_add]; exact hc j v hv⟩
theorem flatB_there {w : World} {hb : Nat} {bl : List Blk} (h : BoxAt 86 w hb (flatB bl)) (i o n : Nat) (hi : i < bl.length) (ho : o + n ≤ 128) : w.there hb (i * 128 + o) n := fun j hj => by
  have hl : i * 128 + o + j < (flatB bl).length := by rw [flatB_len]; omega
  exact ⟨by rw [h.cell _ _ (List.getElem?_eq_getElem hl)]; rfl, h.frozen _⟩
theorem DiskAt.nilW {w' : World} {S : Nat → Prop} {g hb n : Nat} (d' : DState) (hwt : d'.wt = []) (h1 : BoxAt 84 w' g [.slice (some ⟨hb, 0, none⟩) n n, .slice none 0 0, .bool d'.off, .int .i64 d'.fuse]) (hn : n = d'.bl.length)
    (h2 : BoxAt 86 w' hb (flatB d'.bl)) (h4 : hb ≠ g) (h5 : S hb) (hg : S g) (hlt : ∀ k, S k → k < w'.heap.size) (hp : 0 < d'.bl.length) (hf : d'.bl.length ≤ 65536) (hfu : -9223372036854775808 ≤ d'.fuse ∧ d'.fuse ≤ 9223372036854775807) : DiskAt w' S g d' := by
  subst hn
  exact ⟨⟨hb, .slice none 0 0, h1, h2, by rw [hwt]; exact OwnF.nil_ _ _, h4, h5, fun q hq => by simp [Value.ownBlock] at hq⟩, hg, hlt, fun x hx => by rw [hwt] at hx; simp at hx, hp, hf, hfu⟩

set_option maxRecDepth 100000 in
set_option maxHeartbeats 3200000 in
theorem dsync_any (w : World) (S : Nat → Prop) (g : Nat) (d : DState) (hw : d.wt.length ≤ 1000000) (h : DiskAt w S g d) :
    Calls Try.prog 15 #[.pointer (some ⟨g, 0, none⟩)] w fun e w' => e = .returned (.int .i64 (syncE d)) ∧ DPost w S g (syncD d) w' := by
  have hon := don_any w S g d h
  have Hdeed := Lib.hid (ddeed_any w S g d h)
  have H := Lib.hid h
  clear h
  unfold syncE syncD
  by_cases hof : d.off = true
  · rw [if_pos hof, if_pos hof]
    rw [hof] at hon
    clear hof
    go_enter Try.func15, Try.ntmps15
    go_wp2_with fail
    refine hon.mono ?_
    rintro _ _ ⟨rfl, rfl⟩
    go_wp2_with fail
    go_ret
    exact ⟨rfl, DPost.id_ H.out⟩
  · rw [if_neg hof, if_neg hof]
    have hof2 : d.off = false := by simpa using hof
    rw [hof2] at hon
    clear hof
    by_cases hde : deedE d ≠ 0
    · rw [if_pos hde]
      have hd2 : (deedE d == 0) = false := by simpa using hde
      clear hde
      generalize deedE d = de at *
      go_enter Try.func15, Try.ntmps15
      go_wp2_with fail
      refine hon.mono ?_
      rintro _ _ ⟨rfl, rfl⟩
      go_wp2_with fail
      refine Hdeed.out.mono ?_
      rintro _ w2 ⟨rfl, hd3, hch⟩
      go_wp2_with fail
      go_ret
      exact ⟨rfl, S, hd3, fun k hk => .inl hk, hch⟩
    · rw [if_neg hde]
      have hde0 : deedE d = 0 := by simpa using hde
      rw [hde0] at Hdeed ⊢
      clear hde hde0
      go_enter Try.func15, Try.ntmps15
      go_wp2_with fail
      refine hon.mono ?_
      rintro _ _ ⟨rfl, rfl⟩
      go_wp2_with fail
      refine Hdeed.out.mono ?_
      rintro _ w2 ⟨rfl, hd3, hch⟩
      have hwt2 := deedD_wt d
      have hbl2 := deedD_bl d
      obtain ⟨d1, hd1⟩ : ∃ d1, d1 = deedD d := ⟨_, rfl⟩
      have Hd1 := Lib.hid hd1
      have Hwt2 := Lib.hid hwt2
      have Hbl2 := Lib.hid hbl2
      rw [← hd1] at hd3 hwt2 hbl2
      clear hd1
      have hw1 : d1.wt.length ≤ 1000000 := by rw [hwt2]; exact hw
      have Hch := Lib.hid hch
      have H3 := Lib.hid hd3
      obtain ⟨hb, vw, h1, h2, h3, h4, h5, h6⟩ := hd3.ex
      obtain ⟨A, c, rfl, hc1, hc2, _⟩ := h3.form'
      unfold maxLen at hc2
      have hc0 := h1.cell 1 _ rfl
      have H1 := Lib.hid h1
      have H5 := Lib.hid h5
      have H6 := Lib.hid h6
      have hwts := H3.out.wts
      have hfew := H3.out.few
      have Hwts := Lib.hid hwts
      clear hon Hdeed H hch hd3 hwt2 hbl2 h5 h6 hwts
      go_wp2_with fail
      go_loopw [19] (fun i wr => ∃ k : Nat, k ≤ d1.wt.length ∧ i = .int .i64 k ∧ BoxAt 86 wr hb (flatB (syncBl (d1.wt.take k) d1.bl)) ∧ Chg (fun q => q = hb) w2 wr) (fun i _ => d1.wt.length - (intOf i).toNat)
      case atStart => exact ⟨0, by omega, rfl, h2, Chg.refl _ _⟩
      case round =>
        obtain ⟨k, hk, rfl, hbb, hcg⟩ := hrel
        have h1r := h1.chg hcg (fun e => h4 e.symm)
        by_cases hlt : k < d1.wt.length
        · have h3r : OwnF 88 cWt wr 0 (.slice A d1.wt.length c) d1.wt := h3.kept fun q hq => hcg.block q (h3.blk q hq).2 (H6.out q hq).2.1
          obtain ⟨ad, rfl, hld⟩ := wt_load h3r.row k hlt
          have hx1 := Hwts.out _ (List.getElem_mem hlt)
          have hsn := syncBl_snoc (d1.wt.take k) (d1.wt[k]) d1.bl
          have htk : d1.wt.take (k + 1) = d1.wt.take k ++ [d1.wt[k]] := by rw [List.take_add_one, List.getElem?_eq_getElem hlt]; rfl
          rw [← htk] at hsn
          have hsl := syncBl_len (d1.wt.take k) d1.bl
          have Hsn := Lib.hid hsn
          have Hcg := Lib.hid hcg
          clear hsn htk hcg h3r
          generalize syncBl (d1.wt.take k) d1.bl = bl at *
          generalize d1.wt[k] = x at *
          have Hld := Lib.hid hld
          clear hld
          go_wp2_with (first
            | (refine wpList_load_agg rfl 88 (.tmp 21) rfl (ad.add (k * 129)) rfl (encW x) Hld.out Try.underlying88 rfl (by rw [encW_len]; kernel_rfl) ?_)
            | (refine wpList_alloc_z rfl 88 rfl info_write zeroWc zeroW_cells ?_)
            | (refine wpList_store_new rfl 88 (.tmp 5) (.tmp 22) rfl zeroWc (encW x) rfl rfl (by rw [encW_len]; kernel_rfl) (by rw [encW_len]; rfl) (encW_one x) ?_))
          have hbx : BoxAt 88 (wr.alloc (.cells (encW x).toArray 88)) wr.heap.size (encW x) := BoxAt.new_ _ _ _
          have hld8 := encW_at hbx
          have h18 := h1r.alloc (.cells (encW x).toArray 88)
          have hbb8 := hbb.alloc (.cells (encW x).toArray 88)
          have hb8 := balloc wr (.cells (encW x).toArray 88)
          have hxn : x.1 < d1.bl.length := hx1
          have hxn2 : (x.1 : Int).toNat = x.1 := rfl
          have Hcg8 := Lib.hid (Hcg.out.trans (Chg.ofBelow hb8)).drew_
          clear hb8
          generalize wr.alloc (.cells (encW x).toArray 88) = w8 at *
          generalize hnb : d1.bl.length = nb at *
          have Hnb := Lib.hid hnb
          clear hnb
          generalize wr.heap.size = gb at *
          simp only [Act.put, List.setIfInBounds_toArray, List.set_cons_zero, List.set_cons_succ]
          refine wp_region_mixL (ds := [23, 24, 25, 26, 27, 28, 29, 30, 31]) 9 (fun _ _ W' => W' = w8.drew) [some 23, some 24, some 25, some 26, some 27, some 28, some 29, some 30, some 31]
            [fun v => v = .pointer (some ⟨g, 0, none⟩), fun v => v = .pointer (some ⟨g, 0, none⟩), fun v => v = .pointer (some ⟨g, 0, none⟩), fun v => v = .slice (some ⟨hb, 0, none⟩) nb nb, fun v => v = .pointer (some ⟨gb, 0, none⟩), fun v => v = .int .i64 (x.1 : Int), fun v => v = .pointer (some ⟨gb, 1, none⟩), fun v => v = .agg (b8s x.2.1).toArray, fun v => v = .pointer (some ⟨hb, x.1 * 128, none⟩)]
            rfl rfl rfl (by kernel_rfl) (by kernel_rfl) ?_ (fun _ => rfl) ?_
          · refine ⟨?_, ?_, ?_, ?_, ?_, ?_, ?_, ?_, ?_, trivial⟩
            · -- 0: slot 23 := Op.move t0
              refine obM_yes fun f bb w' hj hs hd hp => ?_
              simp [PreO, factO, valOf, Region.binds] at hp
              have hj' : w' = w8.drew := hj
              subst hj'
              refine ⟨by simp [Gd, valOf, hp], ?_⟩
              refine mildM_val (.pointer (some ⟨g, 0, none⟩)) ?_ rfl rfl
              simp [execOp, evalF, hp, go_sem]
            · -- 1: slot 24 := Op.nilCheck t23
              refine obM_yes fun f bb w' hj hs hd hp => ?_
              simp [PreO, factO, valOf, Region.binds] at hp
              have hj' : w' = w8.drew := hj
              subst hj'
              refine ⟨by simp [Gd, valOf, hp], ?_⟩
              refine mildM_val (.pointer (some ⟨g, 0, none⟩)) ?_ rfl rfl
              simp [execOp, evalF, hp, go_sem]
            · -- 2: slot 25 := Op.fieldAddr 133 t24 0
              refine obM_yes fun f bb w' hj hs hd hp => ?_
              simp [PreO, factO, valOf, Region.binds] at hp
              have hj' : w' = w8.drew := hj
              subst hj'
              refine ⟨by simp [Gd, valOf, hp], ?_⟩
              refine mildM_val (.pointer (some ⟨g, 0, none⟩)) ?_ rfl rfl
              simp [execOp, evalF, hp, go_sem]
            · -- 3: slot 26 := Op.load 130 t25
              refine obM_yes fun f bb w' hj hs hd hp => ?_
              simp [PreO, factO, valOf, Region.binds] at hp
              have hj' : w' = w8.drew := hj
              subst hj'
              refine ⟨by simp [Gd, valOf, hp], ?_⟩
              have hc := h18.cell 0 _ rfl
              refine mildM_val (.slice (some ⟨hb, 0, none⟩) nb nb) ?_ rfl rfl
              simp [execOp, evalF, hp, go_sem, hc]
            · -- 4: slot 27 := Op.fieldAddr 137 t5 0
              refine obM_yes fun f bb w' hj hs hd hp => ?_
              simp [PreO, factO, valOf, Region.binds] at hp
              have hj' : w' = w8.drew := hj
              subst hj'
              refine ⟨by simp [Gd, valOf, hp], ?_⟩
              refine mildM_val (.pointer (some ⟨gb, 0, none⟩)) ?_ rfl rfl
              simp [execOp, evalF, hp, go_sem]
            · -- 5: slot 28 := Op.load 3 t27
              refine obM_yes fun f bb w' hj hs hd hp => ?_
              simp [PreO, factO, valOf, Region.binds] at hp
              have hj' : w' = w8.drew := hj
              subst hj'
              refine ⟨by simp [Gd, valOf, hp], ?_⟩
              have hc := hbx.cell 0 _ rfl
              refine mildM_val (.int .i64 (x.1 : Int)) ?_ rfl rfl
              simp [execOp, evalF, hp, go_sem, hc]
            · -- 6: slot 29 := Op.fieldAddr 137 t5 1
              refine obM_yes fun f bb w' hj hs hd hp => ?_
              simp [PreO, factO, valOf, Region.binds] at hp
              have hj' : w' = w8.drew := hj
              subst hj'
              refine ⟨by simp [Gd, valOf, hp], ?_⟩
              refine mildM_val (.pointer (some ⟨gb, 1, none⟩)) ?_ rfl rfl
              simp [execOp, evalF, hp, go_sem]
            · -- 7: slot 30 := Op.load 135 t29
              refine obM_yes fun f bb w' hj hs hd hp => ?_
              simp [PreO, factO, valOf, Region.binds] at hp
              have hj' : w' = w8.drew := hj
              subst hj'
              refine ⟨by simp [Gd, valOf, hp], ?_⟩
              have hl := run_loadVar_cells w8.drew ⟨gb, 1, none⟩ 86 (b8s x.2.1) hld8 Try.underlying86 rfl (by rw [blk_len]; kernel_rfl)
              refine mildM_val (.agg (b8s x.2.1).toArray) ?_ rfl rfl
              simp only [execOp, evalF, List.contains_eq_mem, Instr.loadAt, Instr.sureAddr, Sem.run_bind, Sem.run_pure, Result.andThen_ok]
              simp [hp, hl]
            · -- 8: slot 31 := Op.indexAddr 130 t26 t28
              refine obM_yes fun f bb w' hj hs hd hp => ?_
              simp [PreO, factO, valOf, Region.binds] at hp
              have hj' : w' = w8.drew := hj
              subst hj'
              refine ⟨by simp [Gd, valOf, hp], ?_⟩
              refine mildM_val (.pointer (some ⟨hb, x.1 * 128, none⟩)) ?_ rfl rfl
              simp [execOp, evalF, hp, go_sem, hxn, hxn2]
          · intro f bb wd hall hj hp
            have hj' : wd = w8.drew := hj
            subst hj'
            clear hall hj
            simp only [PostO] at hp
            obtain ⟨e0, e1, e2, e3, e4, e5, e6, e7, e8, _⟩ := hp
            simp only [fills, List.foldl_cons, List.foldl_nil, Act.put, List.setIfInBounds_toArray, List.set_cons_zero, List.set_cons_succ, e0, e1, e2, e3, e4, e5, e6, e7, e8]
            clear e0 e1 e2 e3 e4 e5 e6 e7 e8
            simp only [List.drop_succ_cons, List.drop_zero]
            have hbd : BoxAt 86 w8.drew hb (flatB bl) := hbb8
            refine wpList_store_mid rfl 86 (.tmp 31) (.tmp 30) rfl hb (x.1 * 128) (b8s x.2.1).toArray rfl rfl (by have := flatB_there hbd x.1 0 128 (by omega) (by omega); simpa [blk_len] using this) (by simp only [List.size_toArray, blk_len]; kernel_rfl) (all_oneCell_toArray (b8s_one _)) ?_
            simp only [List.toList_toArray]
            have hfin := hbd.setCells_ (b8s x.2.1) (x.1 * 128)
            have hcf := Hcg8.out.trans (Chg.ofGrown (P := fun q => q = hb) (gsetCells hb (b8s x.2.1) w8.drew (x.1 * 128)) fun q e => by injection e with e; exact e.symm)
            have hps := flatB_puts bl x.1 0 x.2.1 (by omega) (by rw [x.2.2]; decide)
            rw [Nat.add_zero] at hps
            rw [hps, over_all, ← Hsn.out] at hfin
            generalize w8.drew.setCells hb (x.1 * 128) (b8s x.2.1) = w9 at *
            clear hps hbd
            go_wp2_with fail
            go_roundw
            case rel => exact ⟨k + 1, by omega, by go_num, hfin, hcf⟩
            case measure => simp [intOf]; omega
        · obtain rfl : k = d1.wt.length := by omega
          rw [List.take_length] at hbb
          have hf1 := h1r.frozen 1
          have hc1 := h1r.cell 1 _ rfl
          clear hc0
          go_wp2_with fail
          go_ret
          have hsz := hcg.size
          refine ⟨rfl, DPost.pre Hch.out ?_⟩
          rw [← Hwt2.out, ← Hbl2.out, ← Hd1.out]
          refine ⟨S, DiskAt.nilW _ rfl (h1r.put 1 _) (by rw [syncBl_len]) (hbb.other _ _ fun e => h4 e.symm) h4 H5.out H3.out.here (fun q hq => by have := H3.out.lt q hq; simp [World.setCell]; omega) (by rw [syncBl_len]; exact H3.out.pos) (by rw [syncBl_len]; exact H3.out.few) H3.out.fuseR, fun q hq => .inl hq, ?_⟩
          exact (hcg.more fun q _ hq => by rw [hq]; exact H5.out).trans (Chg.set wr _ _ H3.out.here)
end Go.Proofs.Ytpoicbhbkabllaa

namespace Go.Proofs.Ytpoicbhbkabllaa
set_option linter.unusedSimpArgs false
set_option linter.unusedVariables false
open Go.RowKit

structure Wr (w1 w : World) (v : Value) (l : List UInt8) : Prop where
  own : Ow w w1.heap.size v l
  blw : Below w1.heap.size w1 w
structure WrB (T : TypeId) (w1 w : World) (g : Nat) (cs : List Value) (v : Value) (l : List UInt8) : Prop where
  own : Ow w w1.heap.size v l
  blw : Below w1.heap.size w1 w
  box : BoxAt T w g cs
  ne : v.ownBlock ≠ some g
theorem Ext.neM {w w' : World} {v v' : Value} (h : Ext w w' v v') {g : Nat} (hg : g < w.heap.size) (hv : v.ownBlock ≠ some g) : v'.ownBlock ≠ some g := by
  rcases h.at_ with h1 | h1
  · rw [h1]; exact hv
  · intro e; have := h1 g e; omega
theorem Wr.num {w1 w wa wb : World} {v v' : Value} {l l' : List UInt8} (h : Wr w1 w v l) (hb : Below w.heap.size w wa) (hx : Ext wa wb v v') (ho : Ow wb w1.heap.size v' l') : Wr w1 wb v' l' :=
  ⟨ho, (h.blw.trans (hb.mono h.blw.size)).trans (hx.below (Nat.le_trans h.blw.size hb.size) fun q hq => (h.own.blk q hq).1)⟩
theorem WrB.num {T : TypeId} {g : Nat} {cs : List Value} {w1 w wa wb : World} {v v' : Value} {l l' : List UInt8} (h : WrB T w1 w g cs v l) (hb : Below w.heap.size w wa) (hx : Ext wa wb v v') (ho : Ow wb w1.heap.size v' l') : WrB T w1 wb g cs v' l' :=
  have hg := h.box.lt
  have hga := Nat.lt_of_lt_of_le hg hb.size
  ⟨ho, (h.blw.trans (hb.mono h.blw.size)).trans (hx.below (Nat.le_trans h.blw.size hb.size) fun q hq => (h.own.blk q hq).1), (h.box.below hg hb).grown hx.gr h.ne, hx.neM hga h.ne⟩
theorem Wr.put (T : TypeId) {w1 w : World} {v : Value} {l : List UInt8} (h : Wr w1 w v l) (cs : List Value) : WrB T w1 (w.alloc (.cells cs.toArray T)) w.heap.size cs v l :=
  ⟨h.own.alloc _, h.blw.trans ((balloc w _).mono h.blw.size), BoxAt.new_ _ _ _, fun e => Nat.lt_irrefl _ (h.own.blk _ e).2⟩
theorem WrB.wr {T : TypeId} {g : Nat} {cs : List Value} {w1 w : World} {v : Value} {l : List UInt8} (h : WrB T w1 w g cs v l) : Wr w1 w v l := ⟨h.own, h.blw⟩
theorem flat_take_le {α : Type} (f : α → List UInt8) (l : List α) (k : Nat) (hk : k < l.length) : ((l.take k).flatMap f).length + (f l[k]).length ≤ (l.flatMap f).length := by
  have e : l.flatMap f = (l.take k).flatMap f ++ (f l[k] ++ (l.drop (k + 1)).flatMap f) := by
    conv => lhs; rw [← List.take_append_drop k l, List.drop_eq_getElem_cons hk]
    rw [List.flatMap_append, List.flatMap_cons]
  rw [e]
  simp only [List.length_append]
  omega
theorem flat_take_succ {α : Type} (f : α → List UInt8) (l : List α) (k : Nat) (hk : k < l.length) : (l.take (k + 1)).flatMap f = (l.take k).flatMap f ++ f l[k] := by
  rw [List.take_add_one, List.getElem?_eq_getElem hk, Option.toList_some, List.flatMap_append, List.flatMap_cons, List.flatMap_nil, List.append_nil]
theorem nums_succ (l : List Int) (k : Nat) (hk : k < l.length) : nums (l.take (k + 1)) = nums (l.take k) ++ vput (u64Of l[k]) := flat_take_succ _ l k hk
theorem nums_le (l : List Int) (k : Nat) (hk : k < l.length) : (nums (l.take k)).length + (vput (u64Of l[k])).length ≤ (nums l).length := flat_take_le _ l k hk
theorem bodyF_len (f : MFile) : (bodyF f).length = (vput f.name.length).length + f.name.length + (vput f.id.toNat).length + (vput (u64Of f.size)).length + (nums f.blocks).length := by simp [bodyF]; omega
theorem bodyM_len (m : MMan) : (bodyM m).length = (vput m.ver.toNat).length + (vput m.next.toNat).length + (vput m.files.length).length + (m.files.flatMap bodyF).length := by simp [bodyM]; omega
theorem encF_one (f : MFile) (v : Value) (hv : v.oneCell' = true) : ∀ u ∈ encF f v, u.oneCell' = true := fun u hu => by
  simp [encF] at hu
  rcases hu with rfl | rfl | rfl | rfl
  · rfl
  · rfl
  · rfl
  · exact hv
def zeroFc : List Value := [.string (bst []), .int .u32 0, .int .i64 0, .slice none 0 0]
theorem info_file : (Try.prog.info? 62).map (fun i => (i.zero, i.size, i.bytes)) = some (some (.agg zeroFc.toArray), 4, 56) := by kernel_rfl
theorem info_file4 : (Try.prog.info? 62).map (·.size) = some 4 := by kernel_rfl
theorem zeroF_cells : (Value.agg zeroFc.toArray).cells = zeroFc.toArray := rfl
theorem balloc_lt (w : World) (o : Obj) {B : Nat} (hB : B ≤ w.heap.size) : Below B w (w.alloc o) := (balloc w o).mono hB

set_option maxRecDepth 100000 in
set_option maxHeartbeats 3200000 in
theorem rbody_any (w : World) (v : Value) (m : MMan) (h : MAt w w.heap.size v m) (hsz : (bodyM m).length ≤ 274877906944) :
    Calls Try.prog 52 #[v] w fun e w' => ∃ v', e = .returned v' ∧ Ow w' w.heap.size v' (bodyM m) ∧ Below w.heap.size w w' := by
  obtain ⟨vf, rfl, hf⟩ := h
  obtain ⟨A, c, rfl, hc1, hc2⟩ := hf.form
  unfold maxLen at hc2
  obtain ⟨w1, hw1⟩ : ∃ w1, w1 = w.alloc (.cells (encM m (.slice A m.files.length c)).toArray 56) := ⟨_, rfl⟩
  have hb1 : Below w.heap.size w w1 := by rw [hw1]; exact balloc w _
  have hx1 : BoxAt 56 w1 w.heap.size (encM m (.slice A m.files.length c)) := by rw [hw1]; exact BoxAt.new_ _ _ _
  have hz1 : w.heap.size < w1.heap.size := by rw [hw1]; simp
  have hf1 := hf.below hb1
  have hc0x := hx1.cell 0 _ rfl
  have Hw1 := Lib.hid hw1
  have Hx1 := Lib.hid hx1
  have Hf1 := Lib.hid hf1
  have Hb1 := Lib.hid hb1
  have hml := bodyM_len m
  have hver := u64_lt m.ver
  have hnx := u32_lt m.next
  clear hw1 hx1 hf1 hb1 hf
  go_enter Try.func52, Try.ntmps52
  go_upto_region 1 with (fail)
  rw [← Hw1.out]
  go_wp2_with fail
  refine (refnum_any m.ver.toNat w1 hver).mono ?_
  rintro _ w2 ⟨v2, rfl, how2, hb2⟩
  have H2 : Hid (Wr w1 w2 v2 (vput m.ver.toNat)) := Lib.hid ⟨how2, hb2⟩
  have m1_2 := (Hx1.out.blwM H2.out.blw).cell 1 _ rfl
  clear how2 hb2 hc0x
  go_wp2_with fail
  refine (refnum_any m.next.toNat w2 (by omega)).mono ?_
  rintro _ wn3 ⟨vn3, rfl, how3, hb3⟩
  go_wp2_with (at_builtin
               refine wpList_app8 rfl (.tmp 10) (.tmp 14) rfl (H2.out.own.below_ hb3) how3.by_ rfl rfl (by (try simp only [List.length_append] at *); omega) (Nat.le_trans H2.out.blw.size hb3.size) ?_
               intro v3 w3 ho3 hx3
               have H3 := Lib.hid (H2.out.num hb3 hx3 ho3)
               clear ho3 hx3 hb3 how3
               have m2_3 := (Hx1.out.blwM H3.out.blw).cell 2 _ rfl)
  refine (refnum_any m.files.length w3 (by omega)).mono ?_
  rintro _ wn4 ⟨vn4, rfl, how4, hb4⟩
  go_wp2_with (at_builtin
               refine wpList_app8 rfl (.tmp 16) (.tmp 21) rfl (H3.out.own.below_ hb4) how4.by_ rfl rfl (by (try simp only [List.length_append] at *); omega) (Nat.le_trans H3.out.blw.size hb4.size) ?_
               intro v4 w4 ho4 hx4
               have H4 := Lib.hid (H3.out.num hb4 hx4 ho4)
               clear ho4 hx4 hb4 how4
               have m2_4 := (Hx1.out.blwM H4.out.blw).cell 2 _ rfl)
  have H4' : Hid (Wr w1 w4 v4 (vput m.ver.toNat ++ vput m.next.toNat ++ vput m.files.length)) := H4
  have hpre : (vput m.ver.toNat ++ vput m.next.toNat ++ vput m.files.length).length + (m.files.flatMap bodyF).length ≤ 274877906944 := by simp only [List.length_append]; omega
  have hbm : bodyM m = vput m.ver.toNat ++ vput m.next.toNat ++ vput m.files.length ++ m.files.flatMap bodyF := rfl
  have Hbm := Lib.hid hbm
  clear hbm hml hsz H4 H3 H2
  generalize vput m.ver.toNat ++ vput m.next.toNat ++ vput m.files.length = pre at *
  clear m1_2 m2_3
  go_loopw [3, 26] (fun b i wr => ∃ k : Nat, k ≤ m.files.length ∧ i = .int .i64 k ∧ Wr w1 wr b (pre ++ (m.files.take k).flatMap bodyF)) (fun _ i _ => m.files.length - (intOf i).toNat)
  case atStart => exact ⟨0, by omega, rfl, by simpa using H4'.out⟩
  case round =>
    obtain ⟨k, hk, rfl, HW⟩ := hrel
    replace HW := Lib.hid HW
    by_cases hlt : k < m.files.length
    · have hle := flat_take_le bodyF m.files k hlt
      have hsc := flat_take_succ bodyF m.files k hlt
      have hbl := bodyF_len m.files[k]
      obtain ⟨_, ad, vb, rfl, hab, hbI, hfo, hcl⟩ := Hf1.out.cells k hlt
      obtain ⟨Ab, cb, rfl, hcb1, hcb2⟩ := hbI.form
      unfold maxLen at hcb2
      have hnl := hfo.1
      unfold maxLen at hnl
      have hbf : bodyF m.files[k] = vput m.files[k].name.length ++ m.files[k].name ++ vput m.files[k].id.toNat ++ vput (u64Of m.files[k].size) ++ nums m.files[k].blocks := rfl
      generalize hfk : m.files[k] = fl at *
      have hid := u32_lt fl.id
      have hsu := u64Of_lt fl.size
      have hsw := u64Of_wrap fl.size
      have Hsc := Lib.hid hsc
      have Hcl : Hid (∀ (j : Nat) (u : Value), (encF fl (.slice Ab fl.blocks.length cb))[j]? = some u → wr.cell? ((ad.add (k * 4)).add j) = some u) := Lib.hid fun j u hu => (HW.out.blw.cell (by rw [add_block, add_block]; omega)).trans (hcl j u hu)
      have HbI := Lib.hid hbI
      have Hbf := Lib.hid hbf
      have hsz : (bst fl.name).size = fl.name.length := rfl
      have hpl : (pre ++ (m.files.take k).flatMap bodyF).length + (bodyF fl).length ≤ 274877906944 := by simp only [List.length_append]; omega
      have m2_k := (Hx1.out.blwM HW.out.blw).cell 2 _ rfl
      clear hsc hcl hbI hfo hle hbf m2_4 hfk hpre
      generalize (m.files.take k).flatMap bodyF = mid at *
      go_upto_region 8 with (first
        | (refine wpList_load_agg rfl 62 (.tmp 32) rfl (ad.add (k * 4)) rfl (encF fl (.slice Ab fl.blocks.length cb)) Hcl.out Try.underlying62 rfl info_file4 ?_)
        | (refine wpList_alloc_z rfl 62 rfl info_file zeroFc zeroF_cells ?_)
        | (refine wpList_store_new rfl 62 (.tmp 5) (.tmp 33) rfl zeroFc (encF fl (.slice Ab fl.blocks.length cb)) rfl rfl info_file4 rfl (encF_one _ _ rfl) ?_))
      have H5 := Lib.hid (HW.out.put 62 (encF fl (.slice Ab fl.blocks.length cb)))
      clear Hcl m2_k
      generalize hg : wr.heap.size = g at *
      generalize wr.alloc (.cells (encF fl (.slice Ab fl.blocks.length cb)).toArray 62) = w5 at *
      have q0 := H5.out.box.cell 0 _ rfl
      go_wp2_with fail
      refine (refnum_any fl.name.length w5 (by omega)).mono ?_
      rintro _ wn6 ⟨vn6, rfl, how6, hb6⟩
      go_upto_region 9 with (at_builtin
                             refine wpList_app8 rfl (.tmp 34) (.tmp 39) rfl (H5.out.own.below_ hb6) how6.by_ rfl rfl (by (try simp only [List.length_append] at *); omega) (Nat.le_trans H5.out.blw.size hb6.size) ?_
                             intro v6 w6 ho6 hx6
                             have H6 := Lib.hid (H5.out.num hb6 hx6 ho6)
                             clear ho6 hx6 hb6 how6
                             have q0_6 := H6.out.box.cell 0 _ rfl)
      go_wp2_with (first
        | (refine wpList_conv_sb rfl (.tmp 43) rfl fl.name rfl (by omega) ?_
           intro cS wS hS)
        | (at_builtin
           refine wpList_app8 rfl (.tmp 41) (.tmp 44) rfl (H6.out.own.below_ hS.below) hS.by_ rfl rfl (by (try simp only [List.length_append] at *); omega) (Nat.le_trans H6.out.blw.size hS.below.size) ?_
           intro v7 w7 ho7 hx7
           have H7 := Lib.hid (H6.out.num hS.below hx7 ho7)
           clear ho7 hx7 hS
           have q1_7 := H7.out.box.cell 1 _ rfl))
      refine (refnum_any fl.id.toNat w7 (by omega)).mono ?_
      rintro _ wn8 ⟨vn8, rfl, how8, hb8⟩
      go_wp2_with (at_builtin
                   refine wpList_app8 rfl (.tmp 46) (.tmp 50) rfl (H7.out.own.below_ hb8) how8.by_ rfl rfl (by (try simp only [List.length_append] at *); omega) (Nat.le_trans H7.out.blw.size hb8.size) ?_
                   intro v8 w8 ho8 hx8
                   have H8 := Lib.hid (H7.out.num hb8 hx8 ho8)
                   clear ho8 hx8 hb8 how8
                   have q2_8 := H8.out.box.cell 2 _ rfl)
      refine (refnum_any (u64Of fl.size) w8 hsu).mono ?_
      rintro _ wn9 ⟨vn9, rfl, how9, hb9⟩
      go_wp2_with (at_builtin
                   refine wpList_app8 rfl (.tmp 52) (.tmp 56) rfl (H8.out.own.below_ hb9) how9.by_ rfl rfl (by (try simp only [List.length_append] at *); omega) (Nat.le_trans H8.out.blw.size hb9.size) ?_
                   intro v9 w9 ho9 hx9
                   have H9 := Lib.hid (H8.out.num hb9 hx9 ho9)
                   clear ho9 hx9 hb9 how9
                   have q3_9 := H9.out.box.cell 3 _ rfl)
      have H9' : Hid (WrB 62 w1 w9 g (encF fl (.slice Ab fl.blocks.length cb)) v9 (pre ++ mid ++ vput fl.name.length ++ fl.name ++ vput fl.id.toNat ++ vput (u64Of fl.size))) := H9
      have hpl2 : (pre ++ mid ++ vput fl.name.length ++ fl.name ++ vput fl.id.toNat ++ vput (u64Of fl.size)).length + (nums fl.blocks).length ≤ 274877906944 := by simp only [List.length_append] at *; omega
      have hbm2 : pre ++ mid ++ bodyF fl = pre ++ mid ++ vput fl.name.length ++ fl.name ++ vput fl.id.toNat ++ vput (u64Of fl.size) ++ nums fl.blocks := by rw [Hbf.out]; simp only [List.append_assoc]
      have Hbm2 := Lib.hid hbm2
      clear H9 H8 H7 H6 H5 hbl hpl Hbf hbm2
      generalize pre ++ mid ++ vput fl.name.length ++ fl.name ++ vput fl.id.toNat ++ vput (u64Of fl.size) = pf at *
      go_wp2_with fail
      go_loopw [3, 61] (fun b i wr => ∃ j : Nat, j ≤ fl.blocks.length ∧ i = .int .i64 j ∧ WrB 62 w1 wr g (encF fl (.slice Ab fl.blocks.length cb)) b (pf ++ nums (fl.blocks.take j))) (fun _ i _ => fl.blocks.length - (intOf i).toNat)
      case atStart => exact ⟨0, by omega, rfl, by simpa [nums] using H9'.out⟩
      case round =>
        obtain ⟨j, hj, rfl, HV⟩ := hrel
        replace HV := Lib.hid HV
        by_cases hjt : j < fl.blocks.length
        · have hns := nums_succ fl.blocks j hjt
          have hnle := nums_le fl.blocks j hjt
          obtain ⟨_, ad2, rfl, hab2, hcj, hj1, hj2⟩ := (HbI.out.below (HV.out.blw.mono (by omega))).cells j hjt
          have Hns := Lib.hid hns
          have hxu := u64Of_lt fl.blocks[j]
          have hxw := u64Of_wrap fl.blocks[j]
          have hql : (pf ++ nums (fl.blocks.take j)).length + (vput (u64Of fl.blocks[j])).length ≤ 274877906944 := by simp only [List.length_append]; omega
          have q3_j := HV.out.box.cell 3 _ rfl
          clear hns hnle hpl2
          generalize fl.blocks[j] = x at *
          generalize nums (fl.blocks.take j) = nj at *
          go_wp2_with fail
          refine (refnum_any (u64Of x) wr hxu).mono ?_
          rintro _ wn11 ⟨vn11, rfl, how11, hb11⟩
          go_wp2_with (at_builtin
                       refine wpList_app8 rfl (.tmp 64) (.tmp 71) rfl (HV.out.own.below_ hb11) how11.by_ rfl rfl (by (try simp only [List.length_append] at *); omega) (Nat.le_trans HV.out.blw.size hb11.size) ?_
                       intro v11 w11 ho11 hx11
                       have H11 := Lib.hid (HV.out.num hb11 hx11 ho11)
                       clear ho11 hx11 hb11 how11
          )
          go_roundw
          case rel => exact ⟨j + 1, by omega, by go_num, by rw [Hns.out, ← List.append_assoc]; exact H11.out⟩
          case measure => simp [intOf]; omega
        · obtain rfl : j = fl.blocks.length := by omega
          rw [List.take_length] at HV
          go_wp2_with fail
          go_roundw
          case rel => exact ⟨k + 1, by omega, by go_num, by rw [Hsc.out, ← List.append_assoc, Hbm2.out]; exact HV.out.wr⟩
          case measure => simp [intOf]; omega
    · obtain rfl : k = m.files.length := by omega
      rw [List.take_length] at HW
      go_wp2_with fail
      go_ret
      exact ⟨_, rfl, by rw [Hbm.out]; exact HW.out.own.mono (Nat.le_of_lt hz1), Hb1.out.trans (HW.out.blw.mono (Nat.le_of_lt hz1))⟩
end Go.Proofs.Ytpoicbhbkabllaa

namespace Go.Proofs.Ytpoicbhbkabllaa
set_option linter.unusedSimpArgs false
set_option linter.unusedVariables false
open Go.RowKit

theorem blocksOk_succ (prev : List MFile) (l : List Int) (a : Nat) : blocksOk prev l (a + 1) = (blocksOk prev l a && blockOk prev l a) := by
  unfold blocksOk
  rw [List.range_succ, List.all_append]
  simp
theorem blocksOk_false (prev : List MFile) (l : List Int) (a : Nat) (h : blocksOk prev l (a + 1) = false) (n : Nat) (ha : a < n) : blocksOk prev l n = false := by
  unfold blocksOk at h ⊢
  rw [List.all_eq_false] at h ⊢
  obtain ⟨x, hx, hx2⟩ := h
  exact ⟨x, by simp at hx ⊢; omega, hx2⟩
theorem blockOk_eq (prev : List MFile) (l : List Int) (a : Nat) (ha : a < l.length) : blockOk prev l a = (!(decide (l[a] < 32) || decide (65536 ≤ l[a]) || decide (l[a] ∈ l.take a)) && prev.all fun p => !decide (l[a] ∈ p.blocks)) := by
  unfold blockOk
  rw [List.getD_eq_getElem?_getD, List.getElem?_eq_getElem ha]
  rfl
set_option maxRecDepth 100000 in
set_option maxHeartbeats 6400000 in
theorem rfile_any (w : World) (v : Value) (m : MMan) (h : MAt w w.heap.size v m) (i : Nat) (hi : i < m.files.length) :
    Calls Try.prog 51 #[v, .int .i64 i] w fun e w' => e = .returned (.bool (fileR m.next (m.files.take i) m.files[i])) ∧ Below w.heap.size w w' := by
  obtain ⟨vf, rfl, hf⟩ := h
  obtain ⟨A, c, rfl, hc1, hc2⟩ := hf.form
  unfold maxLen at hc2
  obtain ⟨_, ad, vb, rfl, hab, hbI, hfo, hcl⟩ := hf.cells i hi
  obtain ⟨Ab, cb, rfl, hcb1, hcb2⟩ := hbI.form
  unfold maxLen at hcb2
  have hnl := hfo.1
  unfold maxLen at hnl
  generalize hfk : m.files[i] = fl at *
  have hid := u32_lt fl.id
  have hnx := u32_lt m.next
  have hsz : (bst fl.name).size = fl.name.length := rfl
  obtain ⟨w1, hw1⟩ : ∃ w1, w1 = w.alloc (.cells (encM m (.slice (some ad) m.files.length c)).toArray 56) := ⟨_, rfl⟩
  obtain ⟨wf, hwf⟩ : ∃ wf, wf = w1.alloc (.cells (encF fl (.slice Ab fl.blocks.length cb)).toArray 62) := ⟨_, rfl⟩
  have hb1 : Below w.heap.size w w1 := by rw [hw1]; exact balloc w _
  have hbf : Below w1.heap.size w1 wf := by rw [hwf]; exact balloc w1 _
  have hx1 : BoxAt 56 w1 w.heap.size (encM m (.slice (some ad) m.files.length c)) := by rw [hw1]; exact BoxAt.new_ _ _ _
  have hxf : BoxAt 62 wf w1.heap.size (encF fl (.slice Ab fl.blocks.length cb)) := by rw [hwf]; exact BoxAt.new_ _ _ _
  have hz1 : w1.heap.size = w.heap.size + 1 := by rw [hw1]; simp
  have hzf : wf.heap.size = w.heap.size + 1 + 1 := by rw [hwf]; simp [hz1]
  have hb12 : Below w.heap.size w wf := bstep hb1 hbf
  have hcl1 : ∀ (j : Nat) (u : Value), (encF fl (.slice Ab fl.blocks.length cb))[j]? = some u → w1.cell? ((ad.add (i * 4)).add j) = some u := fun j u hu => (hb1.cell (by rw [add_block, add_block]; exact hab)).trans (hcl j u hu)
  have m2_1 := hx1.cell 2 _ rfl
  have Hw1 := Lib.hid hw1
  have Hwf := Lib.hid hwf
  have Xm := Lib.hid (hx1.blwM hbf)
  rw [hz1] at hxf
  have Xf := Lib.hid hxf
  have Hf := Lib.hid (hf.below hb12)
  have HbI := Lib.hid (hbI.below hb12)
  have Hb := Lib.hid hb12
  have Hcl := Lib.hid hcl1
  have Hfk := Lib.hid hfk
  clear hw1 hwf hx1 hxf hf hb1 hbf hb12 hcl hcl1 hbI hfk
  go_enter Try.func51, Try.ntmps51
  go_upto_region 1 with (fail)
  rw [← Hw1.out]
  go_upto_region 2 with (first
    | (refine wpList_load_agg rfl 62 (.tmp 12) rfl (ad.add (i * 4)) rfl (encF fl (.slice Ab fl.blocks.length cb)) Hcl.out Try.underlying62 rfl info_file4 ?_)
    | (refine wpList_alloc_z rfl 62 rfl info_file zeroFc zeroF_cells ?_)
    | (refine wpList_store_new rfl 62 (.tmp 5) (.tmp 13) rfl zeroFc (encF fl (.slice Ab fl.blocks.length cb)) rfl rfl info_file4 rfl (encF_one _ _ rfl) ?_))
  simp only [Act.put, List.setIfInBounds_toArray, List.set_cons_zero, List.set_cons_succ]
  rw [← Hwf.out]
  simp only [hz1]
  clear m2_1 Hcl Hw1 Hwf
  have hbas : basicF m.next fl = !(decide (fl.name.length < 1) || decide (32 < fl.name.length) || decide (m.next.toNat ≤ fl.id.toNat) || decide (fl.size < 0) || decide (manyOf fl.size ≠ (fl.blocks.length : Int))) := rfl
  obtain ⟨b1, hb1⟩ : ∃ b, b = decide (fl.name.length < 1) := ⟨_, rfl⟩
  obtain ⟨b2, hq2⟩ : ∃ b, b = decide (32 < fl.name.length) := ⟨_, rfl⟩
  obtain ⟨b3, hb3⟩ : ∃ b, b = decide (m.next.toNat ≤ fl.id.toNat) := ⟨_, rfl⟩
  obtain ⟨b4, hb4⟩ : ∃ b, b = decide (fl.size < 0) := ⟨_, rfl⟩
  obtain ⟨b5, hb5⟩ : ∃ b, b = decide (manyOf fl.size ≠ (fl.blocks.length : Int)) := ⟨_, rfl⟩
  rw [← hb1, ← hq2, ← hb3, ← hb4, ← hb5] at hbas
  have B1 := Lib.hid hb1
  have B2 := Lib.hid hq2
  have B3 := Lib.hid hb3
  have B4 := Lib.hid hb4
  have B5 := Lib.hid hb5
  have Hbas := Lib.hid hbas
  clear hb1 hq2 hb3 hb4 hb5 hbas
  refine wp_region_typed [some 14, some 15, some 16, some 17, some 18, some 19, some 20, some 21, some 22, some 23, some 24, some 25, some 26, some 27, some 28, some 29, some 30, some 31, some 32, some 33, some 34, some 35, some 36, some 37, some 38, some 39, some 40, some 41, some 42, some 43, some 44] [14, 15, 16, 17, 18, 19, 20, 21, 22, 23, 24, 25, 26, 27, 28, 29, 30, 31, 32, 33, 34, 35, 36, 37, 38, 39, 40, 41, 42, 43, 44]
    [Ph.is (.pointer (some ⟨w.heap.size + 1, 0, none⟩)),
      Ph.is (.string (bst fl.name)),
      Ph.is (.int .i64 (fl.name.length : Int)),
      Ph.is (.bool b1),
      Ph.is (.bool (b1)),
      Ph.is (bif b1 then undef else .pointer (some ⟨w.heap.size + 1, 0, none⟩)),
      Ph.is (bif b1 then undef else .string (bst fl.name)),
      Ph.is (bif b1 then undef else .int .i64 (fl.name.length : Int)),
      Ph.is (bif b1 then undef else .bool b2),
      Ph.is (.bool (b1 || b2)),
      Ph.is (.bool ((b1 || b2))),
      Ph.is (bif (b1 || b2) then undef else .pointer (some ⟨w.heap.size + 1, 1, none⟩)),
      Ph.is (bif (b1 || b2) then undef else .int .u32 (fl.id.toNat : Int)),
      Ph.is (bif (b1 || b2) then undef else .pointer (some ⟨w.heap.size, 1, none⟩)),
      Ph.is (bif (b1 || b2) then undef else .int .u32 (m.next.toNat : Int)),
      Ph.is (bif (b1 || b2) then undef else .bool b3),
      Ph.is (.bool (b1 || b2 || b3)),
      Ph.is (.bool ((b1 || b2 || b3))),
      Ph.is (bif (b1 || b2 || b3) then undef else .pointer (some ⟨w.heap.size + 1, 2, none⟩)),
      Ph.is (bif (b1 || b2 || b3) then undef else .int .i64 fl.size),
      Ph.is (bif (b1 || b2 || b3) then undef else .bool b4),
      Ph.is (.bool (b1 || b2 || b3 || b4)),
      Ph.is (.bool ((b1 || b2 || b3 || b4))),
      Ph.is (bif (b1 || b2 || b3 || b4) then undef else .pointer (some ⟨w.heap.size + 1, 2, none⟩)),
      Ph.is (bif (b1 || b2 || b3 || b4) then undef else .int .i64 fl.size),
      Ph.is (bif (b1 || b2 || b3 || b4) then undef else .int .i64 (manyOf fl.size)),
      Ph.is (bif (b1 || b2 || b3 || b4) then undef else .pointer (some ⟨w.heap.size + 1, 3, none⟩)),
      Ph.is (bif (b1 || b2 || b3 || b4) then undef else .slice Ab fl.blocks.length cb),
      Ph.is (bif (b1 || b2 || b3 || b4) then undef else .int .i64 (fl.blocks.length : Int)),
      Ph.is (bif (b1 || b2 || b3 || b4) then undef else .bool b5),
      Ph.is (.bool (b1 || b2 || b3 || b4 || b5))] rfl rfl (by kernel_rfl) (by kernel_rfl) ?_ ?_
  · refine ⟨?_, ?_, ?_, ?_, ?_, ?_, ?_, ?_, ?_, ?_, ?_, ?_, ?_, ?_, ?_, ?_, ?_, ?_, ?_, ?_, ?_, ?_, ?_, ?_, ?_, ?_, ?_, ?_, ?_, ?_, ?_, trivial⟩
    · -- 0: slot 14 := Op.fieldAddr 62 t5 0
      refine ob_yes fun f w' hb hp => ?_
      simp [PreOf, factOf, valOf, Ph.is, Ph.any, Region.binds] at hp
      refine ⟨by simp [Gd, valOf, hp], ?_⟩
      refine mild_val (.pointer (some ⟨w.heap.size + 1, 0, none⟩)) ?_ (by simp [Ph.is])
      simp [execOp, evalF, hp, go_sem]
    · -- 1: slot 15 := Op.load 9 t14
      refine ob_yes fun f w' hb hp => ?_
      simp [PreOf, factOf, valOf, Ph.is, Ph.any, Region.binds] at hp
      refine ⟨by simp [Gd, valOf, hp], ?_⟩
      have hc := (Xf.out.blwM hb).cell 0 _ rfl
      refine mild_val (.string (bst fl.name)) ?_ (by simp [Ph.is])
      simp [execOp, evalF, hp, hc, go_sem]
    · -- 2: slot 16 := Op.call   builtin len, args := #[t15], argTypes := #[9]  
      refine ob_yes fun f w' hb hp => ?_
      simp [PreOf, factOf, valOf, Ph.is, Ph.any, Region.binds] at hp
      refine ⟨by simp [Gd, valOf, hp], ?_⟩
      refine mild_val (.int .i64 (fl.name.length : Int)) ?_ (by simp [Ph.is])
      simp [execOp, evalF, hp, go_sem, hsz]
    · -- 3: slot 17 := Op.binOp BinOp.lss 3 t16 (const (1:i64)) 3
      refine ob_yes fun f w' hb hp => ?_
      simp [PreOf, factOf, valOf, Ph.is, Ph.any, Region.binds] at hp
      refine ⟨by simp [Gd, valOf, hp], ?_⟩
      refine mild_val (.bool b1) ?_ (by simp [Ph.is])
      simp [execOp, evalF, hp, go_sem]
      first | done | (rw [B1.out]; try first | rfl | exact decide_eq_decide.2 (by omega) | (simp; done) | (simp <;> omega) | (simp <;> rfl))
    · -- 4: slot 18 := Op.move t17
      refine ob_yes fun f w' hb hp => ?_
      simp [PreOf, factOf, valOf, Ph.is, Ph.any, Region.binds] at hp
      refine ⟨by simp [Gd, valOf, hp], ?_⟩
      refine mild_val (.bool (b1)) ?_ (by simp [Ph.is])
      simp [execOp, evalF, hp, go_sem]
    · -- 5: slot 19 := Op.fieldAddr 62 t5 0
      cases hG : (b1) with
      | true =>
        refine ob_no fun f w' hb hp => ?_
        simp [PreOf, factOf, valOf, Ph.is, Ph.any, Region.binds, hG] at hp
        exact ⟨by simp [Gd, valOf, hp], by simp [Ph.is]⟩
      | false =>
        refine ob_yes fun f w' hb hp => ?_
        simp [PreOf, factOf, valOf, Ph.is, Ph.any, Region.binds, hG] at hp
        refine ⟨by simp [Gd, valOf, hp], ?_⟩
        refine mild_val (.pointer (some ⟨w.heap.size + 1, 0, none⟩)) ?_ (by simp [Ph.is, hG])
        simp [execOp, evalF, hp, go_sem, hG]
    · -- 6: slot 20 := Op.load 9 t19
      cases hG : (b1) with
      | true =>
        refine ob_no fun f w' hb hp => ?_
        simp [PreOf, factOf, valOf, Ph.is, Ph.any, Region.binds, hG] at hp
        exact ⟨by simp [Gd, valOf, hp], by simp [Ph.is]⟩
      | false =>
        refine ob_yes fun f w' hb hp => ?_
        simp [PreOf, factOf, valOf, Ph.is, Ph.any, Region.binds, hG] at hp
        refine ⟨by simp [Gd, valOf, hp], ?_⟩
        have hc := (Xf.out.blwM hb).cell 0 _ rfl
        refine mild_val (.string (bst fl.name)) ?_ (by simp [Ph.is, hG])
        simp [execOp, evalF, hp, hc, go_sem, hG]
    · -- 7: slot 21 := Op.call   builtin len, args := #[t20], argTypes := #[9]  
      cases hG : (b1) with
      | true =>
        refine ob_no fun f w' hb hp => ?_
        simp [PreOf, factOf, valOf, Ph.is, Ph.any, Region.binds, hG] at hp
        exact ⟨by simp [Gd, valOf, hp], by simp [Ph.is]⟩
      | false =>
        refine ob_yes fun f w' hb hp => ?_
        simp [PreOf, factOf, valOf, Ph.is, Ph.any, Region.binds, hG] at hp
        refine ⟨by simp [Gd, valOf, hp], ?_⟩
        refine mild_val (.int .i64 (fl.name.length : Int)) ?_ (by simp [Ph.is, hG])
        simp [execOp, evalF, hp, go_sem, hsz, hG]
    · -- 8: slot 22 := Op.binOp BinOp.gtr 3 t21 (const (32:i64)) 3
      cases hG : (b1) with
      | true =>
        refine ob_no fun f w' hb hp => ?_
        simp [PreOf, factOf, valOf, Ph.is, Ph.any, Region.binds, hG] at hp
        exact ⟨by simp [Gd, valOf, hp], by simp [Ph.is]⟩
      | false =>
        refine ob_yes fun f w' hb hp => ?_
        simp [PreOf, factOf, valOf, Ph.is, Ph.any, Region.binds, hG] at hp
        refine ⟨by simp [Gd, valOf, hp], ?_⟩
        refine mild_val (.bool b2) ?_ (by simp [Ph.is, hG])
        simp [execOp, evalF, hp, go_sem, hG]
        first | done | (rw [B2.out]; try first | rfl | exact decide_eq_decide.2 (by omega) | (simp; done) | (simp <;> omega) | (simp <;> rfl))
    · -- 9: slot 23 := Op.pick t18 (const (Value.bool true)) t22
      cases hG : (b1) with
      | true =>
        refine ob_yes fun f w' hb hp => ?_
        simp [PreOf, factOf, valOf, Ph.is, Ph.any, Region.binds, hG] at hp
        refine ⟨by simp [Gd, valOf, hp], ?_⟩
        refine mild_val (.bool (b1 || b2)) ?_ (by simp [Ph.is, hG])
        simp [execOp, evalF, hp, go_sem, hG]
      | false =>
        refine ob_yes fun f w' hb hp => ?_
        simp [PreOf, factOf, valOf, Ph.is, Ph.any, Region.binds, hG] at hp
        refine ⟨by simp [Gd, valOf, hp], ?_⟩
        refine mild_val (.bool (b1 || b2)) ?_ (by simp [Ph.is, hG])
        simp [execOp, evalF, hp, go_sem, hG]
    · -- 10: slot 24 := Op.move t23
      refine ob_yes fun f w' hb hp => ?_
      simp [PreOf, factOf, valOf, Ph.is, Ph.any, Region.binds] at hp
      refine ⟨by simp [Gd, valOf, hp], ?_⟩
      refine mild_val (.bool ((b1 || b2))) ?_ (by simp [Ph.is])
      simp [execOp, evalF, hp, go_sem]
    · -- 11: slot 25 := Op.fieldAddr 62 t5 1
      cases hG : ((b1 || b2)) with
      | true =>
        refine ob_no fun f w' hb hp => ?_
        simp [PreOf, factOf, valOf, Ph.is, Ph.any, Region.binds, hG] at hp
        exact ⟨by simp [Gd, valOf, hp], by simp [Ph.is]⟩
      | false =>
        refine ob_yes fun f w' hb hp => ?_
        simp [PreOf, factOf, valOf, Ph.is, Ph.any, Region.binds, hG] at hp
        refine ⟨by simp [Gd, valOf, hp], ?_⟩
        refine mild_val (.pointer (some ⟨w.heap.size + 1, 1, none⟩)) ?_ (by simp [Ph.is, hG])
        simp [execOp, evalF, hp, go_sem, hG]
    · -- 12: slot 26 := Op.load 53 t25
      cases hG : ((b1 || b2)) with
      | true =>
        refine ob_no fun f w' hb hp => ?_
        simp [PreOf, factOf, valOf, Ph.is, Ph.any, Region.binds, hG] at hp
        exact ⟨by simp [Gd, valOf, hp], by simp [Ph.is]⟩
      | false =>
        refine ob_yes fun f w' hb hp => ?_
        simp [PreOf, factOf, valOf, Ph.is, Ph.any, Region.binds, hG] at hp
        refine ⟨by simp [Gd, valOf, hp], ?_⟩
        have hc := (Xf.out.blwM hb).cell 1 _ rfl
        refine mild_val (.int .u32 (fl.id.toNat : Int)) ?_ (by simp [Ph.is, hG])
        simp [execOp, evalF, hp, hc, go_sem, hG]
    · -- 13: slot 27 := Op.fieldAddr 56 t2 1
      cases hG : ((b1 || b2)) with
      | true =>
        refine ob_no fun f w' hb hp => ?_
        simp [PreOf, factOf, valOf, Ph.is, Ph.any, Region.binds, hG] at hp
        exact ⟨by simp [Gd, valOf, hp], by simp [Ph.is]⟩
      | false =>
        refine ob_yes fun f w' hb hp => ?_
        simp [PreOf, factOf, valOf, Ph.is, Ph.any, Region.binds, hG] at hp
        refine ⟨by simp [Gd, valOf, hp], ?_⟩
        refine mild_val (.pointer (some ⟨w.heap.size, 1, none⟩)) ?_ (by simp [Ph.is, hG])
        simp [execOp, evalF, hp, go_sem, hG]
    · -- 14: slot 28 := Op.load 53 t27
      cases hG : ((b1 || b2)) with
      | true =>
        refine ob_no fun f w' hb hp => ?_
        simp [PreOf, factOf, valOf, Ph.is, Ph.any, Region.binds, hG] at hp
        exact ⟨by simp [Gd, valOf, hp], by simp [Ph.is]⟩
      | false =>
        refine ob_yes fun f w' hb hp => ?_
        simp [PreOf, factOf, valOf, Ph.is, Ph.any, Region.binds, hG] at hp
        refine ⟨by simp [Gd, valOf, hp], ?_⟩
        have hc := (Xm.out.blwM hb).cell 1 _ rfl
        refine mild_val (.int .u32 (m.next.toNat : Int)) ?_ (by simp [Ph.is, hG])
        simp [execOp, evalF, hp, hc, go_sem, hG]
    · -- 15: slot 29 := Op.binOp BinOp.geq 53 t26 t28 53
      cases hG : ((b1 || b2)) with
      | true =>
        refine ob_no fun f w' hb hp => ?_
        simp [PreOf, factOf, valOf, Ph.is, Ph.any, Region.binds, hG] at hp
        exact ⟨by simp [Gd, valOf, hp], by simp [Ph.is]⟩
      | false =>
        refine ob_yes fun f w' hb hp => ?_
        simp [PreOf, factOf, valOf, Ph.is, Ph.any, Region.binds, hG] at hp
        refine ⟨by simp [Gd, valOf, hp], ?_⟩
        refine mild_val (.bool b3) ?_ (by simp [Ph.is, hG])
        simp [execOp, evalF, hp, go_sem, hG]
        first | done | (rw [B3.out]; try first | rfl | exact decide_eq_decide.2 (by omega) | (simp; done) | (simp <;> omega) | (simp <;> rfl))
    · -- 16: slot 30 := Op.pick t24 (const (Value.bool true)) t29
      cases hG : ((b1 || b2)) with
      | true =>
        refine ob_yes fun f w' hb hp => ?_
        simp [PreOf, factOf, valOf, Ph.is, Ph.any, Region.binds, hG] at hp
        refine ⟨by simp [Gd, valOf, hp], ?_⟩
        refine mild_val (.bool (b1 || b2 || b3)) ?_ (by simp [Ph.is, hG])
        simp [execOp, evalF, hp, go_sem, hG]
      | false =>
        refine ob_yes fun f w' hb hp => ?_
        simp [PreOf, factOf, valOf, Ph.is, Ph.any, Region.binds, hG] at hp
        refine ⟨by simp [Gd, valOf, hp], ?_⟩
        refine mild_val (.bool (b1 || b2 || b3)) ?_ (by simp [Ph.is, hG])
        simp [execOp, evalF, hp, go_sem, hG]
    · -- 17: slot 31 := Op.move t30
      refine ob_yes fun f w' hb hp => ?_
      simp [PreOf, factOf, valOf, Ph.is, Ph.any, Region.binds] at hp
      refine ⟨by simp [Gd, valOf, hp], ?_⟩
      refine mild_val (.bool ((b1 || b2 || b3))) ?_ (by simp [Ph.is])
      simp [execOp, evalF, hp, go_sem]
    · -- 18: slot 32 := Op.fieldAddr 62 t5 2
      cases hG : ((b1 || b2 || b3)) with
      | true =>
        refine ob_no fun f w' hb hp => ?_
        simp [PreOf, factOf, valOf, Ph.is, Ph.any, Region.binds, hG] at hp
        exact ⟨by simp [Gd, valOf, hp], by simp [Ph.is]⟩
      | false =>
        refine ob_yes fun f w' hb hp => ?_
        simp [PreOf, factOf, valOf, Ph.is, Ph.any, Region.binds, hG] at hp
        refine ⟨by simp [Gd, valOf, hp], ?_⟩
        refine mild_val (.pointer (some ⟨w.heap.size + 1, 2, none⟩)) ?_ (by simp [Ph.is, hG])
        simp [execOp, evalF, hp, go_sem, hG]
    · -- 19: slot 33 := Op.load 3 t32
      cases hG : ((b1 || b2 || b3)) with
      | true =>
        refine ob_no fun f w' hb hp => ?_
        simp [PreOf, factOf, valOf, Ph.is, Ph.any, Region.binds, hG] at hp
        exact ⟨by simp [Gd, valOf, hp], by simp [Ph.is]⟩
      | false =>
        refine ob_yes fun f w' hb hp => ?_
        simp [PreOf, factOf, valOf, Ph.is, Ph.any, Region.binds, hG] at hp
        refine ⟨by simp [Gd, valOf, hp], ?_⟩
        have hc := (Xf.out.blwM hb).cell 2 _ rfl
        refine mild_val (.int .i64 fl.size) ?_ (by simp [Ph.is, hG])
        simp [execOp, evalF, hp, hc, go_sem, hG]
    · -- 20: slot 34 := Op.binOp BinOp.lss 3 t33 (const (0:i64)) 3
      cases hG : ((b1 || b2 || b3)) with
      | true =>
        refine ob_no fun f w' hb hp => ?_
        simp [PreOf, factOf, valOf, Ph.is, Ph.any, Region.binds, hG] at hp
        exact ⟨by simp [Gd, valOf, hp], by simp [Ph.is]⟩
      | false =>
        refine ob_yes fun f w' hb hp => ?_
        simp [PreOf, factOf, valOf, Ph.is, Ph.any, Region.binds, hG] at hp
        refine ⟨by simp [Gd, valOf, hp], ?_⟩
        refine mild_val (.bool b4) ?_ (by simp [Ph.is, hG])
        simp [execOp, evalF, hp, go_sem, hG]
        first | done | (rw [B4.out]; try first | rfl | exact decide_eq_decide.2 (by omega) | (simp; done) | (simp <;> omega) | (simp <;> rfl))
    · -- 21: slot 35 := Op.pick t31 (const (Value.bool true)) t34
      cases hG : ((b1 || b2 || b3)) with
      | true =>
        refine ob_yes fun f w' hb hp => ?_
        simp [PreOf, factOf, valOf, Ph.is, Ph.any, Region.binds, hG] at hp
        refine ⟨by simp [Gd, valOf, hp], ?_⟩
        refine mild_val (.bool (b1 || b2 || b3 || b4)) ?_ (by simp [Ph.is, hG])
        simp [execOp, evalF, hp, go_sem, hG]
      | false =>
        refine ob_yes fun f w' hb hp => ?_
        simp [PreOf, factOf, valOf, Ph.is, Ph.any, Region.binds, hG] at hp
        refine ⟨by simp [Gd, valOf, hp], ?_⟩
        refine mild_val (.bool (b1 || b2 || b3 || b4)) ?_ (by simp [Ph.is, hG])
        simp [execOp, evalF, hp, go_sem, hG]
    · -- 22: slot 36 := Op.move t35
      refine ob_yes fun f w' hb hp => ?_
      simp [PreOf, factOf, valOf, Ph.is, Ph.any, Region.binds] at hp
      refine ⟨by simp [Gd, valOf, hp], ?_⟩
      refine mild_val (.bool ((b1 || b2 || b3 || b4))) ?_ (by simp [Ph.is])
      simp [execOp, evalF, hp, go_sem]
    · -- 23: slot 37 := Op.fieldAddr 62 t5 2
      cases hG : ((b1 || b2 || b3 || b4)) with
      | true =>
        refine ob_no fun f w' hb hp => ?_
        simp [PreOf, factOf, valOf, Ph.is, Ph.any, Region.binds, hG] at hp
        exact ⟨by simp [Gd, valOf, hp], by simp [Ph.is]⟩
      | false =>
        refine ob_yes fun f w' hb hp => ?_
        simp [PreOf, factOf, valOf, Ph.is, Ph.any, Region.binds, hG] at hp
        refine ⟨by simp [Gd, valOf, hp], ?_⟩
        refine mild_val (.pointer (some ⟨w.heap.size + 1, 2, none⟩)) ?_ (by simp [Ph.is, hG])
        simp [execOp, evalF, hp, go_sem, hG]
    · -- 24: slot 38 := Op.load 3 t37
      cases hG : ((b1 || b2 || b3 || b4)) with
      | true =>
        refine ob_no fun f w' hb hp => ?_
        simp [PreOf, factOf, valOf, Ph.is, Ph.any, Region.binds, hG] at hp
        exact ⟨by simp [Gd, valOf, hp], by simp [Ph.is]⟩
      | false =>
        refine ob_yes fun f w' hb hp => ?_
        simp [PreOf, factOf, valOf, Ph.is, Ph.any, Region.binds, hG] at hp
        refine ⟨by simp [Gd, valOf, hp], ?_⟩
        have hc := (Xf.out.blwM hb).cell 2 _ rfl
        refine mild_val (.int .i64 fl.size) ?_ (by simp [Ph.is, hG])
        simp [execOp, evalF, hp, hc, go_sem, hG]
    · -- 25: slot 39 := Op.call   value (Operand.func 63), args := #[t38], argTypes := #[3]  
      cases hG : ((b1 || b2 || b3 || b4)) with
      | true =>
        refine ob_no fun f w' hb hp => ?_
        simp [PreOf, factOf, valOf, Ph.is, Ph.any, Region.binds, hG] at hp
        exact ⟨by simp [Gd, valOf, hp], by simp [Ph.is]⟩
      | false =>
        refine ob_yes fun f w' hb hp => ?_
        simp [PreOf, factOf, valOf, Ph.is, Ph.any, Region.binds, hG] at hp
        refine ⟨by simp [Gd, valOf, hp], ?_⟩
        refine mild_call 63 _ _ Try.f63 Try.func63 (by kernel_rfl) (by kernel_rfl) rfl ?_
        simp [evalF, hp, Ph.is, Ph.any, hG]
        refine (rmany_any w' fl.size hfo.2.1 hfo.2.2).mono fun ev w2 h => ?_
        obtain ⟨rfl, rfl⟩ := h
        first | exact ⟨_, rfl, Below.refl _ _, rfl⟩ | exact ⟨rfl, Below.refl _ _⟩ | exact Below.refl _ _ | simpa using Below.refl _ _
    · -- 26: slot 40 := Op.fieldAddr 62 t5 3
      cases hG : ((b1 || b2 || b3 || b4)) with
      | true =>
        refine ob_no fun f w' hb hp => ?_
        simp [PreOf, factOf, valOf, Ph.is, Ph.any, Region.binds, hG] at hp
        exact ⟨by simp [Gd, valOf, hp], by simp [Ph.is]⟩
      | false =>
        refine ob_yes fun f w' hb hp => ?_
        simp [PreOf, factOf, valOf, Ph.is, Ph.any, Region.binds, hG] at hp
        refine ⟨by simp [Gd, valOf, hp], ?_⟩
        refine mild_val (.pointer (some ⟨w.heap.size + 1, 3, none⟩)) ?_ (by simp [Ph.is, hG])
        simp [execOp, evalF, hp, go_sem, hG]
    · -- 27: slot 41 := Op.load 60 t40
      cases hG : ((b1 || b2 || b3 || b4)) with
      | true =>
        refine ob_no fun f w' hb hp => ?_
        simp [PreOf, factOf, valOf, Ph.is, Ph.any, Region.binds, hG] at hp
        exact ⟨by simp [Gd, valOf, hp], by simp [Ph.is]⟩
      | false =>
        refine ob_yes fun f w' hb hp => ?_
        simp [PreOf, factOf, valOf, Ph.is, Ph.any, Region.binds, hG] at hp
        refine ⟨by simp [Gd, valOf, hp], ?_⟩
        have hc := (Xf.out.blwM hb).cell 3 _ rfl
        refine mild_val (.slice Ab fl.blocks.length cb) ?_ (by simp [Ph.is, hG])
        simp [execOp, evalF, hp, hc, go_sem, hG]
    · -- 28: slot 42 := Op.call   builtin len, args := #[t41], argTypes := #[60]  
      cases hG : ((b1 || b2 || b3 || b4)) with
      | true =>
        refine ob_no fun f w' hb hp => ?_
        simp [PreOf, factOf, valOf, Ph.is, Ph.any, Region.binds, hG] at hp
        exact ⟨by simp [Gd, valOf, hp], by simp [Ph.is]⟩
      | false =>
        refine ob_yes fun f w' hb hp => ?_
        simp [PreOf, factOf, valOf, Ph.is, Ph.any, Region.binds, hG] at hp
        refine ⟨by simp [Gd, valOf, hp], ?_⟩
        refine mild_val (.int .i64 (fl.blocks.length : Int)) ?_ (by simp [Ph.is, hG])
        simp [execOp, evalF, hp, go_sem, hG]
    · -- 29: slot 43 := Op.binOp BinOp.neq 3 t39 t42 3
      cases hG : ((b1 || b2 || b3 || b4)) with
      | true =>
        refine ob_no fun f w' hb hp => ?_
        simp [PreOf, factOf, valOf, Ph.is, Ph.any, Region.binds, hG] at hp
        exact ⟨by simp [Gd, valOf, hp], by simp [Ph.is]⟩
      | false =>
        refine ob_yes fun f w' hb hp => ?_
        simp [PreOf, factOf, valOf, Ph.is, Ph.any, Region.binds, hG] at hp
        refine ⟨by simp [Gd, valOf, hp], ?_⟩
        refine mild_val (.bool b5) ?_ (by simp [Ph.is, hG])
        simp [execOp, evalF, hp, go_sem, hG]
        first | done | (rw [B5.out]; try first | rfl | exact decide_eq_decide.2 (by omega) | (simp; done) | (simp <;> omega) | (simp <;> rfl))
    · -- 30: slot 44 := Op.pick t36 (const (Value.bool true)) t43
      cases hG : ((b1 || b2 || b3 || b4)) with
      | true =>
        refine ob_yes fun f w' hb hp => ?_
        simp [PreOf, factOf, valOf, Ph.is, Ph.any, Region.binds, hG] at hp
        refine ⟨by simp [Gd, valOf, hp], ?_⟩
        refine mild_val (.bool (b1 || b2 || b3 || b4 || b5)) ?_ (by simp [Ph.is, hG])
        simp [execOp, evalF, hp, go_sem, hG]
      | false =>
        refine ob_yes fun f w' hb hp => ?_
        simp [PreOf, factOf, valOf, Ph.is, Ph.any, Region.binds, hG] at hp
        refine ⟨by simp [Gd, valOf, hp], ?_⟩
        refine mild_val (.bool (b1 || b2 || b3 || b4 || b5)) ?_ (by simp [Ph.is, hG])
        simp [execOp, evalF, hp, go_sem, hG]
  · intro f w2 hb2 hp
    simp only [PostOf, Ph.is, Ph.any] at hp
    obtain ⟨h0, h1, h2, h3, h4, h5, h6, h7, h8, h9, h10, h11, h12, h13, h14, h15, h16, h17, h18, h19, h20, h21, h22, h23, h24, h25, h26, h27, h28, h29, h30, _⟩ := hp
    simp only [fills, List.foldl_cons, List.foldl_nil, Act.put, List.setIfInBounds_toArray, List.set_cons_zero, List.set_cons_succ, h0, h1, h2, h3, h4, h9, h10, h16, h17, h21, h22, h30]
    clear h0 h1 h2 h3 h4 h9 h10 h16 h17 h21 h22 h30 h5 h6 h7 h8 h11 h12 h13 h14 h15 h18 h19 h20 h23 h24 h25 h26 h27 h28 h29
    generalize f 19 = v19
    generalize f 20 = v20
    generalize f 21 = v21
    generalize f 22 = v22
    generalize f 25 = v25
    generalize f 26 = v26
    generalize f 27 = v27
    generalize f 28 = v28
    generalize f 29 = v29
    generalize f 32 = v32
    generalize f 33 = v33
    generalize f 34 = v34
    generalize f 37 = v37
    generalize f 38 = v38
    generalize f 39 = v39
    generalize f 40 = v40
    generalize f 41 = v41
    generalize f 42 = v42
    generalize f 43 = v43
    have hb0 := Hb.out.trans (hb2.mono (by omega))
    have hbf : Below wf.heap.size wf w2 := hb2
    have Hb0 := Lib.hid hb0
    have Hb0' := Hb
    have Hbf := Lib.hid hbf
    clear hb0 hbf hb2
    cases hB : (b1 || b2 || b3 || b4 || b5) with
    | true =>
      rw [hB] at Hbas
      have hr : fileR m.next (m.files.take i) fl = false := by unfold fileR; rw [Hbas.out]; rfl
      have Hr := Lib.hid hr
      clear hr
      go_wp2_with fail
      go_ret
      exact ⟨by rw [Hr.out]; rfl, Hb0.out⟩
    | false =>
      rw [hB] at Hbas
      have hr : fileR m.next (m.files.take i) fl = ((m.files.take i).all (fun p => besideF p fl) && blocksOk (m.files.take i) fl.blocks fl.blocks.length) := by unfold fileR; rw [Hbas.out]; simp
      have Hr := Lib.hid hr
      clear hr
      go_wp2_with fail
      go_loopw [6] (fun iv wr => ∃ p : Nat, p ≤ i ∧ iv = .int .i64 p ∧ (m.files.take p).all (fun q => besideF q fl) = true ∧ Below wf.heap.size wf wr) (fun iv _ => i - (intOf iv).toNat)
      case atStart => exact ⟨0, by omega, rfl, rfl, Hbf.out⟩
      case round =>
        obtain ⟨p, hp0, rfl, hbes, hbr⟩ := hrel
        have Hbr := Lib.hid hbr
        clear hbr
        by_cases hlt : p < i
        · have hpl : p < m.files.length := by omega
          obtain ⟨_, ad', vp, e, hab', hpI, hpo, hcp⟩ := Hf.out.cells p hpl
          injection e with e
          subst e
          obtain ⟨Ap, cp, rfl, hcp1, hcp2⟩ := hpI.form
          have hsn : (m.files.take (p + 1)).all (fun q => besideF q fl) = besideF m.files[p] fl := by
            rw [List.take_add_one, List.getElem?_eq_getElem hpl, Option.toList_some, List.all_append, hbes]; simp
          have hin : besideF m.files[p] fl = false → (m.files.take i).all (fun q => besideF q fl) = false := fun h => by
            rw [List.all_eq_false]
            exact ⟨m.files[p], by rw [List.mem_take_iff_getElem]; exact ⟨p, by omega, rfl⟩, by rw [h]; simp⟩
          generalize hpk : m.files[p] = pf at *
          have hpid := u32_lt pf.id
          have Hsn := Lib.hid hsn
          have Hin := Lib.hid hin
          have Hcp := Lib.hid hcp
          have hbs : besideF pf fl = !(decide (pf.id = fl.id) || !(bless pf.name fl.name)) := rfl
          have hidc : decide ((pf.id.toNat : Int) = (fl.id.toNat : Int)) = decide (pf.id = fl.id) := decide_eq_decide.2 (by rw [← UInt32.toNat_inj]; omega)
          obtain ⟨c1, hc1⟩ : ∃ b, b = decide ((pf.id.toNat : Int) = (fl.id.toNat : Int)) := ⟨_, rfl⟩
          obtain ⟨c2, hc2⟩ : ∃ b, b = !(bless pf.name fl.name) := ⟨_, rfl⟩
          rw [← hidc, ← hc1, ← hc2] at hbs
          have C1 := Lib.hid hc1
          have C2 := Lib.hid hc2
          have Hbs := Lib.hid hbs
          have ha1 := add_mid' (ad.add (p * 4)) 1 (by decide)
          have ha0 : ((ad.add (p * 4)).add 0) = ad.add (p * 4) := by simp [Addr.add]
          clear hsn hin hcp hbs hidc hc1 hc2 hpI hpo hpk
          go_wp2_with fail
          refine wp_region_typed [some 50, some 51, some 52, some 53, some 54, some 55, some 56, some 57, some 58, some 59, some 60, some 61, some 62, some 63, some 64, some 65, some 66, some 67, some 68, some 69] [50, 51, 52, 53, 54, 55, 56, 57, 58, 59, 60, 61, 62, 63, 64, 65, 66, 67, 68, 69]
            [Ph.is (.pointer (some ⟨w.heap.size, 2, none⟩)),
              Ph.is (.slice (some ad) m.files.length c),
              Ph.is (.int .i64 (p : Int)),
              Ph.is (.pointer (some (ad.add (p * 4)))),
              Ph.is (.pointer (some { block := (ad.add (p * 4)).block, off := (ad.add (p * 4)).off + 1 })),
              Ph.is (.int .u32 (pf.id.toNat : Int)),
              Ph.is (.pointer (some ⟨w.heap.size + 1, 1, none⟩)),
              Ph.is (.int .u32 (fl.id.toNat : Int)),
              Ph.is (.bool c1),
              Ph.is (.bool (c1)),
              Ph.is (bif c1 then undef else .pointer (some ⟨w.heap.size, 2, none⟩)),
              Ph.is (bif c1 then undef else .slice (some ad) m.files.length c),
              Ph.is (bif c1 then undef else .int .i64 (p : Int)),
              Ph.is (bif c1 then undef else .pointer (some (ad.add (p * 4)))),
              Ph.is (bif c1 then undef else .pointer (some (ad.add (p * 4)))),
              Ph.is (bif c1 then undef else .string (bst pf.name)),
              Ph.is (bif c1 then undef else .pointer (some ⟨w.heap.size + 1, 0, none⟩)),
              Ph.is (bif c1 then undef else .string (bst fl.name)),
              Ph.is (bif c1 then undef else .bool c2),
              Ph.is (.bool (c1 || c2))] rfl rfl (by kernel_rfl) (by kernel_rfl) ?_ ?_
          · refine ⟨?_, ?_, ?_, ?_, ?_, ?_, ?_, ?_, ?_, ?_, ?_, ?_, ?_, ?_, ?_, ?_, ?_, ?_, ?_, ?_, trivial⟩
            · -- 0: slot 50 := Op.fieldAddr 56 t2 2
              refine ob_yes fun f w' hb hp => ?_
              simp [PreOf, factOf, valOf, Ph.is, Ph.any, Region.binds] at hp
              refine ⟨by simp [Gd, valOf, hp], ?_⟩
              refine mild_val (.pointer (some ⟨w.heap.size, 2, none⟩)) ?_ (by simp [Ph.is])
              simp [execOp, evalF, hp, go_sem]
            · -- 1: slot 51 := Op.load 54 t50
              refine ob_yes fun f w' hb hp => ?_
              simp [PreOf, factOf, valOf, Ph.is, Ph.any, Region.binds] at hp
              refine ⟨by simp [Gd, valOf, hp], ?_⟩
              have hc := (Xm.out.blwM (Hbr.out.trans (hb.mono Hbr.out.size))).cell 2 _ rfl
              refine mild_val (.slice (some ad) m.files.length c) ?_ (by simp [Ph.is])
              simp [execOp, evalF, hp, hc, go_sem]
            · -- 2: slot 52 := Op.move t6
              refine ob_yes fun f w' hb hp => ?_
              simp [PreOf, factOf, valOf, Ph.is, Ph.any, Region.binds] at hp
              refine ⟨by simp [Gd, valOf, hp], ?_⟩
              refine mild_val (.int .i64 (p : Int)) ?_ (by simp [Ph.is])
              simp [execOp, evalF, hp, go_sem]
            · -- 3: slot 53 := Op.indexAddr 54 t51 t52
              refine ob_yes fun f w' hb hp => ?_
              simp [PreOf, factOf, valOf, Ph.is, Ph.any, Region.binds] at hp
              refine ⟨by simp [Gd, valOf, hp], ?_⟩
              refine mild_val (.pointer (some (ad.add (p * 4)))) ?_ (by simp [Ph.is])
              simp [execOp, evalF, hp, go_sem, hpl]
            · -- 4: slot 54 := Op.fieldAddr 62 t53 1
              refine ob_yes fun f w' hb hp => ?_
              simp [PreOf, factOf, valOf, Ph.is, Ph.any, Region.binds] at hp
              refine ⟨by simp [Gd, valOf, hp], ?_⟩
              refine mild_val (.pointer (some { block := (ad.add (p * 4)).block, off := (ad.add (p * 4)).off + 1 })) ?_ (by simp [Ph.is])
              simp [execOp, evalF, hp, go_sem]
            · -- 5: slot 55 := Op.load 53 t54
              refine ob_yes fun f w' hb hp => ?_
              simp [PreOf, factOf, valOf, Ph.is, Ph.any, Region.binds] at hp
              refine ⟨by simp [Gd, valOf, hp], ?_⟩
              have hc := ((Hbr.out.trans (hb.mono Hbr.out.size)).cell (p := (ad.add (p * 4)).add 1) (by rw [add_block, add_block]; omega)).trans (Hcp.out 1 _ rfl)
              rw [ha1] at hc
              refine mild_val (.int .u32 (pf.id.toNat : Int)) ?_ (by simp [Ph.is])
              simp [execOp, evalF, hp, hc, go_sem]
            · -- 6: slot 56 := Op.fieldAddr 62 t5 1
              refine ob_yes fun f w' hb hp => ?_
              simp [PreOf, factOf, valOf, Ph.is, Ph.any, Region.binds] at hp
              refine ⟨by simp [Gd, valOf, hp], ?_⟩
              refine mild_val (.pointer (some ⟨w.heap.size + 1, 1, none⟩)) ?_ (by simp [Ph.is])
              simp [execOp, evalF, hp, go_sem]
            · -- 7: slot 57 := Op.load 53 t56
              refine ob_yes fun f w' hb hp => ?_
              simp [PreOf, factOf, valOf, Ph.is, Ph.any, Region.binds] at hp
              refine ⟨by simp [Gd, valOf, hp], ?_⟩
              have hc := (Xf.out.blwM (Hbr.out.trans (hb.mono Hbr.out.size))).cell 1 _ rfl
              refine mild_val (.int .u32 (fl.id.toNat : Int)) ?_ (by simp [Ph.is])
              simp [execOp, evalF, hp, hc, go_sem]
            · -- 8: slot 58 := Op.binOp BinOp.eql 53 t55 t57 53
              refine ob_yes fun f w' hb hp => ?_
              simp [PreOf, factOf, valOf, Ph.is, Ph.any, Region.binds] at hp
              refine ⟨by simp [Gd, valOf, hp], ?_⟩
              refine mild_val (.bool c1) ?_ (by simp [Ph.is])
              simp [execOp, evalF, hp, go_sem]
              first | done | (rw [C1.out]; try first | rfl | exact decide_eq_decide.2 (by omega) | (simp; done) | (simp <;> omega) | (simp <;> rfl))
            · -- 9: slot 59 := Op.move t58
              refine ob_yes fun f w' hb hp => ?_
              simp [PreOf, factOf, valOf, Ph.is, Ph.any, Region.binds] at hp
              refine ⟨by simp [Gd, valOf, hp], ?_⟩
              refine mild_val (.bool (c1)) ?_ (by simp [Ph.is])
              simp [execOp, evalF, hp, go_sem]
            · -- 10: slot 60 := Op.fieldAddr 56 t2 2
              cases hG : (c1) with
              | true =>
                refine ob_no fun f w' hb hp => ?_
                simp [PreOf, factOf, valOf, Ph.is, Ph.any, Region.binds, hG] at hp
                exact ⟨by simp [Gd, valOf, hp], by simp [Ph.is]⟩
              | false =>
                refine ob_yes fun f w' hb hp => ?_
                simp [PreOf, factOf, valOf, Ph.is, Ph.any, Region.binds, hG] at hp
                refine ⟨by simp [Gd, valOf, hp], ?_⟩
                refine mild_val (.pointer (some ⟨w.heap.size, 2, none⟩)) ?_ (by simp [Ph.is, hG])
                simp [execOp, evalF, hp, go_sem, hG]
            · -- 11: slot 61 := Op.load 54 t60
              cases hG : (c1) with
              | true =>
                refine ob_no fun f w' hb hp => ?_
                simp [PreOf, factOf, valOf, Ph.is, Ph.any, Region.binds, hG] at hp
                exact ⟨by simp [Gd, valOf, hp], by simp [Ph.is]⟩
              | false =>
                refine ob_yes fun f w' hb hp => ?_
                simp [PreOf, factOf, valOf, Ph.is, Ph.any, Region.binds, hG] at hp
                refine ⟨by simp [Gd, valOf, hp], ?_⟩
                have hc := (Xm.out.blwM (Hbr.out.trans (hb.mono Hbr.out.size))).cell 2 _ rfl
                refine mild_val (.slice (some ad) m.files.length c) ?_ (by simp [Ph.is, hG])
                simp [execOp, evalF, hp, hc, go_sem, hG]
            · -- 12: slot 62 := Op.move t6
              cases hG : (c1) with
              | true =>
                refine ob_no fun f w' hb hp => ?_
                simp [PreOf, factOf, valOf, Ph.is, Ph.any, Region.binds, hG] at hp
                exact ⟨by simp [Gd, valOf, hp], by simp [Ph.is]⟩
              | false =>
                refine ob_yes fun f w' hb hp => ?_
                simp [PreOf, factOf, valOf, Ph.is, Ph.any, Region.binds, hG] at hp
                refine ⟨by simp [Gd, valOf, hp], ?_⟩
                refine mild_val (.int .i64 (p : Int)) ?_ (by simp [Ph.is, hG])
                simp [execOp, evalF, hp, go_sem, hG]
            · -- 13: slot 63 := Op.indexAddr 54 t61 t62
              cases hG : (c1) with
              | true =>
                refine ob_no fun f w' hb hp => ?_
                simp [PreOf, factOf, valOf, Ph.is, Ph.any, Region.binds, hG] at hp
                exact ⟨by simp [Gd, valOf, hp], by simp [Ph.is]⟩
              | false =>
                refine ob_yes fun f w' hb hp => ?_
                simp [PreOf, factOf, valOf, Ph.is, Ph.any, Region.binds, hG] at hp
                refine ⟨by simp [Gd, valOf, hp], ?_⟩
                refine mild_val (.pointer (some (ad.add (p * 4)))) ?_ (by simp [Ph.is, hG])
                simp [execOp, evalF, hp, go_sem, hpl, hG]
            · -- 14: slot 64 := Op.fieldAddr 62 t63 0
              cases hG : (c1) with
              | true =>
                refine ob_no fun f w' hb hp => ?_
                simp [PreOf, factOf, valOf, Ph.is, Ph.any, Region.binds, hG] at hp
                exact ⟨by simp [Gd, valOf, hp], by simp [Ph.is]⟩
              | false =>
                refine ob_yes fun f w' hb hp => ?_
                simp [PreOf, factOf, valOf, Ph.is, Ph.any, Region.binds, hG] at hp
                refine ⟨by simp [Gd, valOf, hp], ?_⟩
                refine mild_val (.pointer (some (ad.add (p * 4)))) ?_ (by simp [Ph.is, hG])
                simp [execOp, evalF, hp, go_sem, hG]
            · -- 15: slot 65 := Op.load 9 t64
              cases hG : (c1) with
              | true =>
                refine ob_no fun f w' hb hp => ?_
                simp [PreOf, factOf, valOf, Ph.is, Ph.any, Region.binds, hG] at hp
                exact ⟨by simp [Gd, valOf, hp], by simp [Ph.is]⟩
              | false =>
                refine ob_yes fun f w' hb hp => ?_
                simp [PreOf, factOf, valOf, Ph.is, Ph.any, Region.binds, hG] at hp
                refine ⟨by simp [Gd, valOf, hp], ?_⟩
                have hc := ((Hbr.out.trans (hb.mono Hbr.out.size)).cell (p := (ad.add (p * 4)).add 0) (by rw [add_block, add_block]; omega)).trans (Hcp.out 0 _ rfl)
                rw [ha0] at hc
                refine mild_val (.string (bst pf.name)) ?_ (by simp [Ph.is, hG])
                simp [execOp, evalF, hp, hc, go_sem, hG]
            · -- 16: slot 66 := Op.fieldAddr 62 t5 0
              cases hG : (c1) with
              | true =>
                refine ob_no fun f w' hb hp => ?_
                simp [PreOf, factOf, valOf, Ph.is, Ph.any, Region.binds, hG] at hp
                exact ⟨by simp [Gd, valOf, hp], by simp [Ph.is]⟩
              | false =>
                refine ob_yes fun f w' hb hp => ?_
                simp [PreOf, factOf, valOf, Ph.is, Ph.any, Region.binds, hG] at hp
                refine ⟨by simp [Gd, valOf, hp], ?_⟩
                refine mild_val (.pointer (some ⟨w.heap.size + 1, 0, none⟩)) ?_ (by simp [Ph.is, hG])
                simp [execOp, evalF, hp, go_sem, hG]
            · -- 17: slot 67 := Op.load 9 t66
              cases hG : (c1) with
              | true =>
                refine ob_no fun f w' hb hp => ?_
                simp [PreOf, factOf, valOf, Ph.is, Ph.any, Region.binds, hG] at hp
                exact ⟨by simp [Gd, valOf, hp], by simp [Ph.is]⟩
              | false =>
                refine ob_yes fun f w' hb hp => ?_
                simp [PreOf, factOf, valOf, Ph.is, Ph.any, Region.binds, hG] at hp
                refine ⟨by simp [Gd, valOf, hp], ?_⟩
                have hc := (Xf.out.blwM (Hbr.out.trans (hb.mono Hbr.out.size))).cell 0 _ rfl
                refine mild_val (.string (bst fl.name)) ?_ (by simp [Ph.is, hG])
                simp [execOp, evalF, hp, hc, go_sem, hG]
            · -- 18: slot 68 := Op.binOp BinOp.geq 9 t65 t67 9
              cases hG : (c1) with
              | true =>
                refine ob_no fun f w' hb hp => ?_
                simp [PreOf, factOf, valOf, Ph.is, Ph.any, Region.binds, hG] at hp
                exact ⟨by simp [Gd, valOf, hp], by simp [Ph.is]⟩
              | false =>
                refine ob_yes fun f w' hb hp => ?_
                simp [PreOf, factOf, valOf, Ph.is, Ph.any, Region.binds, hG] at hp
                refine ⟨by simp [Gd, valOf, hp], ?_⟩
                refine mild_val (.bool c2) ?_ (by simp [Ph.is, hG])
                simp [execOp, evalF, hp, go_sem, hG, Op.stringOp, bst_toList]
                first | done | (rw [C2.out]; try first | rfl | exact decide_eq_decide.2 (by omega) | (simp; done) | (simp <;> omega) | (simp <;> rfl))
            · -- 19: slot 69 := Op.pick t59 (const (Value.bool true)) t68
              cases hG : (c1) with
              | true =>
                refine ob_yes fun f w' hb hp => ?_
                simp [PreOf, factOf, valOf, Ph.is, Ph.any, Region.binds, hG] at hp
                refine ⟨by simp [Gd, valOf, hp], ?_⟩
                refine mild_val (.bool (c1 || c2)) ?_ (by simp [Ph.is, hG])
                simp [execOp, evalF, hp, go_sem, hG]
              | false =>
                refine ob_yes fun f w' hb hp => ?_
                simp [PreOf, factOf, valOf, Ph.is, Ph.any, Region.binds, hG] at hp
                refine ⟨by simp [Gd, valOf, hp], ?_⟩
                refine mild_val (.bool (c1 || c2)) ?_ (by simp [Ph.is, hG])
                simp [execOp, evalF, hp, go_sem, hG]
          · intro f w2 hb2 hp
            simp only [PostOf, Ph.is, Ph.any] at hp
            obtain ⟨h0, h1, h2, h3, h4, h5, h6, h7, h8, h9, h10, h11, h12, h13, h14, h15, h16, h17, h18, h19, _⟩ := hp
            simp only [fills, List.foldl_cons, List.foldl_nil, Act.put, List.setIfInBounds_toArray, List.set_cons_zero, List.set_cons_succ, h0, h1, h2, h3, h4, h5, h6, h7, h8, h9, h19]
            clear h0 h1 h2 h3 h4 h5 h6 h7 h8 h9 h19 h10 h11 h12 h13 h14 h15 h16 h17 h18
            generalize f 60 = v60
            generalize f 61 = v61
            generalize f 62 = v62
            generalize f 63 = v63
            generalize f 64 = v64
            generalize f 65 = v65
            generalize f 66 = v66
            generalize f 67 = v67
            generalize f 68 = v68
            have hb3 := Hbr.out.trans (hb2.mono Hbr.out.size)
            cases hC : (c1 || c2) with
            | true =>
              rw [hC] at Hbs
              go_wp2_with fail
              go_ret
              exact ⟨by rw [Hr.out, Hin.out (by rw [Hbs.out]; rfl)]; rfl, Hb0'.out.trans (hb3.mono (by omega))⟩
            | false =>
              rw [hC] at Hbs
              go_wp2_with fail
              go_roundw
              case rel => exact ⟨p + 1, by omega, by go_num, by rw [Hsn.out, Hbs.out]; rfl, hb3⟩
              case measure => simp [intOf]; omega
        · obtain rfl : p = i := by omega
          rw [hbes, Bool.true_and] at Hr
          have m3_r := (Xf.out.blwM Hbr.out).cell 3 _ rfl
          clear hbes
          go_wp2_with fail
          go_loopw [73] (fun iv wr => ∃ a : Nat, a ≤ fl.blocks.length ∧ iv = .int .i64 a ∧ blocksOk (m.files.take p) fl.blocks a = true ∧ Below wf.heap.size wf wr) (fun iv _ => fl.blocks.length - (intOf iv).toNat)
          case atStart => exact ⟨0, by omega, rfl, rfl, Hbr.out⟩
          case round =>
            clear m3_r Hbr
            obtain ⟨a, ha, rfl, hok, hbr⟩ := hrel
            have Hbr := Lib.hid hbr
            clear hbr
            by_cases hat : a < fl.blocks.length
            · obtain ⟨_, ad2, rfl, hab2, hca, hx1, hx2⟩ := HbI.out.cells a hat
              have hsn := blocksOk_succ (m.files.take p) fl.blocks a
              have hfa := fun h => blocksOk_false (m.files.take p) fl.blocks a h fl.blocks.length hat
              have hbo := blockOk_eq (m.files.take p) fl.blocks a hat
              rw [hok, Bool.true_and] at hsn
              
              generalize hxx : fl.blocks[a] = x at *
              obtain ⟨d1, hd1⟩ : ∃ b, b = decide (x < 32) := ⟨_, rfl⟩
              obtain ⟨d2, hd2⟩ : ∃ b, b = decide (65536 ≤ x) := ⟨_, rfl⟩
              obtain ⟨d3, hd3⟩ : ∃ b, b = decide (x ∈ fl.blocks.take a) := ⟨_, rfl⟩
              rw [← hd1, ← hd2, ← hd3] at hbo
              rw [← hsn] at hbo
              have D1 := Lib.hid hd1
              have D2 := Lib.hid hd2
              have D3 := Lib.hid hd3
              have Hbo := Lib.hid hbo
              have Hfa := Lib.hid hfa
              have Hca := Lib.hid hca
              clear hd1 hd2 hd3 hbo hfa hca hsn hok hxx
              go_wp2_with fail
              refine wp_region_typed [some 76, some 77, some 78, some 79, some 80, some 81, some 82, some 83, some 84, some 85, some 86, some 87, some 88, some 89, some 90, some 91, some 92, some 93, some 94, some 95, some 96, some 97, some 98, some 99, some 100, some 101] [76, 77, 78, 79, 80, 81, 82, 83, 84, 85, 86, 87, 88, 89, 90, 91, 92, 93, 94, 95, 96, 97, 98, 99, 100, 101]
                [Ph.is (.pointer (some ⟨w.heap.size + 1, 3, none⟩)),
                  Ph.is (.slice (some ad2) fl.blocks.length cb),
                  Ph.is (.int .i64 (a : Int)),
                  Ph.is (.pointer (some (ad2.add a))),
                  Ph.is (.int .i64 x),
                  Ph.is (.bool d1),
                  Ph.is (.bool (d1)),
                  Ph.is (bif d1 then undef else .pointer (some ⟨w.heap.size + 1, 3, none⟩)),
                  Ph.is (bif d1 then undef else .slice (some ad2) fl.blocks.length cb),
                  Ph.is (bif d1 then undef else .int .i64 (a : Int)),
                  Ph.is (bif d1 then undef else .pointer (some (ad2.add a))),
                  Ph.is (bif d1 then undef else .int .i64 x),
                  Ph.is (bif d1 then undef else .bool d2),
                  Ph.is (.bool (d1 || d2)),
                  Ph.is (.bool ((d1 || d2))),
                  Ph.is (bif (d1 || d2) then undef else .pointer (some ⟨w.heap.size + 1, 3, none⟩)),
                  Ph.is (bif (d1 || d2) then undef else .slice (some ad2) fl.blocks.length cb),
                  Ph.is (bif (d1 || d2) then undef else .int .i64 (a : Int)),
                  Ph.is (bif (d1 || d2) then undef else .pointer (some (ad2.add a))),
                  Ph.is (bif (d1 || d2) then undef else .int .i64 x),
                  Ph.is (bif (d1 || d2) then undef else .pointer (some ⟨w.heap.size + 1, 3, none⟩)),
                  Ph.is (bif (d1 || d2) then undef else .slice (some ad2) fl.blocks.length cb),
                  Ph.is (bif (d1 || d2) then undef else .int .i64 (a : Int)),
                  Ph.is (bif (d1 || d2) then undef else .slice (some ad2) a cb),
                  Ph.is (bif (d1 || d2) then undef else .bool d3),
                  Ph.is (.bool (d1 || d2 || d3))] rfl rfl (by kernel_rfl) (by kernel_rfl) ?_ ?_
              · refine ⟨?_, ?_, ?_, ?_, ?_, ?_, ?_, ?_, ?_, ?_, ?_, ?_, ?_, ?_, ?_, ?_, ?_, ?_, ?_, ?_, ?_, ?_, ?_, ?_, ?_, ?_, trivial⟩
                · -- 0: slot 76 := Op.fieldAddr 62 t5 3
                  refine ob_yes fun f w' hb hp => ?_
                  simp [PreOf, factOf, valOf, Ph.is, Ph.any, Region.binds] at hp
                  refine ⟨by simp [Gd, valOf, hp], ?_⟩
                  refine mild_val (.pointer (some ⟨w.heap.size + 1, 3, none⟩)) ?_ (by simp [Ph.is])
                  simp [execOp, evalF, hp, go_sem]
                · -- 1: slot 77 := Op.load 60 t76
                  refine ob_yes fun f w' hb hp => ?_
                  simp [PreOf, factOf, valOf, Ph.is, Ph.any, Region.binds] at hp
                  refine ⟨by simp [Gd, valOf, hp], ?_⟩
                  have hc := (Xf.out.blwM (Hbr.out.trans (hb.mono Hbr.out.size))).cell 3 _ rfl
                  refine mild_val (.slice (some ad2) fl.blocks.length cb) ?_ (by simp [Ph.is])
                  simp [execOp, evalF, hp, hc, go_sem]
                · -- 2: slot 78 := Op.move t7
                  refine ob_yes fun f w' hb hp => ?_
                  simp [PreOf, factOf, valOf, Ph.is, Ph.any, Region.binds] at hp
                  refine ⟨by simp [Gd, valOf, hp], ?_⟩
                  refine mild_val (.int .i64 (a : Int)) ?_ (by simp [Ph.is])
                  simp [execOp, evalF, hp, go_sem]
                · -- 3: slot 79 := Op.indexAddr 60 t77 t78
                  refine ob_yes fun f w' hb hp => ?_
                  simp [PreOf, factOf, valOf, Ph.is, Ph.any, Region.binds] at hp
                  refine ⟨by simp [Gd, valOf, hp], ?_⟩
                  refine mild_val (.pointer (some (ad2.add a))) ?_ (by simp [Ph.is])
                  simp [execOp, evalF, hp, go_sem, hat]
                · -- 4: slot 80 := Op.load 3 t79
                  refine ob_yes fun f w' hb hp => ?_
                  simp [PreOf, factOf, valOf, Ph.is, Ph.any, Region.binds] at hp
                  refine ⟨by simp [Gd, valOf, hp], ?_⟩
                  have hc := ((Hbr.out.trans (hb.mono Hbr.out.size)).cell (p := ad2.add a) (by rw [add_block]; omega)).trans Hca.out
                  refine mild_val (.int .i64 x) ?_ (by simp [Ph.is])
                  simp [execOp, evalF, hp, hc, go_sem]
                · -- 5: slot 81 := Op.binOp BinOp.lss 3 t80 (const (32:i64)) 3
                  refine ob_yes fun f w' hb hp => ?_
                  simp [PreOf, factOf, valOf, Ph.is, Ph.any, Region.binds] at hp
                  refine ⟨by simp [Gd, valOf, hp], ?_⟩
                  refine mild_val (.bool d1) ?_ (by simp [Ph.is])
                  simp [execOp, evalF, hp, go_sem]
                  first | done | (rw [D1.out]; try first | rfl | exact decide_eq_decide.2 (by omega) | (simp; done) | (simp <;> omega) | (simp <;> rfl))
                · -- 6: slot 82 := Op.move t81
                  refine ob_yes fun f w' hb hp => ?_
                  simp [PreOf, factOf, valOf, Ph.is, Ph.any, Region.binds] at hp
                  refine ⟨by simp [Gd, valOf, hp], ?_⟩
                  refine mild_val (.bool (d1)) ?_ (by simp [Ph.is])
                  simp [execOp, evalF, hp, go_sem]
                · -- 7: slot 83 := Op.fieldAddr 62 t5 3
                  cases hG : (d1) with
                  | true =>
                    refine ob_no fun f w' hb hp => ?_
                    simp [PreOf, factOf, valOf, Ph.is, Ph.any, Region.binds, hG] at hp
                    exact ⟨by simp [Gd, valOf, hp], by simp [Ph.is]⟩
                  | false =>
                    refine ob_yes fun f w' hb hp => ?_
                    simp [PreOf, factOf, valOf, Ph.is, Ph.any, Region.binds, hG] at hp
                    refine ⟨by simp [Gd, valOf, hp], ?_⟩
                    refine mild_val (.pointer (some ⟨w.heap.size + 1, 3, none⟩)) ?_ (by simp [Ph.is, hG])
                    simp [execOp, evalF, hp, go_sem, hG]
                · -- 8: slot 84 := Op.load 60 t83
                  cases hG : (d1) with
                  | true =>
                    refine ob_no fun f w' hb hp => ?_
                    simp [PreOf, factOf, valOf, Ph.is, Ph.any, Region.binds, hG] at hp
                    exact ⟨by simp [Gd, valOf, hp], by simp [Ph.is]⟩
                  | false =>
                    refine ob_yes fun f w' hb hp => ?_
                    simp [PreOf, factOf, valOf, Ph.is, Ph.any, Region.binds, hG] at hp
                    refine ⟨by simp [Gd, valOf, hp], ?_⟩
                    have hc := (Xf.out.blwM (Hbr.out.trans (hb.mono Hbr.out.size))).cell 3 _ rfl
                    refine mild_val (.slice (some ad2) fl.blocks.length cb) ?_ (by simp [Ph.is, hG])
                    simp [execOp, evalF, hp, hc, go_sem, hG]
                · -- 9: slot 85 := Op.move t7
                  cases hG : (d1) with
                  | true =>
                    refine ob_no fun f w' hb hp => ?_
                    simp [PreOf, factOf, valOf, Ph.is, Ph.any, Region.binds, hG] at hp
                    exact ⟨by simp [Gd, valOf, hp], by simp [Ph.is]⟩
                  | false =>
                    refine ob_yes fun f w' hb hp => ?_
                    simp [PreOf, factOf, valOf, Ph.is, Ph.any, Region.binds, hG] at hp
                    refine ⟨by simp [Gd, valOf, hp], ?_⟩
                    refine mild_val (.int .i64 (a : Int)) ?_ (by simp [Ph.is, hG])
                    simp [execOp, evalF, hp, go_sem, hG]
                · -- 10: slot 86 := Op.indexAddr 60 t84 t85
                  cases hG : (d1) with
                  | true =>
                    refine ob_no fun f w' hb hp => ?_
                    simp [PreOf, factOf, valOf, Ph.is, Ph.any, Region.binds, hG] at hp
                    exact ⟨by simp [Gd, valOf, hp], by simp [Ph.is]⟩
                  | false =>
                    refine ob_yes fun f w' hb hp => ?_
                    simp [PreOf, factOf, valOf, Ph.is, Ph.any, Region.binds, hG] at hp
                    refine ⟨by simp [Gd, valOf, hp], ?_⟩
                    refine mild_val (.pointer (some (ad2.add a))) ?_ (by simp [Ph.is, hG])
                    simp [execOp, evalF, hp, go_sem, hat, hG]
                · -- 11: slot 87 := Op.load 3 t86
                  cases hG : (d1) with
                  | true =>
                    refine ob_no fun f w' hb hp => ?_
                    simp [PreOf, factOf, valOf, Ph.is, Ph.any, Region.binds, hG] at hp
                    exact ⟨by simp [Gd, valOf, hp], by simp [Ph.is]⟩
                  | false =>
                    refine ob_yes fun f w' hb hp => ?_
                    simp [PreOf, factOf, valOf, Ph.is, Ph.any, Region.binds, hG] at hp
                    refine ⟨by simp [Gd, valOf, hp], ?_⟩
                    have hc := ((Hbr.out.trans (hb.mono Hbr.out.size)).cell (p := ad2.add a) (by rw [add_block]; omega)).trans Hca.out
                    refine mild_val (.int .i64 x) ?_ (by simp [Ph.is, hG])
                    simp [execOp, evalF, hp, hc, go_sem, hG]
                · -- 12: slot 88 := Op.binOp BinOp.geq 3 t87 (const (65536:i64)) 3
                  cases hG : (d1) with
                  | true =>
                    refine ob_no fun f w' hb hp => ?_
                    simp [PreOf, factOf, valOf, Ph.is, Ph.any, Region.binds, hG] at hp
                    exact ⟨by simp [Gd, valOf, hp], by simp [Ph.is]⟩
                  | false =>
                    refine ob_yes fun f w' hb hp => ?_
                    simp [PreOf, factOf, valOf, Ph.is, Ph.any, Region.binds, hG] at hp
                    refine ⟨by simp [Gd, valOf, hp], ?_⟩
                    refine mild_val (.bool d2) ?_ (by simp [Ph.is, hG])
                    simp [execOp, evalF, hp, go_sem, hG]
                    first | done | (rw [D2.out]; try first | rfl | exact decide_eq_decide.2 (by omega) | (simp; done) | (simp <;> omega) | (simp <;> rfl))
                · -- 13: slot 89 := Op.pick t82 (const (Value.bool true)) t88
                  cases hG : (d1) with
                  | true =>
                    refine ob_yes fun f w' hb hp => ?_
                    simp [PreOf, factOf, valOf, Ph.is, Ph.any, Region.binds, hG] at hp
                    refine ⟨by simp [Gd, valOf, hp], ?_⟩
                    refine mild_val (.bool (d1 || d2)) ?_ (by simp [Ph.is, hG])
                    simp [execOp, evalF, hp, go_sem, hG]
                  | false =>
                    refine ob_yes fun f w' hb hp => ?_
                    simp [PreOf, factOf, valOf, Ph.is, Ph.any, Region.binds, hG] at hp
                    refine ⟨by simp [Gd, valOf, hp], ?_⟩
                    refine mild_val (.bool (d1 || d2)) ?_ (by simp [Ph.is, hG])
                    simp [execOp, evalF, hp, go_sem, hG]
                · -- 14: slot 90 := Op.move t89
                  refine ob_yes fun f w' hb hp => ?_
                  simp [PreOf, factOf, valOf, Ph.is, Ph.any, Region.binds] at hp
                  refine ⟨by simp [Gd, valOf, hp], ?_⟩
                  refine mild_val (.bool ((d1 || d2))) ?_ (by simp [Ph.is])
                  simp [execOp, evalF, hp, go_sem]
                · -- 15: slot 91 := Op.fieldAddr 62 t5 3
                  cases hG : ((d1 || d2)) with
                  | true =>
                    refine ob_no fun f w' hb hp => ?_
                    simp [PreOf, factOf, valOf, Ph.is, Ph.any, Region.binds, hG] at hp
                    exact ⟨by simp [Gd, valOf, hp], by simp [Ph.is]⟩
                  | false =>
                    refine ob_yes fun f w' hb hp => ?_
                    simp [PreOf, factOf, valOf, Ph.is, Ph.any, Region.binds, hG] at hp
                    refine ⟨by simp [Gd, valOf, hp], ?_⟩
                    refine mild_val (.pointer (some ⟨w.heap.size + 1, 3, none⟩)) ?_ (by simp [Ph.is, hG])
                    simp [execOp, evalF, hp, go_sem, hG]
                · -- 16: slot 92 := Op.load 60 t91
                  cases hG : ((d1 || d2)) with
                  | true =>
                    refine ob_no fun f w' hb hp => ?_
                    simp [PreOf, factOf, valOf, Ph.is, Ph.any, Region.binds, hG] at hp
                    exact ⟨by simp [Gd, valOf, hp], by simp [Ph.is]⟩
                  | false =>
                    refine ob_yes fun f w' hb hp => ?_
                    simp [PreOf, factOf, valOf, Ph.is, Ph.any, Region.binds, hG] at hp
                    refine ⟨by simp [Gd, valOf, hp], ?_⟩
                    have hc := (Xf.out.blwM (Hbr.out.trans (hb.mono Hbr.out.size))).cell 3 _ rfl
                    refine mild_val (.slice (some ad2) fl.blocks.length cb) ?_ (by simp [Ph.is, hG])
                    simp [execOp, evalF, hp, hc, go_sem, hG]
                · -- 17: slot 93 := Op.move t7
                  cases hG : ((d1 || d2)) with
                  | true =>
                    refine ob_no fun f w' hb hp => ?_
                    simp [PreOf, factOf, valOf, Ph.is, Ph.any, Region.binds, hG] at hp
                    exact ⟨by simp [Gd, valOf, hp], by simp [Ph.is]⟩
                  | false =>
                    refine ob_yes fun f w' hb hp => ?_
                    simp [PreOf, factOf, valOf, Ph.is, Ph.any, Region.binds, hG] at hp
                    refine ⟨by simp [Gd, valOf, hp], ?_⟩
                    refine mild_val (.int .i64 (a : Int)) ?_ (by simp [Ph.is, hG])
                    simp [execOp, evalF, hp, go_sem, hG]
                · -- 18: slot 94 := Op.indexAddr 60 t92 t93
                  cases hG : ((d1 || d2)) with
                  | true =>
                    refine ob_no fun f w' hb hp => ?_
                    simp [PreOf, factOf, valOf, Ph.is, Ph.any, Region.binds, hG] at hp
                    exact ⟨by simp [Gd, valOf, hp], by simp [Ph.is]⟩
                  | false =>
                    refine ob_yes fun f w' hb hp => ?_
                    simp [PreOf, factOf, valOf, Ph.is, Ph.any, Region.binds, hG] at hp
                    refine ⟨by simp [Gd, valOf, hp], ?_⟩
                    refine mild_val (.pointer (some (ad2.add a))) ?_ (by simp [Ph.is, hG])
                    simp [execOp, evalF, hp, go_sem, hat, hG]
                · -- 19: slot 95 := Op.load 3 t94
                  cases hG : ((d1 || d2)) with
                  | true =>
                    refine ob_no fun f w' hb hp => ?_
                    simp [PreOf, factOf, valOf, Ph.is, Ph.any, Region.binds, hG] at hp
                    exact ⟨by simp [Gd, valOf, hp], by simp [Ph.is]⟩
                  | false =>
                    refine ob_yes fun f w' hb hp => ?_
                    simp [PreOf, factOf, valOf, Ph.is, Ph.any, Region.binds, hG] at hp
                    refine ⟨by simp [Gd, valOf, hp], ?_⟩
                    have hc := ((Hbr.out.trans (hb.mono Hbr.out.size)).cell (p := ad2.add a) (by rw [add_block]; omega)).trans Hca.out
                    refine mild_val (.int .i64 x) ?_ (by simp [Ph.is, hG])
                    simp [execOp, evalF, hp, hc, go_sem, hG]
                · -- 20: slot 96 := Op.fieldAddr 62 t5 3
                  cases hG : ((d1 || d2)) with
                  | true =>
                    refine ob_no fun f w' hb hp => ?_
                    simp [PreOf, factOf, valOf, Ph.is, Ph.any, Region.binds, hG] at hp
                    exact ⟨by simp [Gd, valOf, hp], by simp [Ph.is]⟩
                  | false =>
                    refine ob_yes fun f w' hb hp => ?_
                    simp [PreOf, factOf, valOf, Ph.is, Ph.any, Region.binds, hG] at hp
                    refine ⟨by simp [Gd, valOf, hp], ?_⟩
                    refine mild_val (.pointer (some ⟨w.heap.size + 1, 3, none⟩)) ?_ (by simp [Ph.is, hG])
                    simp [execOp, evalF, hp, go_sem, hG]
                · -- 21: slot 97 := Op.load 60 t96
                  cases hG : ((d1 || d2)) with
                  | true =>
                    refine ob_no fun f w' hb hp => ?_
                    simp [PreOf, factOf, valOf, Ph.is, Ph.any, Region.binds, hG] at hp
                    exact ⟨by simp [Gd, valOf, hp], by simp [Ph.is]⟩
                  | false =>
                    refine ob_yes fun f w' hb hp => ?_
                    simp [PreOf, factOf, valOf, Ph.is, Ph.any, Region.binds, hG] at hp
                    refine ⟨by simp [Gd, valOf, hp], ?_⟩
                    have hc := (Xf.out.blwM (Hbr.out.trans (hb.mono Hbr.out.size))).cell 3 _ rfl
                    refine mild_val (.slice (some ad2) fl.blocks.length cb) ?_ (by simp [Ph.is, hG])
                    simp [execOp, evalF, hp, hc, go_sem, hG]
                · -- 22: slot 98 := Op.move t7
                  cases hG : ((d1 || d2)) with
                  | true =>
                    refine ob_no fun f w' hb hp => ?_
                    simp [PreOf, factOf, valOf, Ph.is, Ph.any, Region.binds, hG] at hp
                    exact ⟨by simp [Gd, valOf, hp], by simp [Ph.is]⟩
                  | false =>
                    refine ob_yes fun f w' hb hp => ?_
                    simp [PreOf, factOf, valOf, Ph.is, Ph.any, Region.binds, hG] at hp
                    refine ⟨by simp [Gd, valOf, hp], ?_⟩
                    refine mild_val (.int .i64 (a : Int)) ?_ (by simp [Ph.is, hG])
                    simp [execOp, evalF, hp, go_sem, hG]
                · -- 23: slot 99 := Op.slice 60 t97 none (some t98) none
                  cases hG : ((d1 || d2)) with
                  | true =>
                    refine ob_no fun f w' hb hp => ?_
                    simp [PreOf, factOf, valOf, Ph.is, Ph.any, Region.binds, hG] at hp
                    exact ⟨by simp [Gd, valOf, hp], by simp [Ph.is]⟩
                  | false =>
                    refine ob_yes fun f w' hb hp => ?_
                    simp [PreOf, factOf, valOf, Ph.is, Ph.any, Region.binds, hG] at hp
                    refine ⟨by simp [Gd, valOf, hp], ?_⟩
                    refine mild_val (.slice (some ad2) a cb) ?_ (by simp [Ph.is, hG])
                    simp [execOp, evalF, hp, go_sem, hG]
                    first | done | (have := hat; omega)
                · -- 24: slot 100 := Op.call   value (Operand.func 75), args := #[t95, t99], argTypes := #[3, 60]  
                  cases hG : ((d1 || d2)) with
                  | true =>
                    refine ob_no fun f w' hb hp => ?_
                    simp [PreOf, factOf, valOf, Ph.is, Ph.any, Region.binds, hG] at hp
                    exact ⟨by simp [Gd, valOf, hp], by simp [Ph.is]⟩
                  | false =>
                    refine ob_yes fun f w' hb hp => ?_
                    simp [PreOf, factOf, valOf, Ph.is, Ph.any, Region.binds, hG] at hp
                    refine ⟨by simp [Gd, valOf, hp], ?_⟩
                    refine mild_call 75 _ _ Try.f75 Try.func75 (by kernel_rfl) (by kernel_rfl) rfl ?_
                    simp [evalF, hp, Ph.is, Ph.any, hG]
                    have hd := among_any w' w.heap.size (.slice (some ad2) a cb) (fl.blocks.take a) x (by have e := (HbI.out.below ((Hbr.out.trans (hb.mono Hbr.out.size)).mono (by omega))).front (k := a) (by omega); exact e)
                    rw [← D3.out] at hd
                    refine (hd).mono fun ev w2 h => ?_
                    obtain ⟨rfl, rfl⟩ := h
                    first | exact ⟨_, rfl, Below.refl _ _, rfl⟩ | exact ⟨rfl, Below.refl _ _⟩ | exact Below.refl _ _ | simpa using Below.refl _ _
                · -- 25: slot 101 := Op.pick t90 (const (Value.bool true)) t100
                  cases hG : ((d1 || d2)) with
                  | true =>
                    refine ob_yes fun f w' hb hp => ?_
                    simp [PreOf, factOf, valOf, Ph.is, Ph.any, Region.binds, hG] at hp
                    refine ⟨by simp [Gd, valOf, hp], ?_⟩
                    refine mild_val (.bool (d1 || d2 || d3)) ?_ (by simp [Ph.is, hG])
                    simp [execOp, evalF, hp, go_sem, hG]
                  | false =>
                    refine ob_yes fun f w' hb hp => ?_
                    simp [PreOf, factOf, valOf, Ph.is, Ph.any, Region.binds, hG] at hp
                    refine ⟨by simp [Gd, valOf, hp], ?_⟩
                    refine mild_val (.bool (d1 || d2 || d3)) ?_ (by simp [Ph.is, hG])
                    simp [execOp, evalF, hp, go_sem, hG]
              · intro f w2 hb2 hp
                simp only [PostOf, Ph.is, Ph.any] at hp
                obtain ⟨h0, h1, h2, h3, h4, h5, h6, h7, h8, h9, h10, h11, h12, h13, h14, h15, h16, h17, h18, h19, h20, h21, h22, h23, h24, h25, _⟩ := hp
                simp only [fills, List.foldl_cons, List.foldl_nil, Act.put, List.setIfInBounds_toArray, List.set_cons_zero, List.set_cons_succ, h0, h1, h2, h3, h4, h5, h6, h13, h14, h25]
                clear h0 h1 h2 h3 h4 h5 h6 h13 h14 h25 h7 h8 h9 h10 h11 h12 h15 h16 h17 h18 h19 h20 h21 h22 h23 h24
                generalize f 83 = v83
                generalize f 84 = v84
                generalize f 85 = v85
                generalize f 86 = v86
                generalize f 87 = v87
                generalize f 88 = v88
                generalize f 91 = v91
                generalize f 92 = v92
                generalize f 93 = v93
                generalize f 94 = v94
                generalize f 95 = v95
                generalize f 96 = v96
                generalize f 97 = v97
                generalize f 98 = v98
                generalize f 99 = v99
                generalize f 100 = v100
                have hb3 := Hbr.out.trans (hb2.mono Hbr.out.size)
                have Hb3 := Lib.hid hb3
                clear hb2 hb3 Hbr
                cases hD : (d1 || d2 || d3) with
                | true =>
                  rw [hD] at Hbo
                  go_wp2_with fail
                  go_ret
                  exact ⟨by rw [Hr.out, Hfa.out (by rw [Hbo.out]; rfl)]; rfl, Hb0'.out.trans (Hb3.out.mono (by omega))⟩
                | false =>
                  rw [hD] at Hbo
                  go_wp2_with fail
                  go_loopw [8] (fun iv wr => ∃ q : Nat, q ≤ p ∧ iv = .int .i64 q ∧ (m.files.take q).all (fun f => !decide (x ∈ f.blocks)) = true ∧ Below wf.heap.size wf wr) (fun iv _ => p - (intOf iv).toNat)
                  case atStart => exact ⟨0, by omega, rfl, rfl, Hb3.out⟩
                  case round =>
                    obtain ⟨q, hq0, rfl, hall, hbr⟩ := hrel
                    have Hbr2 := Lib.hid hbr
                    clear hbr
                    by_cases hlt : q < p
                    · have hql : q < m.files.length := by omega
                      obtain ⟨_, ad', vp, e, hab', hpI, hpo, hcp⟩ := Hf.out.cells q hql
                      injection e with e
                      subst e
                      obtain ⟨Ap, cp, rfl, hcp1, hcp2⟩ := hpI.form
                      have hsn : (m.files.take (q + 1)).all (fun f => !decide (x ∈ f.blocks)) = !decide (x ∈ (m.files[q]).blocks) := by
                        rw [List.take_add_one, List.getElem?_eq_getElem hql, Option.toList_some, List.all_append, hall]; simp
                      have hin : decide (x ∈ (m.files[q]).blocks) = true → (m.files.take p).all (fun f => !decide (x ∈ f.blocks)) = false := fun h => by
                        rw [List.all_eq_false]
                        exact ⟨m.files[q], by rw [List.mem_take_iff_getElem]; exact ⟨q, by omega, rfl⟩, by rw [h]; simp⟩
                      generalize hpk : m.files[q] = pf at *
                      obtain ⟨e1, he1⟩ : ∃ b, b = decide (x ∈ pf.blocks) := ⟨_, rfl⟩
                      rw [← he1] at hsn hin
                      have Hsn := Lib.hid hsn
                      have Hin := Lib.hid hin
                      have Hcp := Lib.hid hcp
                      have HpI := Lib.hid hpI
                      have E1 := Lib.hid he1
                      have ha3 := add_mid' (ad.add (q * 4)) 3 (by decide)
                      clear hsn hin hcp he1 hpI hpo hpk hall
                      go_wp2_with fail
                      refine wp_region_typed [some 107, some 108, some 109, some 110, some 111, some 112, some 113, some 114, some 115, some 116, some 117, some 118] [107, 108, 109, 110, 111, 112, 113, 114, 115, 116, 117, 118]
                        [Ph.is (.pointer (some ⟨w.heap.size + 1, 3, none⟩)),
                          Ph.is (.slice (some ad2) fl.blocks.length cb),
                          Ph.is (.int .i64 (a : Int)),
                          Ph.is (.pointer (some (ad2.add a))),
                          Ph.is (.int .i64 x),
                          Ph.is (.pointer (some ⟨w.heap.size, 2, none⟩)),
                          Ph.is (.slice (some ad) m.files.length c),
                          Ph.is (.int .i64 (q : Int)),
                          Ph.is (.pointer (some (ad.add (q * 4)))),
                          Ph.is (.pointer (some { block := (ad.add (q * 4)).block, off := (ad.add (q * 4)).off + 3 })),
                          Ph.is (.slice Ap pf.blocks.length cp),
                          Ph.is (.bool e1)] rfl rfl (by kernel_rfl) (by kernel_rfl) ?_ ?_
                      · refine ⟨?_, ?_, ?_, ?_, ?_, ?_, ?_, ?_, ?_, ?_, ?_, ?_, trivial⟩
                        · -- 0: slot 107 := Op.fieldAddr 62 t5 3
                          refine ob_yes fun f w' hb hp => ?_
                          simp [PreOf, factOf, valOf, Ph.is, Ph.any, Region.binds] at hp
                          refine ⟨by simp [Gd, valOf, hp], ?_⟩
                          refine mild_val (.pointer (some ⟨w.heap.size + 1, 3, none⟩)) ?_ (by simp [Ph.is])
                          simp [execOp, evalF, hp, go_sem]
                        · -- 1: slot 108 := Op.load 60 t107
                          refine ob_yes fun f w' hb hp => ?_
                          simp [PreOf, factOf, valOf, Ph.is, Ph.any, Region.binds] at hp
                          refine ⟨by simp [Gd, valOf, hp], ?_⟩
                          have hc := (Xf.out.blwM (Hbr2.out.trans (hb.mono Hbr2.out.size))).cell 3 _ rfl
                          refine mild_val (.slice (some ad2) fl.blocks.length cb) ?_ (by simp [Ph.is])
                          simp [execOp, evalF, hp, hc, go_sem]
                        · -- 2: slot 109 := Op.move t7
                          refine ob_yes fun f w' hb hp => ?_
                          simp [PreOf, factOf, valOf, Ph.is, Ph.any, Region.binds] at hp
                          refine ⟨by simp [Gd, valOf, hp], ?_⟩
                          refine mild_val (.int .i64 (a : Int)) ?_ (by simp [Ph.is])
                          simp [execOp, evalF, hp, go_sem]
                        · -- 3: slot 110 := Op.indexAddr 60 t108 t109
                          refine ob_yes fun f w' hb hp => ?_
                          simp [PreOf, factOf, valOf, Ph.is, Ph.any, Region.binds] at hp
                          refine ⟨by simp [Gd, valOf, hp], ?_⟩
                          refine mild_val (.pointer (some (ad2.add a))) ?_ (by simp [Ph.is])
                          simp [execOp, evalF, hp, go_sem, hat]
                        · -- 4: slot 111 := Op.load 3 t110
                          refine ob_yes fun f w' hb hp => ?_
                          simp [PreOf, factOf, valOf, Ph.is, Ph.any, Region.binds] at hp
                          refine ⟨by simp [Gd, valOf, hp], ?_⟩
                          have hc := ((Hbr2.out.trans (hb.mono Hbr2.out.size)).cell (p := ad2.add a) (by rw [add_block]; omega)).trans Hca.out
                          refine mild_val (.int .i64 x) ?_ (by simp [Ph.is])
                          simp [execOp, evalF, hp, hc, go_sem]
                        · -- 5: slot 112 := Op.fieldAddr 56 t2 2
                          refine ob_yes fun f w' hb hp => ?_
                          simp [PreOf, factOf, valOf, Ph.is, Ph.any, Region.binds] at hp
                          refine ⟨by simp [Gd, valOf, hp], ?_⟩
                          refine mild_val (.pointer (some ⟨w.heap.size, 2, none⟩)) ?_ (by simp [Ph.is])
                          simp [execOp, evalF, hp, go_sem]
                        · -- 6: slot 113 := Op.load 54 t112
                          refine ob_yes fun f w' hb hp => ?_
                          simp [PreOf, factOf, valOf, Ph.is, Ph.any, Region.binds] at hp
                          refine ⟨by simp [Gd, valOf, hp], ?_⟩
                          have hc := (Xm.out.blwM (Hbr2.out.trans (hb.mono Hbr2.out.size))).cell 2 _ rfl
                          refine mild_val (.slice (some ad) m.files.length c) ?_ (by simp [Ph.is])
                          simp [execOp, evalF, hp, hc, go_sem]
                        · -- 7: slot 114 := Op.move t8
                          refine ob_yes fun f w' hb hp => ?_
                          simp [PreOf, factOf, valOf, Ph.is, Ph.any, Region.binds] at hp
                          refine ⟨by simp [Gd, valOf, hp], ?_⟩
                          refine mild_val (.int .i64 (q : Int)) ?_ (by simp [Ph.is])
                          simp [execOp, evalF, hp, go_sem]
                        · -- 8: slot 115 := Op.indexAddr 54 t113 t114
                          refine ob_yes fun f w' hb hp => ?_
                          simp [PreOf, factOf, valOf, Ph.is, Ph.any, Region.binds] at hp
                          refine ⟨by simp [Gd, valOf, hp], ?_⟩
                          refine mild_val (.pointer (some (ad.add (q * 4)))) ?_ (by simp [Ph.is])
                          simp [execOp, evalF, hp, go_sem, hql]
                        · -- 9: slot 116 := Op.fieldAddr 62 t115 3
                          refine ob_yes fun f w' hb hp => ?_
                          simp [PreOf, factOf, valOf, Ph.is, Ph.any, Region.binds] at hp
                          refine ⟨by simp [Gd, valOf, hp], ?_⟩
                          refine mild_val (.pointer (some { block := (ad.add (q * 4)).block, off := (ad.add (q * 4)).off + 3 })) ?_ (by simp [Ph.is])
                          simp [execOp, evalF, hp, go_sem]
                        · -- 10: slot 117 := Op.load 60 t116
                          refine ob_yes fun f w' hb hp => ?_
                          simp [PreOf, factOf, valOf, Ph.is, Ph.any, Region.binds] at hp
                          refine ⟨by simp [Gd, valOf, hp], ?_⟩
                          have hc := ((Hbr2.out.trans (hb.mono Hbr2.out.size)).cell (p := (ad.add (q * 4)).add 3) (by rw [add_block, add_block]; omega)).trans (Hcp.out 3 _ rfl)
                          rw [ha3] at hc
                          refine mild_val (.slice Ap pf.blocks.length cp) ?_ (by simp [Ph.is])
                          simp [execOp, evalF, hp, hc, go_sem]
                        · -- 11: slot 118 := Op.call   value (Operand.func 75), args := #[t111, t117], argTypes := #[3, 60]  
                          refine ob_yes fun f w' hb hp => ?_
                          simp [PreOf, factOf, valOf, Ph.is, Ph.any, Region.binds] at hp
                          refine ⟨by simp [Gd, valOf, hp], ?_⟩
                          refine mild_call 75 _ _ Try.f75 Try.func75 (by kernel_rfl) (by kernel_rfl) rfl ?_
                          simp [evalF, hp, Ph.is, Ph.any]
                          have hd := among_any w' w.heap.size (.slice Ap pf.blocks.length cp) pf.blocks x (HpI.out.below ((Hbr2.out.trans (hb.mono Hbr2.out.size)).mono (by omega)))
                          rw [← E1.out] at hd
                          refine (hd).mono fun ev w2 h => ?_
                          obtain ⟨rfl, rfl⟩ := h
                          first | exact ⟨_, rfl, Below.refl _ _, rfl⟩ | exact ⟨rfl, Below.refl _ _⟩ | exact Below.refl _ _ | simpa using Below.refl _ _
                      · intro f w2 hb2 hp
                        simp only [PostOf, Ph.is, Ph.any] at hp
                        obtain ⟨h0, h1, h2, h3, h4, h5, h6, h7, h8, h9, h10, h11, _⟩ := hp
                        simp only [fills, List.foldl_cons, List.foldl_nil, Act.put, List.setIfInBounds_toArray, List.set_cons_zero, List.set_cons_succ, h0, h1, h2, h3, h4, h5, h6, h7, h8, h9, h10, h11]
                        clear h0 h1 h2 h3 h4 h5 h6 h7 h8 h9 h10 h11
                        have hb4 := Hbr2.out.trans (hb2.mono Hbr2.out.size)
                        have Hb4 := Lib.hid hb4
                        clear hb2 hb4
                        cases e1 with
                        | true =>
                          go_wp2_with fail
                          go_ret
                          exact ⟨by rw [Hr.out, Hfa.out (by rw [Hbo.out, Hin.out (by first | rfl | trivial)]; rfl)]; rfl, Hb0'.out.trans (Hb4.out.mono (by omega))⟩
                        | false =>
                          go_wp2_with fail
                          go_roundw
                          case rel => exact ⟨q + 1, by omega, by go_num, by rw [Hsn.out]; rfl, Hb4.out⟩
                          case measure => simp [intOf]; omega
                    · obtain rfl : q = p := by omega
                      rw [hall, Bool.and_true] at Hbo
                      go_wp2_with fail
                      go_roundw
                      case rel => exact ⟨a + 1, by omega, by go_num, by rw [Hbo.out]; rfl, Hbr2.out⟩
                      case measure => simp [intOf]; omega
            · obtain rfl : a = fl.blocks.length := by omega
              go_wp2_with fail
              go_ret
              exact ⟨by rw [Hr.out, hok]; rfl, Hb0'.out.trans (Hbr.out.mono (by omega))⟩
end Go.Proofs.Ytpoicbhbkabllaa

namespace Go.Proofs.Ytpoicbhbkabllaa
set_option linter.unusedSimpArgs false
set_option linter.unusedVariables false
open Go.RowKit

theorem sum_mem_le : ∀ (l : List Nat) (x : Nat), x ∈ l → x ≤ l.sum
  | [], _, h => by cases h
  | y :: l, x, h => by
    rw [List.sum_cons]
    rcases List.mem_cons.1 h with rfl | h
    · omega
    · have := sum_mem_le l x h; omega
theorem nums_len (l : List Int) : (nums l).length ≤ l.length * 11 := by
  induction l with
  | nil => simp [nums]
  | cons x l ih =>
    have e : nums (x :: l) = vput (u64Of x) ++ nums l := rfl
    have := (vput_len64 (u64Of x) (u64Of_lt x)).2
    rw [e, List.length_append, List.length_cons]
    omega
theorem flat_len_le (l : List MFile) (B : Nat) (h : ∀ f ∈ l, (bodyF f).length ≤ B) : (l.flatMap bodyF).length ≤ l.length * B := by
  induction l with
  | nil => simp
  | cons f l ih =>
    rw [List.flatMap_cons, List.length_append, List.length_cons, Nat.add_mul]
    have := h f (by simp)
    have := ih fun g hg => h g (by simp [hg])
    omega
theorem small_file (m : MMan) (hg : greatM m = false) (f : MFile) (hf : f ∈ m.files) (hb : basicF m.next f = true) : f.name.length ≤ 32 ∧ 1 ≤ f.name.length ∧ f.blocks.length ≤ 2999 := by
  unfold greatM at hg
  simp only [Bool.or_eq_false_iff, decide_eq_false_iff_not] at hg
  unfold basicF at hb
  simp only [Bool.not_eq_true', Bool.or_eq_false_iff, decide_eq_false_iff_not] at hb
  have := sum_mem_le (m.files.map fun f => min f.blocks.length 3000 + min f.name.length 3000) _ (List.mem_map.2 ⟨f, hf, rfl⟩)
  have h2 : greatN m.files = (m.files.map fun f => min f.blocks.length 3000 + min f.name.length 3000).sum := rfl
  omega
theorem bodyF_small (m : MMan) (hg : greatM m = false) (f : MFile) (hf : f ∈ m.files) (hb : basicF m.next f = true) : (bodyF f).length ≤ 40000 := by
  obtain ⟨h1, h2, h3⟩ := small_file m hg f hf hb
  rw [bodyF_len]
  have := nums_len f.blocks
  have := (vput_len64 f.name.length (by omega)).2
  have := (vput_len64 f.id.toNat (by have := u32_lt f.id; omega)).2
  have := (vput_len64 (u64Of f.size) (u64Of_lt _)).2
  omega
theorem filesR_basic (m : MMan) (h : filesR m m.files.length = true) (f : MFile) (hf : f ∈ m.files) : basicF m.next f = true := by
  obtain ⟨i, hi, rfl⟩ := List.mem_iff_getElem.1 hf
  have := filesR_at m _ i h hi (Nat.le_refl _)
  unfold fileR at this
  simp only [Bool.and_eq_true] at this
  exact this.1.1
theorem bodyM_small (m : MMan) (hg : greatM m = false) (h : filesR m m.files.length = true) : (bodyM m).length ≤ 2400033 := by
  have hn : m.files.length ≤ 60 := by
    unfold greatM at hg
    simp only [Bool.or_eq_false_iff, decide_eq_false_iff_not] at hg
    omega
  have := flat_len_le m.files 40000 fun f hf => bodyF_small m hg f hf (filesR_basic m h f hf)
  rw [bodyM_len]
  have := (vput_len64 m.ver.toNat (u64_lt _)).2
  have := (vput_len64 m.next.toNat (by have := u32_lt m.next; omega)).2
  have := (vput_len64 m.files.length (by omega)).2
  omega
theorem info_man3 : (Try.prog.info? 56).map (·.size) = some 3 := by kernel_rfl
set_option maxRecDepth 100000 in
set_option maxHeartbeats 1600000 in
theorem rmay_any' (w : World) (v : Value) (m : MMan) (h : MAt w w.heap.size v m) (hg : filesR m m.files.length = true → (bodyM m).length ≤ 274877906944) :
    Calls Try.prog 29 #[v] w fun e w' => e = .returned (.bool (mayM m)) ∧ Below w.heap.size w w' := by
  obtain ⟨vf, rfl, hf⟩ := h
  obtain ⟨A, c, rfl, hc1, hc2⟩ := hf.form
  unfold maxLen at hc2
  obtain ⟨w1, hw1⟩ : ∃ w1, w1 = w.alloc (.cells (encM m (.slice A m.files.length c)).toArray 56) := ⟨_, rfl⟩
  have hb1 : Below w.heap.size w w1 := by rw [hw1]; exact balloc w _
  have hx1 : BoxAt 56 w1 w.heap.size (encM m (.slice A m.files.length c)) := by rw [hw1]; exact BoxAt.new_ _ _ _
  have hz1 : w1.heap.size = w.heap.size + 1 := by rw [hw1]; simp
  have hf1 := hf.below hb1
  have hc2x := hx1.cell 2 _ rfl
  have Hw1 := Lib.hid hw1
  have Hx1 := Lib.hid hx1
  have Hf1 := Lib.hid hf1
  have Hb1 := Lib.hid hb1
  have Hg := Lib.hid hg
  clear hw1 hx1 hf1 hb1 hf hg
  go_enter Try.func29, Try.ntmps29
  go_upto_region 1 with (fail)
  rw [← Hw1.out]
  go_wp2_with fail
  go_loopw [7] (fun iv wr => ∃ k : Nat, k ≤ m.files.length ∧ iv = .int .i64 k ∧ filesR m k = true ∧ Below w1.heap.size w1 wr) (fun i _ => m.files.length - (intOf i).toNat)
  case atStart => exact ⟨0, by omega, rfl, rfl, Below.refl _ _⟩
  case round =>
    obtain ⟨k, hk, rfl, hfr, hbr⟩ := hrel
    have Hbr := Lib.hid hbr
    have Hld := Lib.hid (Hx1.out.blwM hbr).cells
    have hsz := hbr.size
    clear hbr hc2x
    by_cases hlt : k < m.files.length
    · have hs := filesR_succ m k hlt
      rw [hfr, Bool.true_and] at hs
      have hfa := fun h => filesR_false m (k + 1) h m.files.length (by omega)
      have Hs := Lib.hid hs
      have Hfa := Lib.hid hfa
      clear hs hfa hfr
      go_wp2_with (refine wpList_load_agg rfl 56 (.tmp 1) rfl ⟨w.heap.size, 0, none⟩ rfl (encM m (.slice A m.files.length c)) Hld.out Try.underlying56 rfl info_man3 ?_)
      refine (rfile_any wr _ m ⟨_, rfl, (Hf1.out.below (Hbr.out.mono (by omega))).more (by omega)⟩ k hlt).mono ?_
      rintro _ w2 ⟨rfl, hb2⟩
      have Hb3 := Lib.hid (bstep Hbr.out hb2)
      clear hb2
      cases hR : fileR m.next (m.files.take k) m.files[k] with
      | true =>
        rw [hR] at Hs
        go_wp2_with fail
        go_roundw
        case rel => exact ⟨k + 1, by omega, by go_num, Hs.out, Hb3.out⟩
        case measure => simp [intOf]; omega
      | false =>
        rw [hR] at Hs
        have hm : mayM m = false := by unfold mayM; rw [Hfa.out Hs.out]; rfl
        have Hm := Lib.hid hm
        clear hm
        go_wp2_with fail
        go_ret
        exact ⟨by rw [Hm.out]; rfl, Hb1.out.trans (Hb3.out.mono (by omega))⟩
    · obtain rfl : k = m.files.length := by omega
      have hsm := Hg.out hfr
      have hm : mayM m = decide ((bodyM m).length + 13 ≤ 2048) := by unfold mayM; rw [hfr]; rfl
      have Hm := Lib.hid hm
      clear hm hfr
      go_wp2_with (refine wpList_load_agg rfl 56 (.tmp 1) rfl ⟨w.heap.size, 0, none⟩ rfl (encM m (.slice A m.files.length c)) Hld.out Try.underlying56 rfl info_man3 ?_)
      refine (rbody_any wr _ m ⟨_, rfl, (Hf1.out.below (Hbr.out.mono (by omega))).more (by omega)⟩ (by omega)).mono ?_
      rintro _ w2 ⟨v2, rfl, how2, hb2⟩
      obtain ⟨A2, c2, rfl, hd1, hd2⟩ := how2.form_
      have Hb3 := Lib.hid (bstep Hbr.out hb2)
      generalize (bodyM m).length = L at *
      clear how2 hb2
      go_wp2_with fail
      go_ret
      rw [Hm.out]
      exact ⟨by first | rfl | (simp; omega), Hb1.out.trans (Hb3.out.mono (by omega))⟩
theorem rmay_any (w : World) (v : Value) (m : MMan) (h : MAt w w.heap.size v m) (hg : greatM m = false) :
    Calls Try.prog 29 #[v] w fun e w' => e = .returned (.bool (mayM m)) ∧ Below w.heap.size w w' :=
  rmay_any' w v m h fun hf => by have := bodyM_small m hg hf; omega
end Go.Proofs.Ytpoicbhbkabllaa

namespace Go.Proofs.Ytpoicbhbkabllaa
set_option linter.unusedSimpArgs false
set_option linter.unusedVariables false
open Go.RowKit Go.Maps

/-- block b is a set of at most n numbers: those of S -/
def MSet (k : TypeId) (q : IntKind) (w : World) (b n : Nat) (S : List Int) : Prop :=
  ∃ D : DataW Unit, w.ownsMap Try.prog k unitElem b n D ∧ ∀ x, (Lit.int q x).wf = true → Maps.has D (.int q x) = decide (x ∈ S)
theorem MSet.lt {k : TypeId} {q : IntKind} {w : World} {b n : Nat} {S : List Int} (h : MSet k q w b n S) : b < w.heap.size := by obtain ⟨D, h, _⟩ := h; exact h.lt
theorem MSet.congr {k : TypeId} {q : IntKind} {w : World} {b n : Nat} {S S' : List Int} (h : MSet k q w b n S) (hS : ∀ x, x ∈ S ↔ x ∈ S') : MSet k q w b n S' := by
  obtain ⟨D, h, hh⟩ := h
  exact ⟨D, h, fun x hx => (hh x hx).trans (decide_eq_decide.2 (hS x))⟩
theorem MSet.kept {k : TypeId} {q : IntKind} {w w' : World} {b n : Nat} {S : List Int} (h : MSet k q w b n S) {row : Option Nat} (hg : w.grownBy w' row) (hne : some b ≠ row) : MSet k q w' b n S := by
  obtain ⟨D, h, hh⟩ := h
  exact ⟨D, h.kept hg hne, hh⟩
theorem MSet.blw {k : TypeId} {q : IntKind} {w w' : World} {b n : Nat} {S : List Int} (h : MSet k q w b n S) (hb : Below w.heap.size w w') : MSet k q w' b n S :=
  h.kept (row := none) ⟨hb.os, hb.tape, hb.output, hb.size, fun i hi _ => hb.block i hi⟩ (by simp)
theorem MSet.mono {k : TypeId} {q : IntKind} {w : World} {b n n' : Nat} {S : List Int} (h : MSet k q w b n S) (hn : n ≤ n') : MSet k q w b n' S := by
  obtain ⟨D, h, hh⟩ := h
  exact ⟨D, h.mono hn, hh⟩
theorem MSet.new_ (k : TypeId) (q : IntKind) (w : World) : MSet k q (w.alloc (.map #[] 0)) w.heap.size 0 [] :=
  ⟨.map [], World.ownsMap_made _ _ _ _, fun x _ => by simp [Maps.has]⟩
theorem zero_none (w : World) : (zeroValue 152).run Try.prog w = .ok (.agg #[]) w := by kernel_rfl
theorem wpList_setLook {ops : Array Oper} {rest : List Oper} {o : Oper} {a : Act} {w : World} {Q : Exit → Act → World → Prop} (hg : o.guard = none) (m x : Operand) (t k : TypeId) (q : IntKind) (hop : o.op = .lookup t m x true)
    (hk : Try.prog.underlying k = some (.int q)) (ht : Try.prog.underlying t = some (.map k 152)) (b n : Nat) (S : List Int) (hm : a.eval m = .map (some b)) (hs : MSet k q w b n S) (y : Int) (hy : (Lit.int q y).wf = true)
    (hx : a.eval x = .int q y) (h : wpList Try.prog ops Q rest (a.put o.dst (.tuple #[.agg #[], .bool (decide (y ∈ S))])) w) : wpList Try.prog ops Q (o :: rest) a w := by
  obtain ⟨D, hD, hh⟩ := hs
  refine wpList_lookup_own_unit _ hg m x t hop k _ (int_keyed hk) ht (zero_none _) b n D hm hD _ _ hx (keyOf_int_mk hk hy) ?_
  rw [hh y hy]
  exact h
theorem wpList_setPut {ops : Array Oper} {rest : List Oper} {o : Oper} {a : Act} {w : World} {Q : Exit → Act → World → Prop} (hg : o.guard = none) (m x v : Operand) (t k : TypeId) (q : IntKind) (hop : o.op = .mapUpdate t m x v)
    (hk : Try.prog.underlying k = some (.int q)) (ht : Try.prog.underlying t = some (.map k 152)) (b n : Nat) (S : List Int) (hm : a.eval m = .map (some b)) (hs : MSet k q w b n S) (hn : n < maxLen) (y : Int) (hy : (Lit.int q y).wf = true)
    (hx : a.eval x = .int q y) (hv : a.eval v = .agg #[]) (h : ∀ w', MSet k q w' b (n + 1) (y :: S) → w.grownBy w' (some b) → wpList Try.prog ops Q rest (a.put o.dst undef) w') : wpList Try.prog ops Q (o :: rest) a w := by
  obtain ⟨D, hD, hh⟩ := hs
  refine wpList_mapUpdate_own _ hg m x v t hop k _ (int_keyed hk) ht unitElem b n D hm hD hn _ _ _ hx hv (keyOf_int_mk hk hy) _ [] unitElem_mk ?_
  intro w' h1 h2
  refine h w' ⟨_, h1, fun z hz => ?_⟩ h2
  by_cases he : z = y
  · subst he
    rw [Maps.has_put_same hD.isMap (by simp [WideAt.IsKeyLit])]
    simp
  · rw [Maps.has_put_other (by simpa using he), hh z hz]
    simp [he]
/-- all but the blocks m1, m2 stay -/
structure Bt (m1 m2 : Nat) (w w' : World) : Prop where
  os : w'.os = w.os
  tape : w'.tape = w.tape
  output : w'.output = w.output
  size : w.heap.size ≤ w'.heap.size
  block : ∀ k, k < w.heap.size → k ≠ m1 → k ≠ m2 → w'.heap[k]? = w.heap[k]?
theorem Bt.of {m1 m2 : Nat} {w w' : World} (h : Below w.heap.size w w') : Bt m1 m2 w w' := ⟨h.os, h.tape, h.output, h.size, fun k hk _ _ => h.block k hk⟩
theorem Bt.trans {m1 m2 : Nat} {a b c : World} (h : Bt m1 m2 a b) (k : Bt m1 m2 b c) : Bt m1 m2 a c :=
  ⟨k.os.trans h.os, k.tape.trans h.tape, k.output.trans h.output, Nat.le_trans h.size k.size, fun i hi h1 h2 => (k.block i (Nat.lt_of_lt_of_le hi h.size) h1 h2).trans (h.block i hi h1 h2)⟩
theorem Bt.grown {m1 m2 m : Nat} {a b c : World} (h : Bt m1 m2 a b) (hg : b.grownBy c (some m)) (hm : m = m1 ∨ m = m2) : Bt m1 m2 a c :=
  h.trans ⟨hg.os, hg.tape, hg.output, hg.size, fun k hk h1 h2 => hg.block k hk (fun e => by injection e with e; rcases hm with hm | hm <;> omega)⟩
theorem Bt.step {m1 m2 : Nat} {a b c : World} (h : Bt m1 m2 a b) (hb : Below b.heap.size b c) : Bt m1 m2 a c := h.trans (Bt.of hb)
theorem Bt.low {m1 m2 B : Nat} {w w' : World} (h : Bt m1 m2 w w') (h1 : B ≤ m1) (h2 : B ≤ m2) (hB : B ≤ w.heap.size) : Below B w w' :=
  ⟨h.os, h.tape, h.output, h.size, fun k hk => h.block k (by omega) (by omega) (by omega)⟩
theorem Bt.box {m1 m2 g : Nat} {T : TypeId} {cs : List Value} {w w' : World} (h : Bt m1 m2 w w') (hx : BoxAt T w g cs) (h1 : g ≠ m1) (h2 : g ≠ m2) : BoxAt T w' g cs := (h.block g hx.lt h1 h2).trans hx
def blkC (S2 : List Int) (l : List Int) (a : Nat) : Bool := !(decide (l.getD a 0 ∈ l.take a ++ S2) || decide (l.getD a 0 < 32) || decide (65536 ≤ l.getD a 0))
def blksC (S2 : List Int) (l : List Int) (n : Nat) : Bool := (List.range n).all (blkC S2 l)
/-- manifest.right's answer -/
def rightC (next : UInt32) (S1 S2 : List Int) (f : MFile) : Bool := basicF next f && !(decide ((f.id.toNat : Int) ∈ S1)) && blksC S2 f.blocks f.blocks.length
theorem blksC_succ (S2 l : List Int) (a : Nat) : blksC S2 l (a + 1) = (blksC S2 l a && blkC S2 l a) := by
  unfold blksC
  rw [List.range_succ, List.all_append]
  simp
theorem blksC_false (S2 l : List Int) (a : Nat) (h : blksC S2 l (a + 1) = false) (n : Nat) (ha : a < n) : blksC S2 l n = false := by
  unfold blksC at h ⊢
  rw [List.all_eq_false] at h ⊢
  obtain ⟨x, hx, hx2⟩ := h
  exact ⟨x, by simp at hx ⊢; omega, hx2⟩
theorem blkC_eq (S2 l : List Int) (a : Nat) (ha : a < l.length) : blkC S2 l a = !(decide (l[a] ∈ l.take a ++ S2) || decide (l[a] < 32) || decide (65536 ≤ l[a])) := by
  unfold blkC
  rw [List.getD_eq_getElem?_getD, List.getElem?_eq_getElem ha]
  rfl
theorem mem_snocL {x y : Int} {a b : List Int} : y ∈ x :: (a ++ b) ↔ y ∈ a ++ [x] ++ b := by
  rw [List.mem_cons, List.mem_append, List.mem_append, List.mem_append, List.mem_singleton]
  constructor
  · rintro (h | h | h)
    · exact .inl (.inr h)
    · exact .inl (.inl h)
    · exact .inr h
  · rintro ((h | h) | h)
    · exact .inr (.inl h)
    · exact .inl h
    · exact .inr (.inr h)
theorem wf_u32 (x : UInt32) : (Lit.int .u32 (x.toNat : Int)).wf = true := by
  have := u32_lt x
  have e1 : IntKind.u32.min = 0 := by decide
  have e2 : IntKind.u32.max = 4294967295 := by decide
  simp [Lit.wf, e1, e2]
  omega
theorem wf_i64 (x : Int) (h1 : -9223372036854775808 ≤ x) (h2 : x ≤ 9223372036854775807) : (Lit.int .i64 x).wf = true := by
  have e1 : IntKind.i64.min = -9223372036854775808 := by decide
  have e2 : IntKind.i64.max = 9223372036854775807 := by decide
  simp [Lit.wf, e1, e2]
  omega
theorem info_none0 : (Try.prog.info? 152).map (fun i => (i.zero, i.size, i.bytes)) = some (some (.agg #[]), 0, 0) := by kernel_rfl

set_option maxRecDepth 100000 in
set_option maxHeartbeats 6400000 in
theorem right_any (w : World) (B : Nat) (hBw : B ≤ w.heap.size) (fl : MFile) (v : Value) (next : UInt32) (m1 m2 n1 n2 : Nat) (S1 S2 : List Int) (hI : ByI w B v fl.blocks) (hfo : fileOk fl)
    (h1 : MSet 53 .u32 w m1 n1 S1) (h2 : MSet 3 .i64 w m2 n2 S2) (hne : m1 ≠ m2) (hB1 : B ≤ m1) (hB2 : B ≤ m2) (hn1 : n1 < 1000000000000) (hn2 : n2 + fl.blocks.length < 1000000000000) :
    Calls Try.prog 79 #[.agg (encF fl v).toArray, .int .u32 (next.toNat : Int), .map (some m1), .map (some m2)] w fun e w' =>
      e = .returned (.bool (rightC next S1 S2 fl)) ∧ (rightC next S1 S2 fl = true → MSet 53 .u32 w' m1 (n1 + 1) ((fl.id.toNat : Int) :: S1) ∧ MSet 3 .i64 w' m2 (n2 + fl.blocks.length) (fl.blocks ++ S2)) ∧ Bt m1 m2 w w' := by
  obtain ⟨Ab, cb, rfl, hcb1, hcb2⟩ := hI.form
  unfold maxLen at hcb2
  have hnl := hfo.1
  unfold maxLen at hnl
  have hid := u32_lt fl.id
  have hnx := u32_lt next
  have hsz : (bst fl.name).size = fl.name.length := rfl
  have hm1 := h1.lt
  have hm2 := h2.lt
  obtain ⟨wf, hwf⟩ : ∃ wf, wf = w.alloc (.cells (encF fl (.slice Ab fl.blocks.length cb)).toArray 62) := ⟨_, rfl⟩
  have hbf : Below w.heap.size w wf := by rw [hwf]; exact balloc w _
  have hxf : BoxAt 62 wf w.heap.size (encF fl (.slice Ab fl.blocks.length cb)) := by rw [hwf]; exact BoxAt.new_ _ _ _
  have hzf : wf.heap.size = w.heap.size + 1 := by rw [hwf]; simp
  have Hwf := Lib.hid hwf
  have Xf := Lib.hid hxf
  have HI := Lib.hid hI
  have Hb := Lib.hid hbf
  have H1 := Lib.hid h1
  have H2 := Lib.hid h2
  have Hne := Lib.hid hne
  clear hwf hxf hI hbf h1 h2 hne
  go_enter Try.func79, Try.ntmps79
  go_upto_region 1 with (fail)
  rw [← Hwf.out]
  clear Hwf
  have hbas : basicF next fl = !(decide (fl.name.length < 1) || decide (32 < fl.name.length) || decide (next.toNat ≤ fl.id.toNat) || decide (fl.size < 0) || decide (manyOf fl.size ≠ (fl.blocks.length : Int))) := rfl
  obtain ⟨b1, hb1⟩ : ∃ b, b = decide (fl.name.length < 1) := ⟨_, rfl⟩
  obtain ⟨b2, hq2⟩ : ∃ b, b = decide (32 < fl.name.length) := ⟨_, rfl⟩
  obtain ⟨b3, hb3⟩ : ∃ b, b = decide (next.toNat ≤ fl.id.toNat) := ⟨_, rfl⟩
  obtain ⟨b4, hb4⟩ : ∃ b, b = decide (fl.size < 0) := ⟨_, rfl⟩
  obtain ⟨b5, hb5⟩ : ∃ b, b = decide (manyOf fl.size ≠ (fl.blocks.length : Int)) := ⟨_, rfl⟩
  rw [← hb1, ← hq2, ← hb3, ← hb4, ← hb5] at hbas
  have B1 := Lib.hid hb1
  have B2 := Lib.hid hq2
  have B3 := Lib.hid hb3
  have B4 := Lib.hid hb4
  have B5 := Lib.hid hb5
  have Hbas := Lib.hid hbas
  clear hb1 hq2 hb3 hb4 hb5 hbas
  refine wp_region_typed [some 15, some 16, some 17, some 18, some 19, some 20, some 21, some 22, some 23, some 24, some 25, some 26, some 27, some 28, some 29, some 30, some 31, some 32, some 33, some 34, some 35, some 36, some 37, some 38, some 39, some 40, some 41, some 42, some 43, some 44] [15, 16, 17, 18, 19, 20, 21, 22, 23, 24, 25, 26, 27, 28, 29, 30, 31, 32, 33, 34, 35, 36, 37, 38, 39, 40, 41, 42, 43, 44]
    [Ph.is (.pointer (some ⟨w.heap.size, 0, none⟩)),
      Ph.is (.string (bst fl.name)),
      Ph.is (.int .i64 (fl.name.length : Int)),
      Ph.is (.bool b1),
      Ph.is (.bool (b1)),
      Ph.is (bif b1 then undef else .pointer (some ⟨w.heap.size, 0, none⟩)),
      Ph.is (bif b1 then undef else .string (bst fl.name)),
      Ph.is (bif b1 then undef else .int .i64 (fl.name.length : Int)),
      Ph.is (bif b1 then undef else .bool b2),
      Ph.is (.bool (b1 || b2)),
      Ph.is (.bool ((b1 || b2))),
      Ph.is (bif (b1 || b2) then undef else .pointer (some ⟨w.heap.size, 1, none⟩)),
      Ph.is (bif (b1 || b2) then undef else .int .u32 (fl.id.toNat : Int)),
      Ph.is (bif (b1 || b2) then undef else .int .u32 (next.toNat : Int)),
      Ph.is (bif (b1 || b2) then undef else .bool b3),
      Ph.is (.bool (b1 || b2 || b3)),
      Ph.is (.bool ((b1 || b2 || b3))),
      Ph.is (bif (b1 || b2 || b3) then undef else .pointer (some ⟨w.heap.size, 2, none⟩)),
      Ph.is (bif (b1 || b2 || b3) then undef else .int .i64 fl.size),
      Ph.is (bif (b1 || b2 || b3) then undef else .bool b4),
      Ph.is (.bool (b1 || b2 || b3 || b4)),
      Ph.is (.bool ((b1 || b2 || b3 || b4))),
      Ph.is (bif (b1 || b2 || b3 || b4) then undef else .pointer (some ⟨w.heap.size, 2, none⟩)),
      Ph.is (bif (b1 || b2 || b3 || b4) then undef else .int .i64 fl.size),
      Ph.is (bif (b1 || b2 || b3 || b4) then undef else .int .i64 (manyOf fl.size)),
      Ph.is (bif (b1 || b2 || b3 || b4) then undef else .pointer (some ⟨w.heap.size, 3, none⟩)),
      Ph.is (bif (b1 || b2 || b3 || b4) then undef else .slice Ab fl.blocks.length cb),
      Ph.is (bif (b1 || b2 || b3 || b4) then undef else .int .i64 (fl.blocks.length : Int)),
      Ph.is (bif (b1 || b2 || b3 || b4) then undef else .bool b5),
      Ph.is (.bool (b1 || b2 || b3 || b4 || b5))] rfl rfl (by kernel_rfl) (by kernel_rfl) ?_ ?_
  · refine ⟨?_, ?_, ?_, ?_, ?_, ?_, ?_, ?_, ?_, ?_, ?_, ?_, ?_, ?_, ?_, ?_, ?_, ?_, ?_, ?_, ?_, ?_, ?_, ?_, ?_, ?_, ?_, ?_, ?_, ?_, trivial⟩
    · -- 0: slot 15 := Op.fieldAddr 62 t4 0
      refine ob_yes fun f w' hb hp => ?_
      simp [PreOf, factOf, valOf, Ph.is, Ph.any, Region.binds] at hp
      refine ⟨by simp [Gd, valOf, hp], ?_⟩
      refine mild_val (.pointer (some ⟨w.heap.size, 0, none⟩)) ?_ (by simp [Ph.is])
      simp [execOp, evalF, hp, go_sem]
    · -- 1: slot 16 := Op.load 9 t15
      refine ob_yes fun f w' hb hp => ?_
      simp [PreOf, factOf, valOf, Ph.is, Ph.any, Region.binds] at hp
      refine ⟨by simp [Gd, valOf, hp], ?_⟩
      have hc := (Xf.out.blwM hb).cell 0 _ rfl
      refine mild_val (.string (bst fl.name)) ?_ (by simp [Ph.is])
      simp [execOp, evalF, hp, hc, go_sem]
    · -- 2: slot 17 := Op.call   builtin len, args := #[t16], argTypes := #[9]  
      refine ob_yes fun f w' hb hp => ?_
      simp [PreOf, factOf, valOf, Ph.is, Ph.any, Region.binds] at hp
      refine ⟨by simp [Gd, valOf, hp], ?_⟩
      refine mild_val (.int .i64 (fl.name.length : Int)) ?_ (by simp [Ph.is])
      simp [execOp, evalF, hp, go_sem, hsz]
    · -- 3: slot 18 := Op.binOp BinOp.eql 3 t17 (const (0:i64)) 3
      refine ob_yes fun f w' hb hp => ?_
      simp [PreOf, factOf, valOf, Ph.is, Ph.any, Region.binds] at hp
      refine ⟨by simp [Gd, valOf, hp], ?_⟩
      refine mild_val (.bool b1) ?_ (by simp [Ph.is])
      simp [execOp, evalF, hp, go_sem]
      first | done | (rw [B1.out]; try first | rfl | exact decide_eq_decide.2 (by omega) | (simp; done) | (simp <;> omega) | (simp <;> rfl))
    · -- 4: slot 19 := Op.move t18
      refine ob_yes fun f w' hb hp => ?_
      simp [PreOf, factOf, valOf, Ph.is, Ph.any, Region.binds] at hp
      refine ⟨by simp [Gd, valOf, hp], ?_⟩
      refine mild_val (.bool (b1)) ?_ (by simp [Ph.is])
      simp [execOp, evalF, hp, go_sem]
    · -- 5: slot 20 := Op.fieldAddr 62 t4 0
      cases hG : (b1) with
      | true =>
        refine ob_no fun f w' hb hp => ?_
        simp [PreOf, factOf, valOf, Ph.is, Ph.any, Region.binds, hG] at hp
        exact ⟨by simp [Gd, valOf, hp], by simp [Ph.is]⟩
      | false =>
        refine ob_yes fun f w' hb hp => ?_
        simp [PreOf, factOf, valOf, Ph.is, Ph.any, Region.binds, hG] at hp
        refine ⟨by simp [Gd, valOf, hp], ?_⟩
        refine mild_val (.pointer (some ⟨w.heap.size, 0, none⟩)) ?_ (by simp [Ph.is, hG])
        simp [execOp, evalF, hp, go_sem, hG]
    · -- 6: slot 21 := Op.load 9 t20
      cases hG : (b1) with
      | true =>
        refine ob_no fun f w' hb hp => ?_
        simp [PreOf, factOf, valOf, Ph.is, Ph.any, Region.binds, hG] at hp
        exact ⟨by simp [Gd, valOf, hp], by simp [Ph.is]⟩
      | false =>
        refine ob_yes fun f w' hb hp => ?_
        simp [PreOf, factOf, valOf, Ph.is, Ph.any, Region.binds, hG] at hp
        refine ⟨by simp [Gd, valOf, hp], ?_⟩
        have hc := (Xf.out.blwM hb).cell 0 _ rfl
        refine mild_val (.string (bst fl.name)) ?_ (by simp [Ph.is, hG])
        simp [execOp, evalF, hp, hc, go_sem, hG]
    · -- 7: slot 22 := Op.call   builtin len, args := #[t21], argTypes := #[9]  
      cases hG : (b1) with
      | true =>
        refine ob_no fun f w' hb hp => ?_
        simp [PreOf, factOf, valOf, Ph.is, Ph.any, Region.binds, hG] at hp
        exact ⟨by simp [Gd, valOf, hp], by simp [Ph.is]⟩
      | false =>
        refine ob_yes fun f w' hb hp => ?_
        simp [PreOf, factOf, valOf, Ph.is, Ph.any, Region.binds, hG] at hp
        refine ⟨by simp [Gd, valOf, hp], ?_⟩
        refine mild_val (.int .i64 (fl.name.length : Int)) ?_ (by simp [Ph.is, hG])
        simp [execOp, evalF, hp, go_sem, hsz, hG]
    · -- 8: slot 23 := Op.binOp BinOp.gtr 3 t22 (const (32:i64)) 3
      cases hG : (b1) with
      | true =>
        refine ob_no fun f w' hb hp => ?_
        simp [PreOf, factOf, valOf, Ph.is, Ph.any, Region.binds, hG] at hp
        exact ⟨by simp [Gd, valOf, hp], by simp [Ph.is]⟩
      | false =>
        refine ob_yes fun f w' hb hp => ?_
        simp [PreOf, factOf, valOf, Ph.is, Ph.any, Region.binds, hG] at hp
        refine ⟨by simp [Gd, valOf, hp], ?_⟩
        refine mild_val (.bool b2) ?_ (by simp [Ph.is, hG])
        simp [execOp, evalF, hp, go_sem, hG]
        first | done | (rw [B2.out]; try first | rfl | exact decide_eq_decide.2 (by omega) | (simp; done) | (simp <;> omega) | (simp <;> rfl))
    · -- 9: slot 24 := Op.pick t19 (const (Value.bool true)) t23
      cases hG : (b1) with
      | true =>
        refine ob_yes fun f w' hb hp => ?_
        simp [PreOf, factOf, valOf, Ph.is, Ph.any, Region.binds, hG] at hp
        refine ⟨by simp [Gd, valOf, hp], ?_⟩
        refine mild_val (.bool (b1 || b2)) ?_ (by simp [Ph.is, hG])
        simp [execOp, evalF, hp, go_sem, hG]
      | false =>
        refine ob_yes fun f w' hb hp => ?_
        simp [PreOf, factOf, valOf, Ph.is, Ph.any, Region.binds, hG] at hp
        refine ⟨by simp [Gd, valOf, hp], ?_⟩
        refine mild_val (.bool (b1 || b2)) ?_ (by simp [Ph.is, hG])
        simp [execOp, evalF, hp, go_sem, hG]
    · -- 10: slot 25 := Op.move t24
      refine ob_yes fun f w' hb hp => ?_
      simp [PreOf, factOf, valOf, Ph.is, Ph.any, Region.binds] at hp
      refine ⟨by simp [Gd, valOf, hp], ?_⟩
      refine mild_val (.bool ((b1 || b2))) ?_ (by simp [Ph.is])
      simp [execOp, evalF, hp, go_sem]
    · -- 11: slot 26 := Op.fieldAddr 62 t4 1
      cases hG : ((b1 || b2)) with
      | true =>
        refine ob_no fun f w' hb hp => ?_
        simp [PreOf, factOf, valOf, Ph.is, Ph.any, Region.binds, hG] at hp
        exact ⟨by simp [Gd, valOf, hp], by simp [Ph.is]⟩
      | false =>
        refine ob_yes fun f w' hb hp => ?_
        simp [PreOf, factOf, valOf, Ph.is, Ph.any, Region.binds, hG] at hp
        refine ⟨by simp [Gd, valOf, hp], ?_⟩
        refine mild_val (.pointer (some ⟨w.heap.size, 1, none⟩)) ?_ (by simp [Ph.is, hG])
        simp [execOp, evalF, hp, go_sem, hG]
    · -- 12: slot 27 := Op.load 53 t26
      cases hG : ((b1 || b2)) with
      | true =>
        refine ob_no fun f w' hb hp => ?_
        simp [PreOf, factOf, valOf, Ph.is, Ph.any, Region.binds, hG] at hp
        exact ⟨by simp [Gd, valOf, hp], by simp [Ph.is]⟩
      | false =>
        refine ob_yes fun f w' hb hp => ?_
        simp [PreOf, factOf, valOf, Ph.is, Ph.any, Region.binds, hG] at hp
        refine ⟨by simp [Gd, valOf, hp], ?_⟩
        have hc := (Xf.out.blwM hb).cell 1 _ rfl
        refine mild_val (.int .u32 (fl.id.toNat : Int)) ?_ (by simp [Ph.is, hG])
        simp [execOp, evalF, hp, hc, go_sem, hG]
    · -- 13: slot 28 := Op.move t1
      cases hG : ((b1 || b2)) with
      | true =>
        refine ob_no fun f w' hb hp => ?_
        simp [PreOf, factOf, valOf, Ph.is, Ph.any, Region.binds, hG] at hp
        exact ⟨by simp [Gd, valOf, hp], by simp [Ph.is]⟩
      | false =>
        refine ob_yes fun f w' hb hp => ?_
        simp [PreOf, factOf, valOf, Ph.is, Ph.any, Region.binds, hG] at hp
        refine ⟨by simp [Gd, valOf, hp], ?_⟩
        refine mild_val (.int .u32 (next.toNat : Int)) ?_ (by simp [Ph.is, hG])
        simp [execOp, evalF, hp, go_sem, hG]
    · -- 14: slot 29 := Op.binOp BinOp.geq 53 t27 t28 53
      cases hG : ((b1 || b2)) with
      | true =>
        refine ob_no fun f w' hb hp => ?_
        simp [PreOf, factOf, valOf, Ph.is, Ph.any, Region.binds, hG] at hp
        exact ⟨by simp [Gd, valOf, hp], by simp [Ph.is]⟩
      | false =>
        refine ob_yes fun f w' hb hp => ?_
        simp [PreOf, factOf, valOf, Ph.is, Ph.any, Region.binds, hG] at hp
        refine ⟨by simp [Gd, valOf, hp], ?_⟩
        refine mild_val (.bool b3) ?_ (by simp [Ph.is, hG])
        simp [execOp, evalF, hp, go_sem, hG]
        first | done | (rw [B3.out]; try first | rfl | exact decide_eq_decide.2 (by omega) | (simp; done) | (simp <;> omega) | (simp <;> rfl))
    · -- 15: slot 30 := Op.pick t25 (const (Value.bool true)) t29
      cases hG : ((b1 || b2)) with
      | true =>
        refine ob_yes fun f w' hb hp => ?_
        simp [PreOf, factOf, valOf, Ph.is, Ph.any, Region.binds, hG] at hp
        refine ⟨by simp [Gd, valOf, hp], ?_⟩
        refine mild_val (.bool (b1 || b2 || b3)) ?_ (by simp [Ph.is, hG])
        simp [execOp, evalF, hp, go_sem, hG]
      | false =>
        refine ob_yes fun f w' hb hp => ?_
        simp [PreOf, factOf, valOf, Ph.is, Ph.any, Region.binds, hG] at hp
        refine ⟨by simp [Gd, valOf, hp], ?_⟩
        refine mild_val (.bool (b1 || b2 || b3)) ?_ (by simp [Ph.is, hG])
        simp [execOp, evalF, hp, go_sem, hG]
    · -- 16: slot 31 := Op.move t30
      refine ob_yes fun f w' hb hp => ?_
      simp [PreOf, factOf, valOf, Ph.is, Ph.any, Region.binds] at hp
      refine ⟨by simp [Gd, valOf, hp], ?_⟩
      refine mild_val (.bool ((b1 || b2 || b3))) ?_ (by simp [Ph.is])
      simp [execOp, evalF, hp, go_sem]
    · -- 17: slot 32 := Op.fieldAddr 62 t4 2
      cases hG : ((b1 || b2 || b3)) with
      | true =>
        refine ob_no fun f w' hb hp => ?_
        simp [PreOf, factOf, valOf, Ph.is, Ph.any, Region.binds, hG] at hp
        exact ⟨by simp [Gd, valOf, hp], by simp [Ph.is]⟩
      | false =>
        refine ob_yes fun f w' hb hp => ?_
        simp [PreOf, factOf, valOf, Ph.is, Ph.any, Region.binds, hG] at hp
        refine ⟨by simp [Gd, valOf, hp], ?_⟩
        refine mild_val (.pointer (some ⟨w.heap.size, 2, none⟩)) ?_ (by simp [Ph.is, hG])
        simp [execOp, evalF, hp, go_sem, hG]
    · -- 18: slot 33 := Op.load 3 t32
      cases hG : ((b1 || b2 || b3)) with
      | true =>
        refine ob_no fun f w' hb hp => ?_
        simp [PreOf, factOf, valOf, Ph.is, Ph.any, Region.binds, hG] at hp
        exact ⟨by simp [Gd, valOf, hp], by simp [Ph.is]⟩
      | false =>
        refine ob_yes fun f w' hb hp => ?_
        simp [PreOf, factOf, valOf, Ph.is, Ph.any, Region.binds, hG] at hp
        refine ⟨by simp [Gd, valOf, hp], ?_⟩
        have hc := (Xf.out.blwM hb).cell 2 _ rfl
        refine mild_val (.int .i64 fl.size) ?_ (by simp [Ph.is, hG])
        simp [execOp, evalF, hp, hc, go_sem, hG]
    · -- 19: slot 34 := Op.binOp BinOp.lss 3 t33 (const (0:i64)) 3
      cases hG : ((b1 || b2 || b3)) with
      | true =>
        refine ob_no fun f w' hb hp => ?_
        simp [PreOf, factOf, valOf, Ph.is, Ph.any, Region.binds, hG] at hp
        exact ⟨by simp [Gd, valOf, hp], by simp [Ph.is]⟩
      | false =>
        refine ob_yes fun f w' hb hp => ?_
        simp [PreOf, factOf, valOf, Ph.is, Ph.any, Region.binds, hG] at hp
        refine ⟨by simp [Gd, valOf, hp], ?_⟩
        refine mild_val (.bool b4) ?_ (by simp [Ph.is, hG])
        simp [execOp, evalF, hp, go_sem, hG]
        first | done | (rw [B4.out]; try first | rfl | exact decide_eq_decide.2 (by omega) | (simp; done) | (simp <;> omega) | (simp <;> rfl))
    · -- 20: slot 35 := Op.pick t31 (const (Value.bool true)) t34
      cases hG : ((b1 || b2 || b3)) with
      | true =>
        refine ob_yes fun f w' hb hp => ?_
        simp [PreOf, factOf, valOf, Ph.is, Ph.any, Region.binds, hG] at hp
        refine ⟨by simp [Gd, valOf, hp], ?_⟩
        refine mild_val (.bool (b1 || b2 || b3 || b4)) ?_ (by simp [Ph.is, hG])
        simp [execOp, evalF, hp, go_sem, hG]
      | false =>
        refine ob_yes fun f w' hb hp => ?_
        simp [PreOf, factOf, valOf, Ph.is, Ph.any, Region.binds, hG] at hp
        refine ⟨by simp [Gd, valOf, hp], ?_⟩
        refine mild_val (.bool (b1 || b2 || b3 || b4)) ?_ (by simp [Ph.is, hG])
        simp [execOp, evalF, hp, go_sem, hG]
    · -- 21: slot 36 := Op.move t35
      refine ob_yes fun f w' hb hp => ?_
      simp [PreOf, factOf, valOf, Ph.is, Ph.any, Region.binds] at hp
      refine ⟨by simp [Gd, valOf, hp], ?_⟩
      refine mild_val (.bool ((b1 || b2 || b3 || b4))) ?_ (by simp [Ph.is])
      simp [execOp, evalF, hp, go_sem]
    · -- 22: slot 37 := Op.fieldAddr 62 t4 2
      cases hG : ((b1 || b2 || b3 || b4)) with
      | true =>
        refine ob_no fun f w' hb hp => ?_
        simp [PreOf, factOf, valOf, Ph.is, Ph.any, Region.binds, hG] at hp
        exact ⟨by simp [Gd, valOf, hp], by simp [Ph.is]⟩
      | false =>
        refine ob_yes fun f w' hb hp => ?_
        simp [PreOf, factOf, valOf, Ph.is, Ph.any, Region.binds, hG] at hp
        refine ⟨by simp [Gd, valOf, hp], ?_⟩
        refine mild_val (.pointer (some ⟨w.heap.size, 2, none⟩)) ?_ (by simp [Ph.is, hG])
        simp [execOp, evalF, hp, go_sem, hG]
    · -- 23: slot 38 := Op.load 3 t37
      cases hG : ((b1 || b2 || b3 || b4)) with
      | true =>
        refine ob_no fun f w' hb hp => ?_
        simp [PreOf, factOf, valOf, Ph.is, Ph.any, Region.binds, hG] at hp
        exact ⟨by simp [Gd, valOf, hp], by simp [Ph.is]⟩
      | false =>
        refine ob_yes fun f w' hb hp => ?_
        simp [PreOf, factOf, valOf, Ph.is, Ph.any, Region.binds, hG] at hp
        refine ⟨by simp [Gd, valOf, hp], ?_⟩
        have hc := (Xf.out.blwM hb).cell 2 _ rfl
        refine mild_val (.int .i64 fl.size) ?_ (by simp [Ph.is, hG])
        simp [execOp, evalF, hp, hc, go_sem, hG]
    · -- 24: slot 39 := Op.call   value (Operand.func 86), args := #[t38], argTypes := #[3]  
      cases hG : ((b1 || b2 || b3 || b4)) with
      | true =>
        refine ob_no fun f w' hb hp => ?_
        simp [PreOf, factOf, valOf, Ph.is, Ph.any, Region.binds, hG] at hp
        exact ⟨by simp [Gd, valOf, hp], by simp [Ph.is]⟩
      | false =>
        refine ob_yes fun f w' hb hp => ?_
        simp [PreOf, factOf, valOf, Ph.is, Ph.any, Region.binds, hG] at hp
        refine ⟨by simp [Gd, valOf, hp], ?_⟩
        refine mild_call 86 _ _ Try.f86 Try.func86 (by kernel_rfl) (by kernel_rfl) rfl ?_
        simp [evalF, hp, Ph.is, Ph.any, hG]
        refine (many_any w' fl.size hfo.2.1 hfo.2.2).mono fun ev w2 h => ?_
        obtain ⟨rfl, rfl⟩ := h
        first | exact ⟨_, rfl, Below.refl _ _, rfl⟩ | exact ⟨rfl, Below.refl _ _⟩ | exact Below.refl _ _ | simpa using Below.refl _ _
    · -- 25: slot 40 := Op.fieldAddr 62 t4 3
      cases hG : ((b1 || b2 || b3 || b4)) with
      | true =>
        refine ob_no fun f w' hb hp => ?_
        simp [PreOf, factOf, valOf, Ph.is, Ph.any, Region.binds, hG] at hp
        exact ⟨by simp [Gd, valOf, hp], by simp [Ph.is]⟩
      | false =>
        refine ob_yes fun f w' hb hp => ?_
        simp [PreOf, factOf, valOf, Ph.is, Ph.any, Region.binds, hG] at hp
        refine ⟨by simp [Gd, valOf, hp], ?_⟩
        refine mild_val (.pointer (some ⟨w.heap.size, 3, none⟩)) ?_ (by simp [Ph.is, hG])
        simp [execOp, evalF, hp, go_sem, hG]
    · -- 26: slot 41 := Op.load 60 t40
      cases hG : ((b1 || b2 || b3 || b4)) with
      | true =>
        refine ob_no fun f w' hb hp => ?_
        simp [PreOf, factOf, valOf, Ph.is, Ph.any, Region.binds, hG] at hp
        exact ⟨by simp [Gd, valOf, hp], by simp [Ph.is]⟩
      | false =>
        refine ob_yes fun f w' hb hp => ?_
        simp [PreOf, factOf, valOf, Ph.is, Ph.any, Region.binds, hG] at hp
        refine ⟨by simp [Gd, valOf, hp], ?_⟩
        have hc := (Xf.out.blwM hb).cell 3 _ rfl
        refine mild_val (.slice Ab fl.blocks.length cb) ?_ (by simp [Ph.is, hG])
        simp [execOp, evalF, hp, hc, go_sem, hG]
    · -- 27: slot 42 := Op.call   builtin len, args := #[t41], argTypes := #[60]  
      cases hG : ((b1 || b2 || b3 || b4)) with
      | true =>
        refine ob_no fun f w' hb hp => ?_
        simp [PreOf, factOf, valOf, Ph.is, Ph.any, Region.binds, hG] at hp
        exact ⟨by simp [Gd, valOf, hp], by simp [Ph.is]⟩
      | false =>
        refine ob_yes fun f w' hb hp => ?_
        simp [PreOf, factOf, valOf, Ph.is, Ph.any, Region.binds, hG] at hp
        refine ⟨by simp [Gd, valOf, hp], ?_⟩
        refine mild_val (.int .i64 (fl.blocks.length : Int)) ?_ (by simp [Ph.is, hG])
        simp [execOp, evalF, hp, go_sem, hG]
    · -- 28: slot 43 := Op.binOp BinOp.neq 3 t39 t42 3
      cases hG : ((b1 || b2 || b3 || b4)) with
      | true =>
        refine ob_no fun f w' hb hp => ?_
        simp [PreOf, factOf, valOf, Ph.is, Ph.any, Region.binds, hG] at hp
        exact ⟨by simp [Gd, valOf, hp], by simp [Ph.is]⟩
      | false =>
        refine ob_yes fun f w' hb hp => ?_
        simp [PreOf, factOf, valOf, Ph.is, Ph.any, Region.binds, hG] at hp
        refine ⟨by simp [Gd, valOf, hp], ?_⟩
        refine mild_val (.bool b5) ?_ (by simp [Ph.is, hG])
        simp [execOp, evalF, hp, go_sem, hG]
        first | done | (rw [B5.out]; try first | rfl | exact decide_eq_decide.2 (by omega) | (simp; done) | (simp <;> omega) | (simp <;> rfl))
    · -- 29: slot 44 := Op.pick t36 (const (Value.bool true)) t43
      cases hG : ((b1 || b2 || b3 || b4)) with
      | true =>
        refine ob_yes fun f w' hb hp => ?_
        simp [PreOf, factOf, valOf, Ph.is, Ph.any, Region.binds, hG] at hp
        refine ⟨by simp [Gd, valOf, hp], ?_⟩
        refine mild_val (.bool (b1 || b2 || b3 || b4 || b5)) ?_ (by simp [Ph.is, hG])
        simp [execOp, evalF, hp, go_sem, hG]
      | false =>
        refine ob_yes fun f w' hb hp => ?_
        simp [PreOf, factOf, valOf, Ph.is, Ph.any, Region.binds, hG] at hp
        refine ⟨by simp [Gd, valOf, hp], ?_⟩
        refine mild_val (.bool (b1 || b2 || b3 || b4 || b5)) ?_ (by simp [Ph.is, hG])
        simp [execOp, evalF, hp, go_sem, hG]
  · intro f w2 hb2 hp
    simp only [PostOf, Ph.is, Ph.any] at hp
    obtain ⟨h0, h1, h2, h3, h4, h5, h6, h7, h8, h9, h10, h11, h12, h13, h14, h15, h16, h17, h18, h19, h20, h21, h22, h23, h24, h25, h26, h27, h28, h29, _⟩ := hp
    simp only [fills, List.foldl_cons, List.foldl_nil, Act.put, List.setIfInBounds_toArray, List.set_cons_zero, List.set_cons_succ, h0, h1, h2, h3, h4, h9, h10, h15, h16, h20, h21, h29]
    clear h0 h1 h2 h3 h4 h9 h10 h15 h16 h20 h21 h29 h5 h6 h7 h8 h11 h12 h13 h14 h17 h18 h19 h22 h23 h24 h25 h26 h27 h28
    generalize f 20 = v20
    generalize f 21 = v21
    generalize f 22 = v22
    generalize f 23 = v23
    generalize f 26 = v26
    generalize f 27 = v27
    generalize f 28 = v28
    generalize f 29 = v29
    generalize f 32 = v32
    generalize f 33 = v33
    generalize f 34 = v34
    generalize f 37 = v37
    generalize f 38 = v38
    generalize f 39 = v39
    generalize f 40 = v40
    generalize f 41 = v41
    generalize f 42 = v42
    generalize f 43 = v43
    have hb0 := bstep Hb.out (hb2.mono (by omega))
    have Hb0 : Hid (Bt m1 m2 w w2) := Lib.hid (Bt.of hb0)
    have Xf2 := Lib.hid (Xf.out.blwM hb2)
    have K1 := Lib.hid (H1.out.blw hb0)
    have K2 := Lib.hid (H2.out.blw hb0)
    have hs0 := hb0.size
    have hs1 := hb2.size
    clear hb0 hb2
    cases hB : (b1 || b2 || b3 || b4 || b5) with
    | true =>
      have hr : rightC next S1 S2 fl = false := by unfold rightC; rw [Hbas.out, hB]; rfl
      have Hr := Lib.hid hr
      clear hr
      go_wp2_with fail
      go_ret
      refine ⟨by rw [Hr.out]; rfl, fun h => ?_, Hb0.out⟩
      rw [Hr.out] at h
      cases h
    | false =>
      rw [hB] at Hbas
      clear B1 B2 B3 B4 B5
      have hc1 := Xf2.out.cell 1 _ rfl
      go_upto_region 4 with (first
        | (at_lookup; refine wpList_setLook rfl (.tmp 46) (.tmp 48) _ 53 .u32 rfl Try.underlying53 Try.underlying135 m1 n1 S1 rfl K1.out _ (wf_u32 fl.id) rfl ?_)
        | (refine wpList_alloc_z rfl 152 rfl info_none0 [] rfl ?_)
        | (refine wpList_store_new rfl 152 (.tmp 9) (.tmp 50) rfl [] [] rfl rfl info_none0 rfl (by simp) ?_))
      obtain ⟨w3, hw3⟩ : ∃ w3, w3 = w2.alloc (.cells #[] 152) := ⟨_, rfl⟩
      rw [← hw3]
      have hb3 : Below w2.heap.size w2 w3 := by rw [hw3]; exact balloc w2 _
      have hs3 := hb3.size
      have Hb3 := Lib.hid (Hb0.out.step hb3)
      have X3 := Lib.hid (Xf2.out.blwM hb3)
      have L1 := Lib.hid (K1.out.blw hb3)
      have L2 := Lib.hid (K2.out.blw hb3)
      clear hw3 hb3 hc1 K1 K2 Xf2 Hb0
      cases hD : decide ((fl.id.toNat : Int) ∈ S1) with
      | true =>
        have hr : rightC next S1 S2 fl = false := by unfold rightC; rw [hD]; simp
        have Hr := Lib.hid hr
        clear hr
        go_wp2_with fail
        go_ret
        refine ⟨by rw [Hr.out]; rfl, fun h => ?_, Hb3.out⟩
        rw [Hr.out] at h
        cases h
      | false =>
        have hr : rightC next S1 S2 fl = blksC S2 fl.blocks fl.blocks.length := by unfold rightC; rw [Hbas.out, hD]; rfl
        have Hr := Lib.hid hr
        have hc1 := X3.out.cell 1 _ rfl
        clear hr
        go_upto_region 7 with ((at_mapUpdate; refine wpList_setPut rfl (.tmp 53) (.tmp 55) (.tmp 56) _ 53 .u32 rfl Try.underlying53 Try.underlying135 m1 n1 S1 rfl L1.out (by unfold maxLen; omega) _ (wf_u32 fl.id) rfl rfl ?_; intro w4 M1 hg4))
        have hs4 := hg4.size
        have Hb4 := Lib.hid (Hb3.out.grown hg4 (.inl rfl))
        have X4 := Lib.hid (X3.out.grown hg4 (by simp; omega))
        have M2 := Lib.hid (L2.out.kept hg4 (fun e => Hne.out (by injection e with e; exact e.symm)))
        replace M1 := Lib.hid M1
        have hc3 := X4.out.cell 3 _ rfl
        clear hg4 hc1 L1 L2 X3 Hb3
        go_wp2_with fail
        go_loopw [60] (fun iv wr => ∃ k : Nat, k ≤ fl.blocks.length ∧ iv = .int .i64 k ∧ blksC S2 fl.blocks k = true ∧ w4.heap.size ≤ wr.heap.size ∧ Bt m1 m2 w wr ∧
          MSet 53 .u32 wr m1 (n1 + 1) ((fl.id.toNat : Int) :: S1) ∧ MSet 3 .i64 wr m2 (n2 + k) (fl.blocks.take k ++ S2)) (fun i _ => fl.blocks.length - (intOf i).toNat)
        case atStart => exact ⟨0, by omega, rfl, rfl, Nat.le_refl _, Hb4.out, M1.out, M2.out⟩
        case round =>
          obtain ⟨k, hk, rfl, hbk, hsr, hbr, hr1, hr2⟩ := hrel
          have Hbr := Lib.hid hbr
          have R1 := Lib.hid hr1
          have R2 := Lib.hid hr2
          have Hbk := Lib.hid hbk
          clear hbr hr1 hr2 hbk hc3
          by_cases hlt : k < fl.blocks.length
          · obtain ⟨_, ad, rfl, hab, hcell, hx1, hx2⟩ := (HI.out.below (Hbr.out.low hB1 hB2 hBw)).cells k hlt
            have hbs := blksC_succ S2 fl.blocks k
            rw [Hbk.out, Bool.true_and, blkC_eq S2 _ k hlt] at hbs
            have hbf := fun h => blksC_false S2 fl.blocks k h fl.blocks.length hlt
            have htk : fl.blocks.take (k + 1) = fl.blocks.take k ++ [fl.blocks[k]] := by rw [List.take_add_one, List.getElem?_eq_getElem hlt]; rfl
            generalize fl.blocks[k] = x at *
            obtain ⟨d1, hd1⟩ : ∃ b, b = decide (x ∈ fl.blocks.take k ++ S2) := ⟨_, rfl⟩
            obtain ⟨d2, hd2⟩ : ∃ b, b = decide (x < 32) := ⟨_, rfl⟩
            obtain ⟨d3, hd3⟩ : ∃ b, b = decide (65536 ≤ x) := ⟨_, rfl⟩
            rw [← hd1, ← hd2, ← hd3] at hbs
            have D1 := Lib.hid hd1
            have D2 := Lib.hid hd2
            have D3 := Lib.hid hd3
            have Hbs := Lib.hid hbs
            have Hbf := Lib.hid hbf
            have Htk := Lib.hid htk
            have Hx := Lib.hid (wf_i64 x hx1 hx2)
            clear hd1 hd2 hd3 hbs hbf htk
            go_upto_region 11 with (first
              | (at_lookup; refine wpList_setLook rfl (.tmp 65) (.tmp 66) _ 3 .i64 rfl Try.underlying3 Try.underlying136 m2 (n2 + k) (fl.blocks.take k ++ S2) rfl R2.out x Hx.out rfl ?_; rw [← D1.out])
              | (refine wpList_alloc_z rfl 152 rfl info_none0 [] rfl ?_)
              | (refine wpList_store_new rfl 152 (.tmp 13) (.tmp 68) rfl [] [] rfl rfl info_none0 rfl (by simp) ?_))
            obtain ⟨w5, hw5⟩ : ∃ w5, w5 = wr.alloc (.cells #[] 152) := ⟨_, rfl⟩
            rw [← hw5]
            have hb5 : Below wr.heap.size wr w5 := by rw [hw5]; exact balloc wr _
            have hs5 := hb5.size
            have Hb5 := Lib.hid (Hbr.out.step hb5)
            have Q1 := Lib.hid (R1.out.blw hb5)
            have Q2 := Lib.hid (R2.out.blw hb5)
            clear hw5 hb5 R1 R2 hcell
            have hbad : (d1 || d2 || d3) = true → rightC next S1 S2 fl = false := fun h => by rw [Hr.out]; exact Hbf.out (by rw [Hbs.out, h]; rfl)
            have Hbad := Lib.hid hbad
            clear hbad
            cases hd1 : d1 with
            | true =>
              subst hd1
              go_wp2_with fail
              go_ret
              have hr := Hbad.out rfl
              refine ⟨by rw [hr]; rfl, fun h => ?_, Hb5.out⟩
              rw [hr] at h
              cases h
            | false =>
              subst hd1
              cases hd2 : d2 with
              | true =>
                subst hd2
                have hd := D2.out.symm
                go_wp2_with fail
                go_ret
                have hr := Hbad.out rfl
                refine ⟨by rw [hr]; rfl, fun h => ?_, Hb5.out⟩
                rw [hr] at h
                cases h
              | false =>
                subst hd2
                have hd := D2.out.symm
                cases hd3 : d3 with
                | true =>
                  subst hd3
                  have hd' := D3.out.symm
                  go_wp2_with fail
                  go_ret
                  have hr := Hbad.out rfl
                  refine ⟨by rw [hr]; rfl, fun h => ?_, Hb5.out⟩
                  rw [hr] at h
                  cases h
                | false =>
                  subst hd3
                  have hd' := D3.out.symm
                  go_wp2_with ((at_mapUpdate; refine wpList_setPut rfl (.tmp 79) (.tmp 80) (.tmp 81) _ 3 .i64 rfl Try.underlying3 Try.underlying136 m2 (n2 + k) (fl.blocks.take k ++ S2) rfl Q2.out (by unfold maxLen; omega) x Hx.out rfl rfl ?_; intro w6 P2 hg6))
                  have hs6 := hg6.size
                  go_roundw
                  case rel => exact ⟨k + 1, by omega, by go_num, Hbs.out, by omega, Hb5.out.grown hg6 (.inr rfl), Q1.out.kept hg6 (fun e => Hne.out (by injection e)), P2.congr (fun y => by rw [Htk.out]; exact mem_snocL)⟩
                  case measure => simp [intOf]; omega
          · obtain rfl : k = fl.blocks.length := by omega
            have Hr2 := Lib.hid (Hr.out.trans Hbk.out)
            rw [List.take_length] at R2
            go_wp2_with fail
            go_ret
            exact ⟨by rw [Hr2.out]; rfl, fun _ => ⟨R1.out, R2.out⟩, Hbr.out⟩
end Go.Proofs.Ytpoicbhbkabllaa

namespace Go.Proofs.Ytpoicbhbkabllaa
set_option linter.unusedSimpArgs false
set_option linter.unusedVariables false
open Go.RowKit

theorem strCells_bst (l : List UInt8) : Lib.strCells (bst l) = b8s l := by simp [Lib.strCells, bst, b8s, b8]
theorem bst_size (l : List UInt8) : (bst l).size = l.length := rfl
theorem wpList_apps {ops : Array Oper} {rest : List Oper} {o : Oper} {a : Act} {w : World} {Q : Exit → Act → World → Prop} (hgd : o.guard = none) (s x : Operand)
    (ho : o.op = .call { callee := .builtin .append, args := #[s, x], argTypes := #[30, 9] })
    {base : Nat} {v : Value} {l : List UInt8} (l2 : List UInt8) (hown : Ow w base v l) (hs : a.eval s = v) (hx : a.eval x = .string (bst l2))
    (hsz : l.length + l2.length ≤ 140737488355328) (hbase : base ≤ w.heap.size)
    (h : ∀ v' w', Ow w' base v' (l ++ l2) → Ext w w' v v' → wpList Try.prog ops Q rest (a.put o.dst v') w') : wpList Try.prog ops Q (o :: rest) a w := by
  obtain ⟨i, hi, hz0, hz1, hz2⟩ := info_parts info8
  have hu8 := Try.underlying30
  have hust := Try.underlying9
  refine wpList_plain hgd fun K hK => ?_
  obtain ⟨v', w', hr, h2, h3, h4⟩ := Lib.run_append_own_string (P := Try.prog) w base 30 9 o.type 5 i hu8 hust hi hz0 hz1 hz2 v l.length (b8s l) hown (bst l2)
    (by rw [bst_size]; unfold maxLen; omega) (by rw [bst_size]; omega) hbase
  have hat : v'.ownBlock = v.ownBlock ∨ v'.ownBlock = some w.heap.size := by
    rcases hown.2 with ⟨rfl, hn⟩ | ⟨g, cap, cur, rfl, hbg, hg, hnc, hcm, hcs, htake⟩
    · by_cases hm : l2.length = 0
      · exact .inl (by rw [h4.2 ⟨rfl, hm⟩])
      · have hk := run_append_nil_string (P := Try.prog) w 30 9 o.type 5 i (.int .u8 0) hu8 hust hi hz0 (bst l2) (by rw [bst_size]; omega) (by rw [bst_size]; omega) (by rw [bst_size, hz2]; omega)
        rw [hr] at hk
        injection hk with hk1 _
        exact .inr (by rw [hk1]; rfl)
    · by_cases hroom : l.length + (bst l2).size ≤ cap
      · have hcs' : cur.size = cap := by simpa using hcs
        have hk := Lib.run_append_room_string (P := Try.prog) w 30 9 o.type 5 i hu8 hust hi hz1 g l.length cap cur hg (bst l2) hroom (by omega)
        rw [hr] at hk
        injection hk with hk1 _
        exact .inl (by rw [hk1]; rfl)
      · have holds : ∀ j u, (b8s l)[j]? = some u → w.cell? ((⟨g, 0, none⟩ : Addr).add j) = some u := hown.cells (g := g) rfl
        have hk := Lib.run_append_grow_string (P := Try.prog) w 30 9 o.type 5 i (.int .u8 0) hu8 hust hi hz0 ⟨g, 0, none⟩ l.length cap (b8s l) (by rw [hz1, b8s_length]; omega) holds (bst l2) (by omega) (by rw [bst_size]; omega)
          (by rw [hz2]; exact growslice_fits (by omega) (by rw [bst_size]; omega))
        rw [hr] at hk
        injection hk with hk1 _
        exact .inr (by rw [hk1]; rfl)
  unfold Oper.wp execOp
  simp only [ho, resolve, invoke, builtin, Sem.run_bind, Sem.run_pure, Result.andThen_ok, List.map_toArray, List.map_cons, List.map_nil, hs, hx, hr]
  refine hK _ _ (h v' w' ?_ ⟨h3, ?_⟩)
  · unfold Ow
    rw [List.length_append, b8s_append, ← strCells_bst l2]
    exact h2
  · rcases hat with h5 | h5
    · exact .inl h5
    · exact .inr fun k hk => by rw [h5] at hk; injection hk with hk; omega
end Go.Proofs.Ytpoicbhbkabllaa

namespace Go.Proofs.Ytpoicbhbkabllaa
set_option linter.unusedSimpArgs false
set_option linter.unusedVariables false
open Go.RowKit

theorem mildM_call {P : Program} {i : Nat} {J : (Nat → Bool) → (Nat → Value) → World → Prop} {d : Option Nat} {q : Value → Prop} {w' : World} {b : Nat → Bool} {vs : Nat → Value} {ρ : Operand → Value} (f : Nat) (args : Array Operand) (ts : Array TypeId) (fn : Func) (hf : P.funcs[f]? = some fn) (hn : (fn.name == "runtime.NumGoroutine") = false) (hb : fn.body.isNone = false)
    {t : TypeId} {pos : String} {af : Array Edge} {g : Option (Nat × Bool)} (hρ : ρ (.func f) = .func (.func f) #[] #[])
    (h : Calls P f (args.map ρ) w' (fun e w'' => ∃ v, e = .returned v ∧ q (dstVal d v) ∧ J (fun s => if s = i then true else b s) (fun s => if s = i then dstVal d v else vs s) w'')) :
    mildM P d q i J b vs ((execOp ρ { dst := d, op := .call { callee := .value (.func f), args := args, argTypes := ts }, type := t, pos := pos, after := af, guard := g }).run P w') := by
  have hr : (execOp ρ { dst := d, op := .call { callee := .value (.func f), args := args, argTypes := ts }, type := t, pos := pos, after := af, guard := g }).run P w' = .ok (.enter f (args.map ρ)) w' := by
    simp [execOp, resolve, hρ, Deferred.ofValue, invoke, callFunc, hf]
    rw [if_neg (by simpa using hn), if_neg (by intro h; simp [h] at hb)]
  rw [hr]
  exact h
theorem calls_args {P : Program} {f : Nat} {args args' : Array Value} {w : World} {Q : Ending → World → Prop} (h : args = args') (k : Calls P f args' w Q) : Calls P f args w Q := h ▸ k
end Go.Proofs.Ytpoicbhbkabllaa
