/- Regions that draw their order and end in operations that wait for all others (an append, a store): the others by facts on their values, the end in its own order. -/
import Derived.Test.YtpoicbhbkabllaaTyped
namespace Go.Proofs.Ytpoicbhbkabllaa
set_option linter.unusedSimpArgs false
set_option linter.unusedVariables false
open Go.RowKit

def predsOf (o : Oper) : List Nat := o.after.toList.filterMap fun e => if Region.binds .any e then some e.on else none
theorem mem_predsOf {o : Oper} {k : Nat} : k ∈ predsOf o ↔ ∃ e ∈ o.after, Region.binds .any e = true ∧ e.on = k := by
  unfold predsOf
  rw [List.mem_filterMap]
  constructor
  · rintro ⟨e, he, h⟩
    split at h
    · exact ⟨e, by simpa using he, ‹_›, by simpa using h⟩
    · cases h
  · rintro ⟨e, he, hb, rfl⟩
    exact ⟨e, by simpa using he, by rw [if_pos hb]⟩
/-- all that an operation waits for, directly and through others -/
def ancs : List Oper → List (List Nat) → List (List Nat)
  | [], acc => acc
  | o :: os, acc => ancs os (acc ++ [(predsOf o ++ (predsOf o).flatMap fun j => acc.getD j []).eraseDups])
def backB (L : List Oper) : Bool := (L.zipIdx).all (fun x => x.1.after.all fun e => !Region.binds .any e || decide (e.on < x.2))
theorem back_spec {L : List Oper} (h : backB L = true) (i : Nat) (o : Oper) (ho : L[i]? = some o) (e : Edge) (he : e ∈ o.after) (hb : Region.binds .any e = true) : e.on < i := by
  have h1 := List.all_eq_true.1 h (o, i) (by
    rw [List.mem_zipIdx_iff_getElem?]; exact ho)
  have h2 := (Array.all_eq_true_iff_forall_mem.1 h1) e he
  simpa [hb] using h2
def guardB (l : List Oper) : Bool := l.all fun o => match o.guard with | none => true | some (j, _) => decide (j < l.length)
theorem guard_spec {l : List Oper} (h : guardB l = true) {i : Nat} {o : Oper} (ho : l[i]? = some o) (j : Nat) (b : Bool) (hg : o.guard = some (j, b)) : j < l.length := by
  have h1 := List.all_eq_true.1 h o (List.mem_of_getElem? ho)
  rw [hg] at h1
  exact of_decide_eq_true h1
def tailB (l l2 : List Oper) : Bool :=
  backB (l ++ l2) && guardB l && (List.range l2.length).all fun k => (List.range (l.length + k)).all fun j => ((ancs (l ++ l2) []).getD (l.length + k) []).contains j
def Closed (L : List Oper) (listed : Array Bool) : Prop :=
  ∀ (i : Nat) (o : Oper), L[i]? = some o → listed.getD i false = true → ∀ e ∈ o.after, Region.binds .any e = true → listed.getD e.on false = true

theorem ancs_spec {L : List Oper} {S : Nat → Prop} (hcl : ∀ (i : Nat) (o : Oper), L[i]? = some o → S i → ∀ k ∈ predsOf o, S k) : ∀ (os : List Oper) (acc : List (List Nat)) (m : Nat), acc.length = m → (∀ j : Nat, os[j]? = L[m + j]?) →
    (∀ (i : Nat) (o : Oper), L[i]? = some o → (∀ k ∈ predsOf o, S k) → ∀ k ∈ acc.getD i [], S k) →
    ∀ (i : Nat) (o : Oper), L[i]? = some o → (∀ k ∈ predsOf o, S k) → ∀ k ∈ (ancs os acc).getD i [], S k
  | [], acc, m, _, _, hacc => hacc
  | o :: os, acc, m, hm, hos, hacc => by
    unfold ancs
    refine ancs_spec hcl os _ (m + 1) (by simp [hm]) (fun j => by have := hos (j + 1); simpa [Nat.add_assoc, Nat.add_comm 1 j] using this) ?_
    intro i oi hoi hp k hk
    rw [List.getD_eq_getElem?_getD, List.getElem?_append] at hk
    split at hk
    · exact hacc i oi hoi hp k (by rw [List.getD_eq_getElem?_getD]; exact hk)
    · rename_i hge
      by_cases hi : i = acc.length
      · subst hi
        simp only [Nat.sub_self, List.getElem?_cons_zero, Option.getD_some, List.mem_eraseDups, List.mem_append, List.mem_flatMap] at hk
        have ho : oi = o := by
          have := hos 0
          rw [Nat.add_zero, ← hm, hoi] at this
          simpa using this.symm
        subst ho
        rcases hk with hk | ⟨j, hj, hk⟩
        · exact hp k hk
        · have hSj := hp j hj
          rcases Nat.lt_or_ge j acc.length with hjl | hjl
          · cases hoj : L[j]? with
            | none =>
              exfalso
              have h1 := List.getElem?_eq_none_iff.1 hoj
              have h2 := (List.getElem?_eq_some_iff.1 hoi).1
              omega
            | some oj => exact hacc j oj hoj (hcl j oj hoj hSj) k hk
          · rw [List.getD_eq_getElem?_getD, List.getElem?_eq_none hjl] at hk
            simp at hk
      · have : 1 ≤ i - acc.length := by omega
        rw [List.getElem?_eq_none (by simpa using this)] at hk
        simp at hk
theorem tail_anc {l l2 : List Oper} (ht : tailB l l2 = true) (listed : Array Bool) (hcl : Closed (l ++ l2) listed) (i : Nat) (o : Oper) (ho : (l ++ l2)[i]? = some o) (hi : l.length ≤ i)
    (hp : ∀ e ∈ o.after, Region.binds .any e = true → listed.getD e.on false = true) : ∀ k, k < i → listed.getD k false = true := by
  intro k hk
  have hil : i < l.length + l2.length := by
    have := (List.getElem?_eq_some_iff.1 ho).1
    simpa using this
  simp only [tailB, Bool.and_eq_true] at ht
  have h1 := List.all_eq_true.1 ht.2 (i - l.length) (by rw [List.mem_range]; omega)
  have h2 := List.all_eq_true.1 h1 k (by rw [List.mem_range]; omega)
  rw [show l.length + (i - l.length) = i by omega] at h2
  refine ancs_spec (L := l ++ l2) (S := fun k => listed.getD k false = true) (fun i o ho hS k hk => ?_) (l ++ l2) [] 0 rfl (by simp) (by simp) i o ho (fun k hk => ?_) k (by simpa using h2)
  · obtain ⟨e, he, hb, rfl⟩ := mem_predsOf.1 hk
    exact hcl i o ho hS e he hb
  · obtain ⟨e, he, hb, rfl⟩ := mem_predsOf.1 hk
    exact hp e he hb
theorem yielded_iff2 (l l2 : List Oper) (dl : List (Option Nat)) (hdl : l.map (·.dst) = dl) (ds : List Nat) (f : Nat → Value) (a : Act) (h : ∀ d ∈ ds, d < a.tmps.size) (hds : ∀ d, some d ∈ dl → d ∈ ds) (g : Option (Nat × Bool)) (o : Oper) (hg : o.guard = g)
    (hgl : ∀ j b, g = some (j, b) → j < l.length) :
    Region.wanted o (yielded (l ++ l2).toArray (fills ds f a).tmps) = true ↔ Gd dl f g := by
  rw [← yielded_iff l.toArray dl (by simpa using hdl) ds f a h hds g o hg]
  unfold Region.wanted
  subst hg
  cases hgd : o.guard with
  | none => simp
  | some x =>
    obtain ⟨j, want⟩ := x
    have := hgl j want hgd
    simp only [yielded]
    rw [show (l ++ l2).toArray[j]? = l.toArray[j]? from by simp [List.getElem?_append_left this]]
section
variable {P : Program} {l : List Oper} {dl : List (Option Nat)} {Φ : List Ph} {a : Act} {w : World} {Q : Exit → Act → World → Prop}
theorem lex_tail {l2 : List Oper} (hback : backB (l ++ l2) = true) (hanc : ∀ (listed : Array Bool), Closed (l ++ l2) listed → ∀ (i : Nat) (o : Oper), (l ++ l2)[i]? = some o → l.length ≤ i → (∀ e ∈ o.after, Region.binds .any e = true → listed.getD e.on false = true) → ∀ k, k < i → listed.getD k false = true) :
    ∀ (rest : List Oper) (m : Nat) (listed : Array Bool), l.length ≤ m → (∀ j : Nat, rest[j]? = (l ++ l2)[m + j]?) → m + rest.length = (l ++ l2).length → listed.size = (l ++ l2).length → (∀ i, i < m → listed.getD i false = true) →
      (∀ i, m ≤ i → i < (l ++ l2).length → listed.getD i false = false) →
      ∀ {a : Act} {w : World}, wpList P (l ++ l2).toArray Q rest a w → wpAny P .any (l ++ l2).toArray Q rest.length listed a w
  | [], m, listed, hlm, hos, hml, hs, hlow, hhigh, a, w, h => by
    refine ⟨?_, h⟩
    rw [List.eq_nil_iff_forall_not_mem]
    intro i hi
    obtain ⟨h1, o, ho, _⟩ := mem_ready.1 hi
    have hil : i < (l ++ l2).length := by
      have := (Array.getElem?_eq_some_iff.1 ho).1
      simpa using this
    have h2 := hlow i (by simpa [← hml] using hil)
    rw [Array.getD_eq_getD_getElem?, Array.getElem?_eq_getElem (by omega)] at h1 h2
    simp at h1 h2
    rw [h1] at h2
    cases h2
  | o :: rest, m, listed, hlm, hos, hml, hs, hlow, hhigh, a, w, h => by
    have hm0 : (l ++ l2)[m]? = some o := by have := hos 0; simpa using this.symm
    have hmlt : m < (l ++ l2).length := (List.getElem?_eq_some_iff.1 hm0).1
    have hclo : Closed (l ++ l2) listed := by
      intro i oi hoi hl e he hb
      have hil : i < (l ++ l2).length := (List.getElem?_eq_some_iff.1 hoi).1
      have him : i < m := by
        rcases Nat.lt_or_ge i m with h | h
        · exact h
        · rw [hhigh i h hil] at hl; cases hl
      exact hlow e.on (Nat.lt_trans (back_spec hback i oi hoi e he hb) him)
    have hready : m ∈ Region.ready .any (l ++ l2).toArray listed := by
      rw [mem_ready]
      refine ⟨?_, o, by simpa using hm0, fun e he hb => hlow e.on (back_spec hback m o hm0 e he hb)⟩
      have := hhigh m (Nat.le_refl _) hmlt
      rw [Array.getD_eq_getD_getElem?] at this ⊢
      rw [Array.getElem?_eq_getElem (by omega)] at this ⊢
      exact this
    rw [List.length_cons]
    refine ⟨fun h0 => ?_, fun i hi => ?_⟩
    · rw [h0] at hready; cases hready
    · obtain ⟨hun, oi, hoi, hpre⟩ := mem_ready.1 hi
      have hoi' : (l ++ l2)[i]? = some oi := by simpa using hoi
      have hil : i < (l ++ l2).length := (List.getElem?_eq_some_iff.1 hoi').1
      have him : ¬ i < m := by
        intro h1
        have h2 := hlow i h1
        rw [Array.getD_eq_getD_getElem?, Array.getElem?_eq_getElem (by omega)] at h2 hun
        simp at h2 hun
        rw [hun] at h2
        cases h2
      have hi_eq : i = m := by
        rcases Nat.lt_or_ge m i with h1 | h1
        · have h2 := hanc listed hclo i oi hoi' (by omega) hpre m h1
          rw [hhigh m (Nat.le_refl _) hmlt] at h2
          cases h2
        · omega
      subst hi_eq
      rw [hm0] at hoi'
      injection hoi' with hoi'
      subst hoi'
      have hnext : ∀ a' w', wpList P (l ++ l2).toArray Q rest a' w' → wpAny P .any (l ++ l2).toArray Q rest.length (listed.setIfInBounds i true) a' w' := by
        intro a' w' h'
        refine lex_tail hback hanc rest (i + 1) _ (by omega) (fun j => by have := hos (j + 1); simpa [Nat.add_assoc, Nat.add_comm 1 j] using this) (by simp at hml ⊢; omega) (by simpa using hs) ?_ ?_ h'
        · intro k hk
          by_cases hki : k = i
          · rw [hki, Array.getD_eq_getD_getElem?, Array.getElem?_setIfInBounds_self_of_lt (by omega)]; rfl
          · rw [getD_set_ne false (Ne.symm hki)]; exact hlow k (by omega)
        · intro k h1 h2
          rw [getD_set_ne false (by omega)]; exact hhigh k (by omega) h2
      unfold wpOp
      simp only [hoi]
      unfold wpList at h
      split at h
      · rename_i hw
        rw [if_pos hw]
        rcases h with h | h
        · exact .inl (Oper.wp_mono hnext h)
        · exact .inr h
      · rename_i hw
        rw [if_neg hw]
        exact hnext _ _ h
theorem typed_aux2 {l2 : List Oper} (hdl : l.map (·.dst) = dl) (hn : typedB l a.tmps.size = true) (ht : tailB l l2 = true) (hob : ObAll P dl Φ (dstsOf_ l) a w l Φ)
    (hQ : ∀ f w', Below w.heap.size w w' → PostOf f w' dl Φ → wpList P (l ++ l2).toArray Q l2 (fills (dstsOf_ l) f a) w') :
    ∀ (fuel : Nat) (listed : Array Bool) (rem : List Nat), rem.length = fuel → listed.size = (l ++ l2).length → rem.Nodup → (∀ i, i ∈ rem ↔ i < l.length ∧ listed.getD i true = false) →
      (∀ i, l.length ≤ i → i < (l ++ l2).length → listed.getD i false = false) → Closed (l ++ l2) listed →
      ∀ f w', Below w.heap.size w w' → (∀ i, i < l.length → listed.getD i false = true → factOf dl Φ f w' i) →
      wpAny P .any (l ++ l2).toArray Q (fuel + l2.length) listed (fills (dstsOf_ l) f a) w' := by
  simp only [typedB, Bool.and_eq_true] at hn
  obtain ⟨⟨⟨hnd, hlt⟩, hed⟩, _⟩ := hn
  have hdlg : ∀ i : Nat, dl[i]? = (l[i]?).map (fun (o : Oper) => o.dst) := fun i => by rw [← hdl]; simp
  have hnd := of_decide_eq_true hnd
  have hlt : ∀ d ∈ dstsOf_ l, d < a.tmps.size := fun d hd => of_decide_eq_true (List.all_eq_true.1 hlt d hd)
  have hed : ∀ (i : Nat) (o : Oper), l[i]? = some o → ∀ e ∈ o.after, Region.binds .any e = true → e.on < i := by
    intro i o ho e he hb
    have h1 := List.all_eq_true.1 hed (o, i) (by
      rw [List.mem_zipIdx_iff_getElem?]; exact ho)
    have h2 := (Array.all_eq_true_iff_forall_mem.1 h1) e he
    simpa [hb] using h2
  have hanc := tail_anc ht
  have hback : backB (l ++ l2) = true := by simp only [tailB, Bool.and_eq_true] at ht; exact ht.1.1
  have hguard : guardB l = true := by simp only [tailB, Bool.and_eq_true] at ht; exact ht.1.2
  intro fuel
  induction fuel with
  | zero =>
    intro listed rem hrem hs hnr hmem hhi hcl f w' hb hf
    have hr0 : rem = [] := List.eq_nil_of_length_eq_zero hrem
    have hal : ∀ i, i < l.length → listed.getD i false = true := by
      intro i hi
      rcases hc : listed.getD i false with _ | _
      · exfalso
        have : i ∈ rem := (hmem i).2 ⟨hi, by
          rw [Array.getD_eq_getD_getElem?] at hc ⊢
          rw [Array.getElem?_eq_getElem (by rw [hs, List.length_append]; omega)] at hc ⊢
          exact hc⟩
        rw [hr0] at this
        cases this
      · rfl
    rw [Nat.zero_add]
    refine lex_tail (l := l) hback hanc l2 l.length listed (Nat.le_refl _) (fun j => by rw [List.getElem?_append_right (by omega)]; congr 1; omega) (by simp) hs hal hhi ?_
    refine hQ f w' hb (postOf_mk dl Φ fun i d hd => ?_)
    have hi : i < l.length := by
      have := (List.getElem?_eq_some_iff.1 hd).1
      rw [← hdl] at this
      simpa using this
    have := hf i hi (hal i hi)
    unfold factOf valOf at this
    rw [hd] at this
    cases d <;> exact this
  | succ fuel ih =>
    intro listed rem hrem hs hnr hmem hhi hcl f w' hb hf
    rw [show fuel + 1 + l2.length = (fuel + l2.length) + 1 by omega]
    refine ⟨fun h => ?_, fun i hi => ?_⟩
    · exfalso
      -- the least one that has not come up may come up
      have hno : ∀ i, i < l.length → listed.getD i false = true := by
        intro i
        induction i using Nat.strongRecOn with
        | _ i ih =>
          intro hi
          rcases hc : listed.getD i false with _ | _
          · exfalso
            have hm : i ∈ Region.ready .any (l ++ l2).toArray listed := by
              rw [mem_ready]
              refine ⟨?_, l[i], by simp [List.getElem?_append_left hi, hi], fun e he hb => ?_⟩
              · rw [Array.getD_eq_getD_getElem?] at hc ⊢
                rw [Array.getElem?_eq_getElem (by rw [hs, List.length_append]; omega)] at hc ⊢
                exact hc
              · have := hed i l[i] (by simp [hi]) e he hb
                exact ih e.on this (by omega)
            rw [h] at hm
            cases hm
          · rfl
      obtain ⟨k, hk⟩ : ∃ k, k ∈ rem := by
        cases rem with
        | nil => simp at hrem
        | cons x _ => exact ⟨x, List.mem_cons_self ..⟩
      obtain ⟨hk1, hk2⟩ := (hmem k).1 hk
      have h1 := hno k hk1
      rw [Array.getD_eq_getD_getElem?, Array.getElem?_eq_getElem (by rw [hs, List.length_append]; omega)] at h1 hk2
      simp at h1 hk2
      rw [h1] at hk2
      cases hk2
    obtain ⟨hun, o, ho, hpre⟩ := mem_ready.1 hi
    have hil : i < l.length := by
      rcases Nat.lt_or_ge i l.length with h | h
      · exact h
      · exfalso
        have hall := hanc listed hcl i o (by simpa using ho) h hpre
        obtain ⟨k, hk⟩ : ∃ k, k ∈ rem := by
          cases rem with
          | nil => simp at hrem
          | cons x _ => exact ⟨x, List.mem_cons_self ..⟩
        obtain ⟨hk1, hk2⟩ := (hmem k).1 hk
        have h1 := hall k (by omega)
        rw [Array.getD_eq_getD_getElem?, Array.getElem?_eq_getElem (by rw [hs, List.length_append]; omega)] at h1 hk2
        simp at h1 hk2
        rw [h1] at hk2
        cases hk2
    have hol : l[i]? = some o := by
      have h1 : (l ++ l2)[i]? = some o := by simpa using ho
      rwa [List.getElem?_append_left hil] at h1
    have hcl2 : Closed (l ++ l2) (listed.setIfInBounds i true) := by
      intro k ok hok hlk e he hbd
      by_cases hki : k = i
      · subst hki
        have h1 : (l ++ l2)[k]? = some o := by simpa using ho
        rw [h1] at hok
        injection hok with hok
        subst hok
        have h2 := hpre e he hbd
        by_cases hei : e.on = k
        · rw [hei] at h2 ⊢; rw [Array.getD_eq_getD_getElem?, Array.getElem?_setIfInBounds_self_of_lt (by rw [hs, List.length_append]; omega)]; rfl
        · rw [getD_set_ne false (Ne.symm hei)]; exact h2
      · rw [getD_set_ne false (Ne.symm hki)] at hlk
        have h2 := hcl k ok hok hlk e he hbd
        by_cases hei : e.on = i
        · rw [hei, Array.getD_eq_getD_getElem?, Array.getElem?_setIfInBounds_self_of_lt (by rw [hs, List.length_append]; omega)]; rfl
        · rw [getD_set_ne false (Ne.symm hei)]; exact h2
    have hhi2 : ∀ k, l.length ≤ k → k < (l ++ l2).length → (listed.setIfInBounds i true).getD k false = false := by
      intro k h1 h2
      rw [getD_set_ne false (by omega)]
      exact hhi k h1 h2
    have hp : PreOf dl Φ f w' o.after.toList := preOf_mk _ fun e he hbd => by
      have he' : e ∈ o.after := by simpa using he
      have hlist := hpre e he' hbd
      exact hf e.on (Nat.lt_trans (hed i o hol e he' hbd) hil) hlist
    have hone := obAll_get l Φ hob i o hol f w' hb hp
    have hgd := yielded_iff2 l l2 dl hdl (dstsOf_ l) f a hlt (fun d hd => by
      rw [← hdl] at hd
      obtain ⟨oo, h1, h2⟩ := List.mem_map.1 hd
      exact List.mem_filterMap.2 ⟨oo, h1, h2⟩) o.guard o rfl (fun j b hg => guard_spec hguard hol j b hg)
    -- what follows once the value is there
    have hnext : ∀ v w'', Below w'.heap.size w' w'' → (Φ.getD i default).p (dstVal o.dst v) w'' →
        wpAny P .any (l ++ l2).toArray Q (fuel + l2.length) (listed.setIfInBounds i true) ((fills (dstsOf_ l) f a).put o.dst v) w'' := by
      intro v w'' hb' hv
      have hrem' : (rem.erase i).length = fuel := by
        have : i ∈ rem := (hmem i).2 ⟨hil, hun⟩
        rw [List.length_erase_of_mem this]; omega
      have hmem' : ∀ k, k ∈ rem.erase i ↔ k < l.length ∧ (listed.setIfInBounds i true).getD k true = false := by
        intro k
        rw [hnr.mem_erase_iff, hmem]
        by_cases hk : k = i
        · subst hk
          simp only [ne_eq, not_true, false_and, false_iff, not_and]
          intro hk
          rw [Array.getD_eq_getD_getElem?, Array.getElem?_setIfInBounds_self_of_lt (by rw [hs, List.length_append]; omega)]
          simp
        · rw [getD_set_ne true (Ne.symm hk)]
          simp [hk]
      have hst : ∀ k, k < l.length → k ≠ i → (listed.setIfInBounds i true).getD k false = true → listed.getD k false = true := by
        intro k _ hk h
        rw [getD_set_ne false (Ne.symm hk)] at h
        exact h
      cases hd : o.dst with
      | none =>
        show wpAny P .any (l ++ l2).toArray Q (fuel + l2.length) _ (fills (dstsOf_ l) f a) w''
        refine ih _ (rem.erase i) hrem' (by simpa using hs) (hnr.erase i) hmem' hhi2 hcl2 f w'' (hb.trans (hb'.mono hb.size)) fun k hk hl => ?_
        by_cases hki : k = i
        · subst hki
          unfold factOf valOf
          rw [hdlg, hol]
          simp only [Option.map_some, hd]
          simpa [hd] using hv
        · exact (Φ.getD k default).st _ _ _ (hf k hk (hst k hk hki hl)) hb'
      | some d =>
        have hdm : d ∈ dstsOf_ l := List.mem_filterMap.2 ⟨o, List.mem_of_getElem? hol, hd⟩
        rw [fills_put _ _ _ _ _ hdm]
        refine ih _ (rem.erase i) hrem' (by simpa using hs) (hnr.erase i) hmem' hhi2 hcl2 _ w'' (hb.trans (hb'.mono hb.size)) fun k hk hl => ?_
        by_cases hki : k = i
        · subst hki
          unfold factOf valOf
          rw [hdlg, hol]
          simp only [Option.map_some, hd]
          simpa [hd] using hv
        · have h0 := (Φ.getD k default).st _ _ _ (hf k hk (hst k hk hki hl)) hb'
          unfold factOf
          have hval : valOf dl (fun t => if t = d then v else f t) k = valOf dl f k := by
            unfold valOf
            rw [hdlg]
            cases hok : l[k]? with
            | none => rfl
            | some ok =>
              cases hdk : ok.dst with
              | none => simp [hdk]
              | some dk =>
                simp only [Option.map_some, hdk]
                rw [if_neg]
                intro e
                subst e
                -- two operations with one slot
                have h3 : (dstsOf_ l).Nodup := hnd
                have : ∀ (m : List Oper) (x y : Nat) (ox oy : Oper), (m.filterMap (·.dst)).Nodup → m[x]? = some ox → m[y]? = some oy → ox.dst = some dk → oy.dst = some dk → x = y := by
                  intro m
                  induction m with
                  | nil => intro x y ox oy _ hx; simp at hx
                  | cons q m ihm =>
                    intro x y ox oy hnd hx hy hdx hdy
                    cases x with
                    | zero =>
                      cases y with
                      | zero => rfl
                      | succ y =>
                        exfalso
                        simp at hx hy
                        subst hx
                        simp only [List.filterMap_cons, hdx] at hnd
                        exact (List.nodup_cons.1 hnd).1 (List.mem_filterMap.2 ⟨oy, List.mem_of_getElem? hy, hdy⟩)
                    | succ x =>
                      cases y with
                      | zero =>
                        exfalso
                        simp at hx hy
                        subst hy
                        simp only [List.filterMap_cons, hdy] at hnd
                        exact (List.nodup_cons.1 hnd).1 (List.mem_filterMap.2 ⟨ox, List.mem_of_getElem? hx, hdx⟩)
                      | succ y =>
                        simp at hx hy
                        have : (m.filterMap (·.dst)).Nodup := by
                          simp only [List.filterMap_cons] at hnd
                          cases hq : q.dst with
                          | none => simpa [hq] using hnd
                          | some _ => simp only [hq] at hnd; exact (List.nodup_cons.1 hnd).2
                        rw [ihm x y ox oy this hx hy hdx hdy]
                exact hki (this l k i ok o h3 hok hol hdk hd)
          rw [hval]
          exact h0
    unfold wpOp
    simp only [ho]
    by_cases hw : Region.wanted o (yielded (l ++ l2).toArray (fills (dstsOf_ l) f a).tmps) = true
    · replace hone := hone.1 (hgd.1 hw)
      simp only [hw, if_true]
      left
      unfold Oper.wp
      rw [evalF_fills f hlt]
      generalize (execOp (evalF (dstsOf_ l) f a) o).run P w' = r at *
      cases r with
      | ok n w'' =>
        cases n <;> simp only [mildUpon] at hone <;> simp only [Oper.upon]
        case value u =>
          exact hnext u w'' hone.1 hone.2
        case skip =>
          refine hnext undef w'' hone.1 ?_
          cases o.dst <;> exact hone.2
        case enter f' args =>
          refine hone.mono ?_
          rintro e w3 ⟨v, rfl, hb3, hv⟩
          exact hnext v w3 hb3 hv
      | halt x w'' => simp only [mildUpon] at hone
    · replace hone := hone.2 (fun h => hw (hgd.2 h))
      simp only [hw]
      refine hnext undef w' (Below.refl _ _) ?_
      cases o.dst <;> exact hone

/-- THE LAW: a region that draws its order; n: how many operations come ahead of the end that waits for all. -/
theorem wp_region_tail {id : Nat} {L : List Oper} {ds : List Nat} (n : Nat) (dl : List (Option Nat)) (Φ : List Ph) (hdl : (L.take n).map (·.dst) = dl) (hds : dstsOf_ (L.take n) = ds) (hm : P.follows .mixedOrders = true)
    (hn : typedB (L.take n) a.tmps.size = true) (ht : tailB (L.take n) (L.drop n) = true) (hob : ObAll P dl Φ ds a w (L.take n) Φ)
    (hQ : ∀ f w', Below w.heap.size w w' → PostOf f w' dl Φ → wpList P L.toArray Q (L.drop n) (fills ds f a) w') : (Code.region id L.toArray true).wp P Q a w := by
  subst hds
  refine wp_region_any hm ?_
  have hL : L.take n ++ L.drop n = L := List.take_append_drop n L
  have := typed_aux2 (l2 := L.drop n) hdl hn ht hob (by rw [hL]; exact hQ) (L.take n).length (Array.replicate L.length false) (List.range (L.take n).length) (by simp) (by rw [hL]; simp) List.nodup_range (by
    intro i
    simp only [List.mem_range, Array.getD_eq_getD_getElem?]
    constructor
    · intro h; exact ⟨h, by
        have : i < L.length := by rw [List.length_take] at h; omega
        simp [this]⟩
    · exact fun h => h.1) (by
    intro i _ hi
    rw [hL] at hi
    simp [Array.getD_eq_getD_getElem?, hi]) (by
    intro i o _ hl
    exfalso
    simp [Array.getD_eq_getD_getElem?, Array.getElem?_replicate] at hl
    split at hl <;> simp at hl) (fun t => a.tmps.getD t undef) { w with drawn := w.drawn + 1 } ((Below.refl _ w).drew) (by
    intro i hi h
    exfalso
    simp [Array.getD_eq_getD_getElem?, Array.getElem?_replicate] at h
    split at h <;> simp at h)
  rw [fills_self, hL] at this
  have hlen : (L.take n).length + (L.drop n).length = L.toArray.size := by rw [← List.length_append, hL]; simp
  rw [hlen] at this
  exact this
end
end Go.Proofs.Ytpoicbhbkabllaa
