/- A region that draws its order: if each operation, in whatever later world, from operands that meet their own facts, yields a value that meets its fact, then the region's end meets all facts, whatever the order. The facts are such as later worlds keep. No condition beyond these. -/
import Derived.Test.YtpoicbhbkabllaaWords
import Derived.RegionTactic
namespace Go.Proofs.Ytpoicbhbkabllaa
set_option linter.unusedSimpArgs false
set_option linter.unusedVariables false
open Go.RowKit

/-- a fact on a value that every later world keeps -/
structure Ph where
  p : Value → World → Prop
  st : ∀ v w w', p v w → Below w.heap.size w w' → p v w'
/-- the value is this one -/
def Ph.is (c : Value) : Ph := ⟨fun v _ => v = c, fun _ _ _ h _ => h⟩
def Ph.any : Ph := ⟨fun _ _ => True, fun _ _ _ h _ => h⟩
instance : Inhabited Ph := ⟨Ph.any⟩
/-- a readable row of bytes -/
def Ph.by_ (l : List UInt8) : Ph := ⟨fun v w => By w w.heap.size v l, fun _ _ _ h hb => h.step hb⟩

/-- what lies in the slot behind the operation -/
def dstVal (d : Option Nat) (v : Value) : Value := match d with | some _ => v | none => undef
@[simp] theorem dstVal_some (d : Nat) (v : Value) : dstVal (some d) v = v := rfl
@[simp] theorem dstVal_none (v : Value) : dstVal none v = undef := rfl
def mildUpon (P : Program) (w : World) (d : Option Nat) (ph : Value → World → Prop) : Result Next → Prop
  | .ok (.value u) w' => Below w.heap.size w w' ∧ ph (dstVal d u) w'
  | .ok .skip w' => Below w.heap.size w w' ∧ ph undef w'
  | .ok (.enter f args) w' => Calls P f args w' (fun e w'' => ∃ v, e = .returned v ∧ Below w.heap.size w w'' ∧ ph (dstVal d v) w'')
  | _ => False

/-- the frame with the slots ds written anew -/
def fills (ds : List Nat) (f : Nat → Value) (a : Act) : Act := ds.foldl (fun a d => a.put (some d) (f d)) a

theorem fills_defers (ds : List Nat) (f : Nat → Value) (a : Act) : (fills ds f a).defers = a.defers := by
  unfold fills
  induction ds generalizing a with
  | nil => rfl
  | cons d ds ih => rw [List.foldl_cons, ih]; rfl
theorem fills_size (ds : List Nat) (f : Nat → Value) (a : Act) : (fills ds f a).tmps.size = a.tmps.size := by
  unfold fills
  induction ds generalizing a with
  | nil => rfl
  | cons d ds ih => rw [List.foldl_cons, ih]; simp [Act.put]
theorem fills_get (ds : List Nat) (f : Nat → Value) (a : Act) (t : Nat) : (fills ds f a).tmps[t]? = if t ∈ ds ∧ t < a.tmps.size then some (f t) else a.tmps[t]? := by
  unfold fills
  induction ds generalizing a with
  | nil => simp
  | cons d ds ih =>
    rw [List.foldl_cons, ih]
    simp only [Act.put, Array.size_setIfInBounds, List.mem_cons]
    by_cases h1 : t ∈ ds ∧ t < a.tmps.size
    · rw [if_pos h1, if_pos ⟨.inr h1.1, h1.2⟩]
    · rw [if_neg h1]
      by_cases h2 : t = d
      · subst h2
        by_cases h3 : t < a.tmps.size
        · rw [if_pos ⟨.inl rfl, h3⟩]; simp [h3]
        · rw [if_neg (fun h => h3 h.2)]; simp [Array.setIfInBounds, h3]
      · rw [if_neg (fun h => by rcases h with ⟨h | h, h'⟩; exact h2 h; exact h1 ⟨h, h'⟩), Array.getElem?_setIfInBounds_ne (Ne.symm h2)]
theorem act_ext {a b : Act} (h1 : ∀ t : Nat, a.tmps[t]? = b.tmps[t]?) (h2 : a.defers = b.defers) : a = b := by
  cases a; cases b
  have : _ = _ := Array.ext_getElem? h1
  simp_all
theorem fills_put (ds : List Nat) (f : Nat → Value) (a : Act) (d : Nat) (v : Value) (hd : d ∈ ds) : (fills ds f a).put (some d) v = fills ds (fun t => if t = d then v else f t) a := by
  refine act_ext (fun t => ?_) ?_
  · rw [fills_get]
    simp only [Act.put]
    by_cases h : t = d
    · subst h
      by_cases h3 : t < a.tmps.size
      · rw [if_pos ⟨hd, h3⟩, Array.getElem?_setIfInBounds_self_of_lt (by rw [fills_size]; exact h3)]; simp
      · rw [if_neg (fun h => h3 h.2)]
        have h4 : ¬ t < (fills ds f a).tmps.size := by rw [fills_size]; exact h3
        simp only [Array.setIfInBounds, h4, dite_false]
        rw [fills_get, if_neg (fun h => h3 h.2)]
    · rw [Array.getElem?_setIfInBounds_ne (Ne.symm h), fills_get, if_neg h]
  · rw [fills_defers]; exact fills_defers ds f a
theorem fills_self (ds : List Nat) (a : Act) : fills ds (fun t => a.tmps.getD t undef) a = a := by
  refine act_ext (fun t => ?_) (fills_defers _ _ _)
  rw [fills_get]
  split
  · rename_i h
    rw [Array.getD_eq_getD_getElem?, Array.getElem?_eq_getElem h.2]; rfl
  · rfl
theorem fills_getD (ds : List Nat) (f : Nat → Value) (a : Act) (d : Nat) (hd : d ∈ ds) (h : d < a.tmps.size) : (fills ds f a).tmps.getD d undef = f d := by
  rw [Array.getD_eq_getD_getElem?, fills_get, if_pos ⟨hd, h⟩]; rfl

/-- the value of operation number j; dl: the slots that the operations write -/
def valOf (dl : List (Option Nat)) (f : Nat → Value) (j : Nat) : Value := match dl[j]? with | some (some d) => f d | _ => undef
def factOf (dl : List (Option Nat)) (Φ : List Ph) (f : Nat → Value) (w : World) (j : Nat) : Prop := (Φ.getD j default).p (valOf dl f j) w
/-- the facts of all that an operation waits for -/
def PreOf (dl : List (Option Nat)) (Φ : List Ph) (f : Nat → Value) (w : World) : List Edge → Prop
  | [] => True
  | e :: es => (if Region.binds .any e then factOf dl Φ f w e.on else True) ∧ PreOf dl Φ f w es
/-- its guard says yes -/
def Gd (dl : List (Option Nat)) (f : Nat → Value) : Option (Nat × Bool) → Prop
  | none => True
  | some (j, want) => valOf dl f j = .bool want
/-- the frame as the operations see it -/
def evalF (ds : List Nat) (f : Nat → Value) (a : Act) : Operand → Value
  | .tmp t => if ds.contains t then f t else a.tmps.getD t undef
  | x => a.eval x
/-- what is to be shown of one operation -/
def Ob1 (P : Program) (dl : List (Option Nat)) (Φ : List Ph) (ds : List Nat) (a : Act) (w : World) (ph : Ph) (o : Oper) : Prop :=
  ∀ f w', Below w.heap.size w w' → PreOf dl Φ f w' o.after.toList →
    (Gd dl f o.guard → mildUpon P w' o.dst ph.p ((execOp (evalF ds f a) o).run P w')) ∧ (¬ Gd dl f o.guard → ph.p undef w')
def ObAll (P : Program) (dl : List (Option Nat)) (Φ : List Ph) (ds : List Nat) (a : Act) (w : World) : List Oper → List Ph → Prop
  | [], _ => True
  | _ :: _, [] => False
  | o :: os, ph :: phs => Ob1 P dl Φ ds a w ph o ∧ ObAll P dl Φ ds a w os phs
def PostOf (f : Nat → Value) (w : World) : List (Option Nat) → List Ph → Prop
  | [], _ => True
  | _ :: _, [] => True
  | d :: os, ph :: phs => ph.p (match d with | some d => f d | none => undef) w ∧ PostOf f w os phs

theorem evalF_fills {ds : List Nat} {a : Act} (f : Nat → Value) (h : ∀ d ∈ ds, d < a.tmps.size) : (fills ds f a).eval = evalF ds f a := by
  funext x
  cases x with
  | tmp t =>
    simp only [Act.eval, evalF]
    rw [Array.getD_eq_getD_getElem?, fills_get]
    by_cases ht : t ∈ ds
    · rw [if_pos ⟨ht, h t ht⟩, if_pos (by simpa using ht)]; rfl
    · rw [if_neg (fun h => ht h.1), if_neg (by simpa using ht), Array.getD_eq_getD_getElem?]
  | const v => rfl
  | global g => rfl
  | func g => rfl
theorem yielded_iff (ops : Array Oper) (dl : List (Option Nat)) (hdl : ops.toList.map (·.dst) = dl) (ds : List Nat) (f : Nat → Value) (a : Act) (h : ∀ d ∈ ds, d < a.tmps.size) (hds : ∀ d, some d ∈ dl → d ∈ ds) (g : Option (Nat × Bool)) (o : Oper) (hg : o.guard = g) :
    Region.wanted o (yielded ops (fills ds f a).tmps) = true ↔ Gd dl f g := by
  subst hg
  unfold Region.wanted Gd
  cases hgd : o.guard with
  | none => simp
  | some x =>
    obtain ⟨j, want⟩ := x
    simp only [beq_iff_eq]
    unfold yielded valOf
    have hj : dl[j]? = (ops[j]?).map (fun (o : Oper) => o.dst) := by rw [← hdl]; simp
    rw [hj]
    cases ho : ops[j]? with
    | none => simp [undef]
    | some oj =>
      simp only [Option.map_some, Option.bind_some]
      cases hd : oj.dst with
      | none => simp [undef]
      | some d =>
        have hdd : d ∈ ds := hds d (by
          rw [← hdl]
          exact List.mem_map.2 ⟨oj, by simpa using Array.mem_of_getElem? ho, hd⟩)
        have hv : (fills ds f a).tmps.getD d undef = f d := fills_getD ds f a d hdd (h d hdd)
        have hv2 : (fills ds f a).tmps[d]? = some (f d) := by rw [fills_get, if_pos ⟨hdd, h d hdd⟩]
        simp only [Option.bind_some, hv2]
        cases f d <;> simp

theorem preOf_mk {dl : List (Option Nat)} {Φ : List Ph} {f : Nat → Value} {w : World} : ∀ (es : List Edge), (∀ e ∈ es, Region.binds .any e = true → factOf dl Φ f w e.on) → PreOf dl Φ f w es
  | [], _ => trivial
  | e :: es, h => by
    refine ⟨?_, preOf_mk es fun x hx => h x (List.mem_cons_of_mem _ hx)⟩
    split
    · exact h e (List.mem_cons_self ..) ‹_›
    · trivial
theorem obAll_get {P : Program} {dl : List (Option Nat)} {Φ : List Ph} {ds : List Nat} {a : Act} {w : World} : ∀ (os : List Oper) (phs : List Ph), ObAll P dl Φ ds a w os phs →
    ∀ (i : Nat) (o : Oper), os[i]? = some o → Ob1 P dl Φ ds a w (phs.getD i default) o
  | [], _, _, i, o, h => by simp at h
  | _ :: _, [], h, _, _, _ => h.elim
  | o' :: os, ph :: phs, h, 0, o, ho => by
    simp at ho; subst ho; exact h.1
  | o' :: os, ph :: phs, h, i + 1, o, ho => by
    simp at ho; simpa using obAll_get os phs h.2 i o ho
theorem postOf_mk {f : Nat → Value} {w : World} : ∀ (os : List (Option Nat)) (phs : List Ph),
    (∀ (i : Nat) (d : Option Nat), os[i]? = some d → (phs.getD i default).p (match d with | some d => f d | none => undef) w) → PostOf f w os phs
  | [], _, _ => by simp [PostOf]
  | _ :: _, [], _ => by simp [PostOf]
  | d :: os, ph :: phs, h => ⟨h 0 d rfl, postOf_mk os phs fun i d hd => by simpa using h (i + 1) d (by simpa using hd)⟩

/-- the closed facts on the region: the slots that are written are different ones, in the frame; edges go backward -/
def dstsOf_ (l : List Oper) : List Nat := l.filterMap (·.dst)
def typedB (l : List Oper) (n : Nat) : Bool :=
  decide ((dstsOf_ l).Nodup) && (dstsOf_ l).all (fun d => decide (d < n)) &&
  (l.zipIdx).all (fun x => x.1.after.all fun e => !Region.binds .any e || decide (e.on < x.2)) && Region.noSelect l.toArray

section
variable {P : Program} {l : List Oper} {dl : List (Option Nat)} {ds : List Nat} {Φ : List Ph} {a : Act} {w : World} {Q : Exit → Act → World → Prop}

theorem typed_aux (hdl : l.map (·.dst) = dl) (hn : typedB l a.tmps.size = true) (hob : ObAll P dl Φ (dstsOf_ l) a w l Φ)
    (hQ : ∀ f w', Below w.heap.size w w' → PostOf f w' dl Φ → Q .normal (fills (dstsOf_ l) f a) w') :
    ∀ (fuel : Nat) (listed : Array Bool) (rem : List Nat), rem.length = fuel → listed.size = l.length → rem.Nodup → (∀ i, i ∈ rem ↔ i < l.length ∧ listed.getD i true = false) →
      ∀ f w', Below w.heap.size w w' → (∀ i, i < l.length → listed.getD i false = true → factOf dl Φ f w' i) →
      wpAny P .any l.toArray Q fuel listed (fills (dstsOf_ l) f a) w' := by
  simp only [typedB, Bool.and_eq_true] at hn
  obtain ⟨⟨⟨hnd, hlt⟩, hed⟩, _⟩ := hn
  have hdlg : ∀ i : Nat, dl[i]? = (l[i]?).map (fun (o : Oper) => o.dst) := fun i => by rw [← hdl]; simp
  have hnd := of_decide_eq_true hnd
  have hlt : ∀ d ∈ dstsOf_ l, d < a.tmps.size := fun d hd => of_decide_eq_true (List.all_eq_true.1 hlt d hd)
  have hed : ∀ (i : Nat) (o : Oper), l[i]? = some o → ∀ e ∈ o.after, Region.binds .any e = true → e.on < i := by
    intro i o ho e he hb
    have h1 := List.all_eq_true.1 hed (o, i) (by
      rw [List.mem_zipIdx_iff_getElem?]; exact ho)
    have h2 := (Array.all_eq_true_iff_forall_mem.1 h1) e he
    simpa [hb] using h2
  have hall : ∀ (listed : Array Bool), listed.size = l.length → Region.ready .any l.toArray listed = [] → ∀ i, i < l.length → listed.getD i false = true := by
    intro listed hs hr i
    induction i using Nat.strongRecOn with
    | _ i ih =>
      intro hi
      rcases hc : listed.getD i false with _ | _
      · exfalso
        have hm : i ∈ Region.ready .any l.toArray listed := by
          rw [mem_ready]
          refine ⟨?_, l[i], by simp [hi], fun e he hb => ?_⟩
          · rw [Array.getD_eq_getD_getElem?] at hc ⊢
            rw [Array.getElem?_eq_getElem (by omega)] at hc ⊢
            exact hc
          · have := hed i l[i] (by simp [hi]) e he hb
            exact ih e.on this (by omega)
        rw [hr] at hm
        cases hm
      · rfl
  have hend : ∀ (listed : Array Bool), listed.size = l.length → (∀ i, i < l.length → listed.getD i false = true) → ∀ f w', Below w.heap.size w w' → (∀ i, i < l.length → listed.getD i false = true → factOf dl Φ f w' i) →
      Q .normal (fills (dstsOf_ l) f a) w' := by
    intro listed hs hal f w' hb hf
    refine hQ f w' hb (postOf_mk dl Φ fun i d hd => ?_)
    have hi : i < l.length := by
      have := (List.getElem?_eq_some_iff.1 hd).1
      rw [← hdl] at this
      simpa using this
    have := hf i hi (hal i hi)
    unfold factOf valOf at this
    rw [hd] at this
    cases d <;> exact this
  intro fuel
  induction fuel with
  | zero =>
    intro listed rem hrem hs hnr hmem f w' hb hf
    have hr0 : rem = [] := List.eq_nil_of_length_eq_zero hrem
    have hal : ∀ i, i < l.length → listed.getD i false = true := by
      intro i hi
      rcases hc : listed.getD i false with _ | _
      · exfalso
        have : i ∈ rem := (hmem i).2 ⟨hi, by
          rw [Array.getD_eq_getD_getElem?] at hc ⊢
          rw [Array.getElem?_eq_getElem (by omega)] at hc ⊢
          exact hc⟩
        rw [hr0] at this
        cases this
      · rfl
    refine ⟨?_, hend listed hs hal f w' hb hf⟩
    rw [List.eq_nil_iff_forall_not_mem]
    intro i hi
    have h1 := (mem_ready.1 hi).1
    obtain ⟨_, o, ho, _⟩ := mem_ready.1 hi
    have hil : i < l.length := by
      have := (Array.getElem?_eq_some_iff.1 ho).1
      simpa using this
    have h2 := hal i hil
    rw [Array.getD_eq_getD_getElem?, Array.getElem?_eq_getElem (by omega)] at h1 h2
    simp at h1 h2
    rw [h1] at h2
    cases h2
  | succ fuel ih =>
    intro listed rem hrem hs hnr hmem f w' hb hf
    refine ⟨fun h => hend listed hs (hall listed hs h) f w' hb hf, fun i hi => ?_⟩
    obtain ⟨hun, o, ho, hpre⟩ := mem_ready.1 hi
    have hol : l[i]? = some o := by simpa using ho
    have hil : i < l.length := (List.getElem?_eq_some_iff.1 hol).1
    have hp : PreOf dl Φ f w' o.after.toList := preOf_mk _ fun e he hbd => by
      have he' : e ∈ o.after := by simpa using he
      have hlist := hpre e he' hbd
      exact hf e.on (Nat.lt_trans (hed i o hol e he' hbd) hil) hlist
    have hone := obAll_get l Φ hob i o hol f w' hb hp
    have hgd := yielded_iff l.toArray dl (by simpa using hdl) (dstsOf_ l) f a hlt (fun d hd => by
      rw [← hdl] at hd
      obtain ⟨oo, h1, h2⟩ := List.mem_map.1 hd
      exact List.mem_filterMap.2 ⟨oo, h1, h2⟩) o.guard o rfl
    -- what follows once the value is there
    have hnext : ∀ v w'', Below w'.heap.size w' w'' → (Φ.getD i default).p (dstVal o.dst v) w'' →
        wpAny P .any l.toArray Q fuel (listed.setIfInBounds i true) ((fills (dstsOf_ l) f a).put o.dst v) w'' := by
      intro v w'' hb' hv
      have hrem' : (rem.erase i).length = fuel := by
        have : i ∈ rem := (hmem i).2 ⟨hil, hun⟩
        rw [List.length_erase_of_mem this]; omega
      have hmem' : ∀ k, k ∈ rem.erase i ↔ k < l.length ∧ (listed.setIfInBounds i true).getD k true = false := by
        intro k
        rw [hnr.mem_erase_iff, hmem]
        by_cases hk : k = i
        · subst hk
          simp only [ne_eq, not_true, false_and, false_iff, not_and]
          intro hk
          rw [Array.getD_eq_getD_getElem?, Array.getElem?_setIfInBounds_self_of_lt (by omega)]
          simp
        · rw [getD_set_ne true (Ne.symm hk)]
          simp [hk]
      have hst : ∀ k, k < l.length → k ≠ i → (listed.setIfInBounds i true).getD k false = true → listed.getD k false = true := by
        intro k _ hk h
        rw [getD_set_ne false (Ne.symm hk)] at h
        exact h
      cases hd : o.dst with
      | none =>
        show wpAny P .any l.toArray Q fuel _ (fills (dstsOf_ l) f a) w''
        refine ih _ (rem.erase i) hrem' (by simpa using hs) (hnr.erase i) hmem' f w'' (hb.trans (hb'.mono hb.size)) fun k hk hl => ?_
        by_cases hki : k = i
        · subst hki
          unfold factOf valOf
          rw [hdlg, hol]
          simp only [Option.map_some, hd]
          simpa [hd] using hv
        · exact (Φ.getD k default).st _ _ _ (hf k hk (hst k hk hki hl)) hb'
      | some d =>
        have hdm : d ∈ dstsOf_ l := List.mem_filterMap.2 ⟨o, List.mem_of_getElem? hol, hd⟩
        rw [fills_put _ _ _ _ _ hdm]
        refine ih _ (rem.erase i) hrem' (by simpa using hs) (hnr.erase i) hmem' _ w'' (hb.trans (hb'.mono hb.size)) fun k hk hl => ?_
        by_cases hki : k = i
        · subst hki
          unfold factOf valOf
          rw [hdlg, hol]
          simp only [Option.map_some, hd]
          simpa [hd] using hv
        · have h0 := (Φ.getD k default).st _ _ _ (hf k hk (hst k hk hki hl)) hb'
          unfold factOf
          have hval : valOf dl (fun t => if t = d then v else f t) k = valOf dl f k := by
            unfold valOf
            rw [hdlg]
            cases hok : l[k]? with
            | none => rfl
            | some ok =>
              cases hdk : ok.dst with
              | none => simp [hdk]
              | some dk =>
                simp only [Option.map_some, hdk]
                rw [if_neg]
                intro e
                subst e
                -- two operations with one slot
                have h3 : (dstsOf_ l).Nodup := hnd
                have : ∀ (m : List Oper) (x y : Nat) (ox oy : Oper), (m.filterMap (·.dst)).Nodup → m[x]? = some ox → m[y]? = some oy → ox.dst = some dk → oy.dst = some dk → x = y := by
                  intro m
                  induction m with
                  | nil => intro x y ox oy _ hx; simp at hx
                  | cons q m ihm =>
                    intro x y ox oy hnd hx hy hdx hdy
                    cases x with
                    | zero =>
                      cases y with
                      | zero => rfl
                      | succ y =>
                        exfalso
                        simp at hx hy
                        subst hx
                        simp only [List.filterMap_cons, hdx] at hnd
                        exact (List.nodup_cons.1 hnd).1 (List.mem_filterMap.2 ⟨oy, List.mem_of_getElem? hy, hdy⟩)
                    | succ x =>
                      cases y with
                      | zero =>
                        exfalso
                        simp at hx hy
                        subst hy
                        simp only [List.filterMap_cons, hdy] at hnd
                        exact (List.nodup_cons.1 hnd).1 (List.mem_filterMap.2 ⟨ox, List.mem_of_getElem? hx, hdx⟩)
                      | succ y =>
                        simp at hx hy
                        have : (m.filterMap (·.dst)).Nodup := by
                          simp only [List.filterMap_cons] at hnd
                          cases hq : q.dst with
                          | none => simpa [hq] using hnd
                          | some _ => simp only [hq] at hnd; exact (List.nodup_cons.1 hnd).2
                        rw [ihm x y ox oy this hx hy hdx hdy]
                exact hki (this l k i ok o h3 hok hol hdk hd)
          rw [hval]
          exact h0
    unfold wpOp
    simp only [ho]
    by_cases hw : Region.wanted o (yielded l.toArray (fills (dstsOf_ l) f a).tmps) = true
    · replace hone := hone.1 (hgd.1 hw)
      simp only [hw, if_true]
      left
      unfold Oper.wp
      rw [evalF_fills f hlt]
      generalize (execOp (evalF (dstsOf_ l) f a) o).run P w' = r at *
      cases r with
      | ok n w'' =>
        cases n <;> simp only [mildUpon] at hone <;> simp only [Oper.upon]
        case value u =>
          exact hnext u w'' hone.1 hone.2
        case skip =>
          refine hnext undef w'' hone.1 ?_
          cases o.dst <;> exact hone.2
        case enter f' args =>
          refine hone.mono ?_
          rintro e w3 ⟨v, rfl, hb3, hv⟩
          exact hnext v w3 hb3 hv
      | halt x w'' => simp only [mildUpon] at hone
    · replace hone := hone.2 (fun h => hw (hgd.2 h))
      simp only [hw]
      refine hnext undef w' (Below.refl _ _) ?_
      cases o.dst <;> exact hone

/-- THE LAW: a region that draws its order, by facts on its values. -/
theorem wp_region_typed {id : Nat} (dl : List (Option Nat)) (ds : List Nat) (Φ : List Ph) (hdl : l.map (·.dst) = dl) (hds : dstsOf_ l = ds) (hm : P.follows .mixedOrders = true) (hn : typedB l a.tmps.size = true) (hob : ObAll P dl Φ ds a w l Φ)
    (hQ : ∀ f w', Below w.heap.size w w' → PostOf f w' dl Φ → Q .normal (fills ds f a) w') : (Code.region id l.toArray true).wp P Q a w := by
  subst hds
  refine wp_region_any hm ?_
  have := typed_aux hdl hn hob hQ l.length (Array.replicate l.length false) (List.range l.length) (by simp) (by simp) List.nodup_range (by
    intro i
    simp only [List.mem_range, Array.getD_eq_getD_getElem?]
    constructor
    · intro h; exact ⟨h, by simp [h]⟩
    · exact fun h => h.1) (fun t => a.tmps.getD t undef) { w with drawn := w.drawn + 1 } ((Below.refl _ w).drew) (by
    intro i hi h
    simp [Array.getD_eq_getD_getElem?, hi] at h)
  rw [fills_self] at this
  simpa using this
end

/-! ### one operation -/
section
variable {P : Program} {dl : List (Option Nat)} {ds : List Nat} {Φ : List Ph} {a : Act} {w : World} {ph : Ph} {o : Oper}
/-- its guard, if there is one, says yes by the facts -/
theorem ob_yes (h : ∀ f w', Below w.heap.size w w' → PreOf dl Φ f w' o.after.toList → Gd dl f o.guard ∧ mildUpon P w' o.dst ph.p ((execOp (evalF ds f a) o).run P w')) : Ob1 P dl Φ ds a w ph o :=
  fun f w' hb hp => ⟨fun _ => (h f w' hb hp).2, fun hn => (hn (h f w' hb hp).1).elim⟩
/-- its guard says no by the facts -/
theorem ob_no (h : ∀ f w', Below w.heap.size w w' → PreOf dl Φ f w' o.after.toList → ¬ Gd dl f o.guard ∧ ph.p undef w') : Ob1 P dl Φ ds a w ph o :=
  fun f w' hb hp => ⟨fun hg => ((h f w' hb hp).1 hg).elim, fun _ => (h f w' hb hp).2⟩
/-- a value, the world as it was -/
theorem mild_val {d : Option Nat} {q : Value → World → Prop} {r : Result Next} {w' : World} (u : Value) (hr : r = .ok (.value u) w') (hq : q (dstVal d u) w') : mildUpon P w' d q r := by
  subst hr; exact ⟨Below.refl _ _, hq⟩
theorem mild_call {d : Option Nat} {q : Value → World → Prop} {w' : World} {ρ : Operand → Value} (f : Nat) (args : Array Operand) (ts : Array TypeId) (fn : Func) (hf : P.funcs[f]? = some fn) (hn : (fn.name == "runtime.NumGoroutine") = false) (hb : fn.body.isNone = false)
    {t : TypeId} {pos : String} {af : Array Edge} {g : Option (Nat × Bool)} (hρ : ρ (.func f) = .func (.func f) #[] #[])
    (h : Calls P f (args.map ρ) w' (fun e w'' => ∃ v, e = .returned v ∧ Below w'.heap.size w' w'' ∧ q (dstVal d v) w'')) :
    mildUpon P w' d q ((execOp ρ { dst := d, op := .call { callee := .value (.func f), args := args, argTypes := ts }, type := t, pos := pos, after := af, guard := g }).run P w') := by
  have hr : (execOp ρ { dst := d, op := .call { callee := .value (.func f), args := args, argTypes := ts }, type := t, pos := pos, after := af, guard := g }).run P w' = .ok (.enter f (args.map ρ)) w' := by
    simp [execOp, resolve, hρ, Deferred.ofValue, invoke, callFunc, hf]
    rw [if_neg (by simpa using hn), if_neg (by intro h; simp [h] at hb)]
  rw [hr]
  exact h
end

/-- a value in a new block -/
theorem mild_alloc {P : Program} {d : Option Nat} {q : Value → World → Prop} {r : Result Next} {w' : World} (u : Value) (ob : Obj) (hr : r = .ok (.value u) (w'.alloc ob)) (hq : q (dstVal d u) (w'.alloc ob)) : mildUpon P w' d q r := by
  subst hr; exact ⟨balloc _ _, hq⟩
/-- a row of cells in a block that is known whole -/
def Ph.blk (t : TypeId) (vs : List Value) : Ph :=
  ⟨fun v w => ∃ g, v = .slice (some ⟨g, 0, none⟩) vs.length vs.length ∧ w.heap[g]? = some (.cells vs.toArray t (0, 0)), fun _ w _ ⟨g, h1, h2⟩ hb => ⟨g, h1, (hb.block g (by
    rcases Nat.lt_or_ge g w.heap.size with h | h
    · exact h
    · rw [Array.getElem?_eq_none h] at h2; cases h2)).trans h2⟩⟩
theorem rd_blk {w : World} {g : Nat} {t : TypeId} {vs : List Value} {fr : Nat × Nat} (h : w.heap[g]? = some (.cells vs.toArray t fr)) : Rd w w.heap.size 1 (some ⟨g, 0, none⟩) vs.length vs := by
  refine ⟨by simp, fun _ => ⟨_, rfl, ?_, fun j u hu => World.news_of_block h j u (by simpa using hu)⟩⟩
  rcases Nat.lt_or_ge g w.heap.size with h' | h'
  · exact h'
  · rw [Array.getElem?_eq_none h'] at h; cases h

/-! ### cuts of a slice, at the operation -/
section
variable {P : Program} {w : World} {ρ : Operand → Value} {t e : TypeId} {sz : Nat} {A : Option Addr} {n c : Nat} {d : Option Nat} {ty : TypeId} {pos : String} {af : Array Edge} {g : Option (Nat × Bool)}
theorem run_cut_both (x lo hi : Operand) (kl kh : IntKind) (l h : Nat) (hu : P.underlying t = some (.slice e)) (hs : (P.info? e).map (·.size) = some sz) (hx : ρ x = .slice A n c) (hl : ρ lo = .int kl l) (hh : ρ hi = .int kh h) (h1 : l ≤ h) (h2 : h ≤ c) :
    (execOp ρ { dst := d, op := .slice t x (some lo) (some hi) none, type := ty, pos := pos, after := af, guard := g }).run P w = .ok (.value (.slice (if c = l then A else A.map (·.add (l * sz))) (h - l) (c - l))) w := by
  cases hq : P.info? e with
  | none => simp [hq] at hs
  | some i =>
    have hi : i.size = sz := by simpa [hq] using hs
    have h1' : (l : Int) ≤ (h : Int) := by omega
    have h2' : (h : Int) ≤ (c : Int) := by omega
    simp [execOp, hx, hl, hh, Instr.sliceAt, Instr.slice, run_underlying hu, Instr.sliceBounds, Instr.sliceBound, asIntOf, h1, h2, sizeOf, typeInfo, hq, hi]
theorem run_cut_hi (x hi : Operand) (kh : IntKind) (h : Nat) (hu : P.underlying t = some (.slice e)) (hs : (P.info? e).map (·.size) = some sz) (hx : ρ x = .slice A n c) (hh : ρ hi = .int kh h) (h2 : h ≤ c) :
    (execOp ρ { dst := d, op := .slice t x none (some hi) none, type := ty, pos := pos, after := af, guard := g }).run P w = .ok (.value (.slice A h c)) w := by
  cases hq : P.info? e with
  | none => simp [hq] at hs
  | some i =>
    have h2' : (h : Int) ≤ (c : Int) := by omega
    simp [execOp, hx, hh, Instr.sliceAt, Instr.slice, run_underlying hu, Instr.sliceBounds, Instr.sliceBound, asIntOf, h2, sizeOf, typeInfo, hq, Addr.add]
theorem run_cut_lo (x lo : Operand) (kl : IntKind) (l : Nat) (hu : P.underlying t = some (.slice e)) (hs : (P.info? e).map (·.size) = some sz) (hx : ρ x = .slice A n c) (hl : ρ lo = .int kl l) (h1 : l ≤ n) :
    (execOp ρ { dst := d, op := .slice t x (some lo) none none, type := ty, pos := pos, after := af, guard := g }).run P w = .ok (.value (.slice (if c = l then A else A.map (·.add (l * sz))) (n - l) (c - l))) w := by
  cases hq : P.info? e with
  | none => simp [hq] at hs
  | some i =>
    have hi : i.size = sz := by simpa [hq] using hs
    simp [execOp, hx, hl, Instr.sliceAt, Instr.slice, run_underlying hu, Instr.sliceBounds, Instr.sliceBound, asIntOf, h1, sizeOf, typeInfo, hq, hi]
end
end Go.Proofs.Ytpoicbhbkabllaa
