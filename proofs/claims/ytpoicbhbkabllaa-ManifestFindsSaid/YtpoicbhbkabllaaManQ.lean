/- manifest.Find -/
import Derived.Test.YtpoicbhbkabllaaManS
import Derived.Test.YtpoicbhbkabllaaManN
namespace Go.Proofs.Ytpoicbhbkabllaa
set_option linter.unusedSimpArgs false
set_option linter.unusedVariables false
open Go.RowKit

theorem find_any (w : World) (v : Value) (m : MMan) (s : List UInt8) (h : MAt w w.heap.size v m) (hm : filesR m m.files.length = true) :
    Calls Try.prog 31 #[v, .string (bst s)] w fun e w' => ∃ k, e = .returned (.tuple #[.int .i64 (k : Nat), .bool (foundAt m.files s k)]) ∧ FindAt m.files s k ∧ Below w.heap.size w w' := by
  obtain ⟨vf, rfl, hf⟩ := h
  obtain ⟨A, c, rfl, hc1, hc2⟩ := hf.form
  unfold maxLen at hc2
  obtain ⟨w0, hw0⟩ : ∃ w0, w0 = w.alloc (.cells (encM m (.slice A m.files.length c)).toArray 56) := ⟨_, rfl⟩
  have hb0 : Below w.heap.size w w0 := by rw [hw0]; exact balloc w _
  have hx0 : BoxAt 56 w0 w.heap.size (encM m (.slice A m.files.length c)) := by rw [hw0]; exact BoxAt.new_ _ _ _
  have hc2x := hx0.cell 2 _ rfl
  have hr : RiseN m.files := fun a b hb hab => filesR_rise m _ (Nat.le_refl _) hm a b hb hab
  have Hw0 := Lib.hid hw0
  have Hb0 := Lib.hid hb0
  have Hf := Lib.hid ((hf.below hb0).more hb0.size)
  have Hr := Lib.hid hr
  clear hw0 hx0 hb0 hf hm hr
  go_enter Try.func31, Try.ntmps31
  go_upto_region 1 with (fail)
  rw [← Hw0.out]
  go_wp2_with fail
  refine (bsearch_any w0 w0.heap.size _ m.files s Hf.out (Nat.le_refl _) Hr.out).mono ?_
  rintro _ w1 ⟨k, rfl, hat, hb1⟩
  have Hb1 := Lib.hid (bstep Hb0.out hb1)
  have Hat := Lib.hid hat
  clear hb1 hat
  obtain ⟨r, hq⟩ : ∃ r, r = foundAt m.files s k := ⟨_, rfl⟩
  rw [← hq]
  have Hq := Lib.hid hq
  clear hq
  go_wp2_with fail
  go_ret2
  exact ⟨k, by rw [← Hq.out]; rfl, Hat.out, Hb1.out⟩
def cntLt (l : List MFile) (s : List UInt8) : Nat := (l.filter fun f => bless f.name s).length
def anyEq (l : List MFile) (s : List UInt8) : Bool := l.any fun f => decide (f.name = s)
theorem cntLt_succ (l : List MFile) (s : List UInt8) (k : Nat) (hk : k < l.length) : cntLt (l.take (k + 1)) s = cntLt (l.take k) s + (if bless l[k].name s then 1 else 0) := by
  unfold cntLt
  rw [List.take_add_one, List.getElem?_eq_getElem hk, Option.toList_some, List.filter_append, List.length_append]
  congr 1
  by_cases h : bless l[k].name s = true <;> simp [h]
theorem cntLt_le (l : List MFile) (s : List UInt8) : cntLt l s ≤ l.length := List.length_filter_le _ _
theorem anyEq_succ (l : List MFile) (s : List UInt8) (k : Nat) (hk : k < l.length) : anyEq (l.take (k + 1)) s = (anyEq (l.take k) s || decide (l[k].name = s)) := by
  unfold anyEq
  rw [List.take_add_one, List.getElem?_eq_getElem hk, Option.toList_some, List.any_append]
  simp
theorem FindAt.cnt {l : List MFile} {s : List UInt8} {k : Nat} (h : FindAt l s k) : cntLt l s = k := by
  unfold cntLt
  have e : l = l.take k ++ l.drop k := (List.take_append_drop k l).symm
  rw [e, List.filter_append, List.length_append]
  have h1 : (l.take k).filter (fun f => bless f.name s) = l.take k := by
    rw [List.filter_eq_self]
    intro f hf
    obtain ⟨a, ha, rfl⟩ := List.mem_take_iff_getElem.1 hf
    exact h.lo a (by omega) (by omega)
  have h2 : (l.drop k).filter (fun f => bless f.name s) = [] := by
    rw [List.filter_eq_nil_iff]
    intro f hf
    obtain ⟨a, ha, rfl⟩ := List.mem_iff_getElem.1 hf
    rw [List.getElem_drop]
    rw [List.length_drop] at ha
    rw [h.hi (k + a) (by omega) (by omega)]
    simp
  rw [h1, h2]
  have := h.le
  simp
  omega
theorem FindAt.any {l : List MFile} {s : List UInt8} {k : Nat} (h : FindAt l s k) (hr : RiseN l) : anyEq l s = foundAt l s k := by
  unfold anyEq foundAt
  by_cases hk : k < l.length
  · rw [List.getElem?_eq_getElem hk]
    show _ = decide (l[k].name = s)
    by_cases he : l[k].name = s
    · rw [decide_eq_true he, List.any_eq_true]
      exact ⟨_, List.getElem_mem hk, by simp [he]⟩
    · rw [decide_eq_false he, List.any_eq_false]
      intro f hf
      obtain ⟨a, ha, rfl⟩ := List.mem_iff_getElem.1 hf
      simp only [decide_eq_true_eq]
      intro ea
      rcases Nat.lt_trichotomy a k with hl | rfl | hl
      · have := h.lo a ha hl
        rw [ea, bless_irrefl] at this
        cases this
      · exact he ea
      · have h1 := hr k a ha hl
        rw [ea] at h1
        rw [h.hi k hk (Nat.le_refl _)] at h1
        cases h1
  · rw [List.getElem?_eq_none (by omega)]
    show _ = false
    rw [List.any_eq_false]
    intro f hf
    obtain ⟨a, ha, rfl⟩ := List.mem_iff_getElem.1 hf
    simp only [decide_eq_true_eq]
    intro ea
    have := h.lo a ha (by omega)
    rw [ea, bless_irrefl] at this
    cases this
end Go.Proofs.Ytpoicbhbkabllaa
