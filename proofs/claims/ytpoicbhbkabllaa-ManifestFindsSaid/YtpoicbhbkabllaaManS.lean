/- slices.BinarySearchFunc over files; manifest.Find -/
import Derived.Test.YtpoicbhbkabllaaManC
namespace Go.Proofs.Ytpoicbhbkabllaa
set_option linter.unusedSimpArgs false
set_option linter.unusedVariables false
open Go.RowKit

/-- names rise -/
def RiseN (l : List MFile) : Prop := ∀ (a b : Nat) (hb : b < l.length) (h : a < b), bless (l[a]'(by omega)).name l[b].name = true
theorem cmpS_lt (a b : List UInt8) : (cmpS a b < 0 ↔ bless a b = true) := by
  unfold cmpS
  split
  · simp_all
  · split <;> simp_all
theorem cmpS_eq (a b : List UInt8) : (cmpS a b = 0 ↔ a = b) := by
  unfold cmpS
  split
  · rename_i h
    constructor
    · intro h'; omega
    · rintro rfl; rw [bless_irrefl] at h; cases h
  · split <;> simp_all
structure FindAt (l : List MFile) (s : List UInt8) (k : Nat) : Prop where
  le : k ≤ l.length
  lo : ∀ (a : Nat) (ha : a < l.length), a < k → bless l[a].name s = true
  hi : ∀ (a : Nat) (ha : a < l.length), k ≤ a → bless l[a].name s = false
def foundAt (l : List MFile) (s : List UInt8) (k : Nat) : Bool := match l[k]? with | some f => decide (f.name = s) | none => false
theorem wrap64_at (n : Int) (h1 : 0 ≤ n) (h2 : n < 9223372036854775808) : wrap64 n = n := by
  unfold wrap64
  rw [Int.emod_eq_of_lt (by omega) (by omega)]
  omega
theorem wrap_u64_wrap64 (n : Int) (h1 : 0 ≤ n) (h2 : n < 18446744073709551616) : IntKind.u64.wrap (wrap64 n) = n := by
  rw [wrap_u64]
  unfold wrap64
  by_cases h : n < 9223372036854775808
  · rw [Int.emod_eq_of_lt (a := n + 9223372036854775808) (by omega) (by omega)]
    omega
  · have e : (n + 9223372036854775808) % 18446744073709551616 = n + 9223372036854775808 - 18446744073709551616 := by
      rw [← Int.sub_emod_right]
      exact Int.emod_eq_of_lt (by omega) (by omega)
    rw [e]
    omega
theorem half_wrap (i j p : Nat) (hp : p = (i + j) / 2) (h : i + j < 18446744073709551616) : wrap64 (IntKind.u64.wrap (wrap64 ((i : Int) + (j : Int))) / 2) = (p : Int) := by
  rw [wrap_u64_wrap64 ((i : Int) + j) (by omega) (by omega), wrap64_at _ (by omega) (by omega), hp]
  omega
/-- a load of a struct under a guard that says yes -/
theorem wpList_load_aggG {ops : Array Oper} {rest : List Oper} {o : Oper} {a : Act} {w : World} {Q : Exit → Act → World → Prop} (hw : Region.wanted o (yielded ops a.tmps) = true) (T : TypeId) (x : Operand) (ho : o.op = .load T x)
    (ad : Addr) (hx : a.eval x = .pointer (some ad)) (cs : List Value) (hc : ∀ (j : Nat) (v : Value), cs[j]? = some v → w.cell? (ad.add j) = some v) {d : TypeDesc} (hu : Try.prog.underlying T = some d)
    (hd : (match d with | .struct _ | .array _ _ => true | _ => false) = true) (hi : (Try.prog.info? T).map (·.size) = some cs.length)
    (h : wpList Try.prog ops Q rest (a.put o.dst (.agg cs.toArray)) w) : wpList Try.prog ops Q (o :: rest) a w :=
  BigFrame.wpList_want hw fun K hK => by
    unfold Oper.wp execOp
    simp only [ho, hx, Instr.loadAt, Instr.sureAddr, Sem.run_bind, Sem.run_pure, Result.andThen_ok, run_loadVar_cells w ad T cs hc hu hd hi]
    exact hK _ _ h
set_option maxRecDepth 100000 in
set_option maxHeartbeats 1600000 in
theorem bsearch_any (w : World) (B : Nat) (v : Value) (l : List MFile) (s : List UInt8) (h : ByF w B v l) (hB : B ≤ w.heap.size) (hr : RiseN l) :
    Calls Try.prog 55 #[v, .string (bst s), .func (.func 56) #[] #[]] w fun e w' => ∃ k, e = .returned (.tuple #[.int .i64 (k : Nat), .bool (foundAt l s k)]) ∧ FindAt l s k ∧ Below w.heap.size w w' := by
  obtain ⟨A, c, rfl, hc1, hc2⟩ := h.form
  unfold maxLen at hc2
  have H := Lib.hid h
  have Hr := Lib.hid hr
  have Hf := Lib.hid (fun W f v => find1_any W f v s)
  clear h hr
  go_enter Try.func55, Try.ntmps55
  go_wp2_with fail
  go_loopw [9, 10] (fun iv jv wr => ∃ i j : Nat, i ≤ j ∧ j ≤ l.length ∧ iv = .int .i64 i ∧ jv = .int .i64 j ∧ (∀ (a : Nat) (ha : a < l.length), a < i → bless l[a].name s = true) ∧ (∀ (a : Nat) (ha : a < l.length), j ≤ a → bless l[a].name s = false) ∧ Below w.heap.size w wr) (fun i j _ => (intOf j).toNat - (intOf i).toNat)
  case atStart => exact ⟨0, l.length, by omega, by omega, rfl, rfl, fun a _ h => by omega, fun a ha h => by omega, Below.refl _ _⟩
  case round =>
    obtain ⟨i, j, hij, hjl, rfl, rfl, hlo, hhi, hbr⟩ := hrel
    have Hbr := Lib.hid hbr
    have Hlo := Lib.hid hlo
    have Hhi := Lib.hid hhi
    clear hbr hlo hhi
    by_cases hlt : i < j
    · obtain ⟨p, hp⟩ : ∃ p, p = (i + j) / 2 := ⟨_, rfl⟩
      have hpl : p < l.length := by omega
      obtain ⟨_, ad, vb, rfl, hab, hbI, hfo, hcl⟩ := (H.out.below (Hbr.out.mono hB)).cells p hpl
      have hwp : wrap64 (IntKind.u64.wrap (wrap64 ((i : Int) + (j : Int))) / 2) = (p : Int) := half_wrap i j p hp (by omega)
      have Hcl := Lib.hid hcl
      have Hp := Lib.hid hp
      clear hcl hbI hfo hp
      go_wp2_with (refine wpList_load_agg rfl 62 (.tmp 27) rfl (ad.add (p * 4)) rfl (encF l[p] vb) Hcl.out Try.underlying62 rfl info_file4 ?_)
      refine (Hf.out wr l[p] vb).mono ?_
      rintro _ w2 ⟨rfl, hb2⟩
      have Hb3 := Lib.hid (bstep Hbr.out hb2)
      clear hb2
      by_cases hlt2 : cmpS l[p].name s < 0
      · have hlo : ∀ (a : Nat) (ha : a < l.length), a < p + 1 → bless l[a].name s = true := fun a ha hap => by
          have h1 := (cmpS_lt _ _).1 hlt2
          rcases Nat.lt_or_ge a p with h | h
          · exact bless_trans _ _ _ (Hr.out a p hpl h) h1
          · obtain rfl : a = p := by omega
            exact h1
        have Hlo2 := Lib.hid hlo
        clear hlo
        generalize cmpS l[p].name s = r at *
        go_wp2_with fail
        go_roundw
        case rel => exact ⟨p + 1, j, by have := Hp.out; omega, hjl, by go_num, rfl, Hlo2.out, Hhi.out, Hb3.out⟩
        case measure => have := Hp.out; simp [intOf]; omega
      · have hhi : ∀ (a : Nat) (ha : a < l.length), p ≤ a → bless l[a].name s = false := fun a ha hap => by
          have h1 : bless l[p].name s = false := by
            cases hx : bless l[p].name s with
            | false => rfl
            | true => exact absurd ((cmpS_lt _ _).2 hx) hlt2
          rcases Nat.lt_or_ge p a with h | h
          · cases hx : bless l[a].name s with
            | false => rfl
            | true => rw [bless_trans _ _ _ (Hr.out p a ha h) hx] at h1; cases h1
          · obtain rfl : a = p := by omega
            exact h1
        have Hhi2 := Lib.hid hhi
        clear hhi
        generalize cmpS l[p].name s = r at *
        go_wp2_with fail
        go_roundw
        case rel => exact ⟨i, p, by have := Hp.out; omega, by omega, rfl, rfl, Hlo.out, Hhi2.out, Hb3.out⟩
        case measure => have := Hp.out; simp [intOf]; omega
    · obtain rfl : i = j := by omega
      have hat : FindAt l s i := ⟨hjl, Hlo.out, Hhi.out⟩
      have Hat := Lib.hid hat
      clear hat
      by_cases hil : i < l.length
      · obtain ⟨_, ad, vb, rfl, hab, hbI, hfo, hcl⟩ := (H.out.below (Hbr.out.mono hB)).cells i hil
        have hfo : foundAt l s i = decide (cmpS l[i].name s = 0) := by
          unfold foundAt
          rw [List.getElem?_eq_getElem hil]
          exact decide_eq_decide.2 (cmpS_eq _ _).symm
        have Hcl := Lib.hid hcl
        have Hfo := Lib.hid hfo
        clear hcl hbI hfo
        go_wp2_with (refine wpList_load_aggG (by first | rfl | simp [Region.wanted, yielded]) 62 (.tmp 43) rfl (ad.add (i * 4)) rfl (encF l[i] vb) Hcl.out Try.underlying62 rfl info_file4 ?_)
        refine (Hf.out wr l[i] vb).mono ?_
        rintro _ w2 ⟨rfl, hb2⟩
        have Hb3 := Lib.hid (bstep Hbr.out hb2)
        clear hb2
        generalize cmpS l[i].name s = r at *
        go_wp2_with fail
        go_ret2
        exact ⟨i, by rw [Hfo.out]; simp; rfl, Hat.out, Hb3.out⟩
      · have hfo : foundAt l s i = false := by
          unfold foundAt
          rw [List.getElem?_eq_none (by omega)]
        go_wp2_with fail
        go_ret2
        exact ⟨i, by rw [hfo]; rfl, Hat.out, Hbr.out⟩
end Go.Proofs.Ytpoicbhbkabllaa
