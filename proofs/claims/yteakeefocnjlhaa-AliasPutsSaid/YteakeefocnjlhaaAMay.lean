/- palmerref16.Neighbours, palmerref16.May, alias.May -/
import Derived.Test.YteakeefocnjlhaaCounts
import Derived.BigQuiet
namespace Go.Proofs.Yteakeefocnjlhaa
set_option linter.unusedSimpArgs false
set_option linter.unusedVariables false
open Go.RowKit

def nbrs (l : List GArc) : Bool := decide (0 < l.length) && gmay l
/-- is a table right? -/
def mayOk (l : List GArc) (t : List GCell) : Bool :=
  nbrs l && (decide (l.length = t.length) && (cgood (gsum l) t.length t && (List.range l.length).all fun i => decide (cnt (gsum l) (i : Int) t = l.length * ((l[i]?).getD ⟨0, 0⟩).wt.toNat)))

set_option maxRecDepth 100000 in
set_option maxHeartbeats 800000 in
theorem nbrs_any (w : World) (B : Nat) (v : Value) (l : List GArc) (hl : l.length ≤ 4294967296) (h : ByA w B v l) :
    Calls Try.prog 60 #[v] w fun e w' => e = .returned (.bool (nbrs l)) ∧ ∃ q, w' = w.drewN q := by
  obtain ⟨A, c, rfl, hc1, hc2⟩ := h.form
  unfold maxLen at hc2
  have hmy := rgmay_any w B _ l hl h
  unfold nbrs
  by_cases h0 : 0 < l.length
  · have h0' : decide (0 < l.length) = true := decide_eq_true h0
    rw [h0']
    go_enter Try.func60, Try.ntmps60
    clear h0
    go_wp2_with fail
    refine hmy.mono ?_
    rintro _ _ ⟨rfl, q, rfl⟩
    go_wp2_with fail
    go_ret
    exact ⟨by simp, q, rfl⟩
  · have h0' : decide (0 < l.length) = false := decide_eq_false h0
    rw [h0']
    go_enter Try.func60, Try.ntmps60
    clear h0
    go_wp2_with fail
    go_ret
    exact ⟨by simp, 0, rfl⟩

theorem rcount_q (w : World) (q n : Nat) (B : Nat) (v : Value) (l : List GCell) (W : Nat) (hW : W < 18446744073709551616) (to : Int) (hl : l.length ≤ 4294967296) (h : ByC w B v l) (cv : Nat) (hc : cnt W to l = cv) :
    Calls Try.prog 64 #[v, .int .u64 (W : Int), .int .i64 to] (w.drewN (q + n)) fun e w' => e = .returned (.int .u64 (cv : Int)) ∧ ∃ m, w' = w.drewN (q + m) := by
  subst hc
  exact (rcount_any (w.drewN (q + n)) B v l W hW to hl h).mono fun _ _ ⟨h1, h2⟩ => ⟨h1, n, h2.symm⟩
theorem mayOk_no1 {l : List GArc} {t : List GCell} (h : nbrs l = false) : mayOk l t = false := by simp [mayOk, h]
theorem mayOk_no2 {l : List GArc} {t : List GCell} (h : l.length ≠ t.length) : mayOk l t = false := by simp [mayOk, h]
theorem mayOk_no3 {l : List GArc} {t : List GCell} (h : cgood (gsum l) t.length t = false) : mayOk l t = false := by simp [mayOk, h]
theorem mayOk_no4 {l : List GArc} {t : List GCell} (k : Nat) (hk : k < l.length) (h : cnt (gsum l) (k : Int) t ≠ l.length * (l[k]).wt.toNat) : mayOk l t = false := by
  unfold mayOk
  have : ((List.range l.length).all fun i => decide (cnt (gsum l) (i : Int) t = l.length * ((l[i]?).getD ⟨0, 0⟩).wt.toNat)) = false := by
    rw [Bool.eq_false_iff]
    intro hc
    have := List.all_eq_true.1 hc k (List.mem_range.2 hk)
    rw [List.getElem?_eq_getElem hk] at this
    simp at this
    exact h this
  rw [this]
  simp
theorem mayOk_yes {l : List GArc} {t : List GCell} (h1 : nbrs l = true) (h2 : l.length = t.length) (h3 : cgood (gsum l) t.length t = true) (h4 : ∀ k (hk : k < l.length), cnt (gsum l) (k : Int) t = l.length * (l[k]).wt.toNat) : mayOk l t = true := by
  unfold mayOk
  rw [h1, h3, decide_eq_true h2]
  simp only [Bool.true_and, List.all_eq_true, List.mem_range, decide_eq_true_eq]
  intro i hi
  rw [List.getElem?_eq_getElem hi]
  exact h4 i hi

set_option maxRecDepth 100000 in
set_option maxHeartbeats 3200000 in
theorem rmay16_any (w : World) (B B2 : Nat) (v v2 : Value) (l : List GArc) (t : List GCell) (hl : l.length ≤ 4294967296) (ht : t.length ≤ 4294967296) (h : ByA w B v l) (h2 : ByC w B2 v2 t) :
    Calls Try.prog 44 #[v, v2] w fun e w' => e = .returned (.bool (mayOk l t)) ∧ ∃ q, w' = w.drewN q := by
  obtain ⟨A, c, rfl, hc1, hc2⟩ := h.form
  obtain ⟨A2, c2, rfl, hd1, hd2⟩ := h2.form
  unfold maxLen at hc2 hd2
  have hnb := nbrs_any w B _ l hl h
  have hS := gsum_lt l
  have hSS : gsum l < 18446744073709551616 := by omega
  have hsum := fun q => rgsum_any (w.drewN q) B (.slice A l.length c) l hl h
  have hcn := fun q to => rcount_any (w.drewN q) B2 (.slice A2 t.length c2) t (gsum l) hSS to ht h2
  have hno1 := @mayOk_no1 l t
  have hno2 := @mayOk_no2 l t
  have hno3 := fun k hk h => @mayOk_no3 l t (cgood_no (gsum l) t.length t k hk h)
  have hno4 := @mayOk_no4 l t
  have hyes := @mayOk_yes l t
  have hcl := fun j => cntK_lt (gsum l) j t t.length
  have Hnb := Lib.hid hnb
  have Hsum := Lib.hid hsum
  have Hcn := Lib.hid hcn
  have Hno1 := Lib.hid hno1
  have Hno2 := Lib.hid hno2
  have Hno3 := Lib.hid hno3
  have Hno4 := Lib.hid hno4
  have Hyes := Lib.hid hyes
  have Hcl := Lib.hid hcl
  have Hcg := Lib.hid (fun k hk => cgood_snoc (gsum l) t.length t k hk)
  clear hnb hsum hcn hno1 hno2 hno3 hno4 hyes hS hcl
  go_enter Try.func44, Try.ntmps44
  go_wp2_with fail
  refine Hnb.out.mono ?_
  rintro _ _ ⟨rfl, q0, rfl⟩
  cases hn : nbrs l with
  | false =>
    have hf := Lib.hid (Hno1.out hn)
    clear hn
    go_wp2_with fail
    go_ret
    rw [hf.out]
    exact ⟨rfl, q0, rfl⟩
  | true =>
    by_cases hlt : l.length = t.length
    · have Hn := Lib.hid hn
      have Hlt := Lib.hid hlt
      have hle : ((l.length : Int) == (t.length : Int)) = true := by simp [hlt]
      have hle2 : ((l.length : Int) != (t.length : Int)) = false := by simp [hlt]
      have hle3 : (l.length == t.length) = true := by simp [hlt]
      have hle4 : (l.length != t.length) = false := by simp [hlt]
      clear hn hlt
      go_wp2_with fail
      refine (Hsum.out q0).mono ?_
      rintro _ _ ⟨rfl, rfl⟩
      go_wp2_with fail
      go_loop [22] (fun i => ∃ k : Nat, k ≤ t.length ∧ i = .int .i64 k ∧ cgood (gsum l) t.length (t.take k) = true) (fun i => t.length - (intOf i).toNat)
      case atStart => exact ⟨0, by omega, rfl, rfl⟩
      case round =>
        obtain ⟨k, hk, rfl, hgk⟩ := hrel
        by_cases hkt : k < t.length
        · obtain ⟨ad, rfl, hab, hx0, hx1⟩ := ByC.cells h2 k hkt
          have hcu := u64_lt (t[k]).cut
          have hot := u32_lt (t[k]).oth
          have hgs := Hcg.out k hkt
          rw [hgk, Bool.true_and] at hgs
          have hno := Hno3.out k hkt
          by_cases hgd : (t[k]).cut.toNat ≤ gsum l ∧ (t[k]).oth.toNat < t.length
          · have hgg : cgood (gsum l) t.length (t.take (k + 1)) = true := by rw [hgs]; simp [hgd.1, hgd.2]
            have Hgg := Lib.hid hgg
            obtain ⟨hg1, hg2⟩ := hgd
            clear hgg hgs hno hgk
            generalize (t[k]).cut.toNat = cut at *
            generalize (t[k]).oth.toNat = oth at *
            have hd1 : decide (gsum l < cut) = false := decide_eq_false (by omega)
            have hd2 : decide (t.length ≤ oth) = false := decide_eq_false (by omega)
            go_wp2_with fail
            go_round
            case rel => exact ⟨k + 1, by omega, by go_num, Hgg.out⟩
            case measure => simp [intOf]; omega
          · have hf := Lib.hid (hno hgd)
            clear hno hgs hgk
            generalize (t[k]).cut.toNat = cut at *
            generalize (t[k]).oth.toNat = oth at *
            have hcs : decide (gsum l < cut) = true ∨ (decide (gsum l < cut) = false ∧ decide (t.length ≤ oth) = true) := by
              by_cases h1 : gsum l < cut
              · left; exact decide_eq_true h1
              · right; exact ⟨decide_eq_false h1, decide_eq_true (by omega)⟩
            clear hgd
            rcases hcs with h1 | ⟨h1, h2⟩
            all_goals
              go_wp2_with fail
              go_ret
              rw [hf.out]
              exact ⟨rfl, q0, rfl⟩
        · obtain rfl : k = t.length := by omega
          rw [List.take_length] at hgk
          have Hgk := Lib.hid hgk
          clear hgk hkt hk
          go_wp2_with fail
          go_loopw [46] (fun i wr => ∃ k : Nat, k ≤ l.length ∧ i = .int .i64 k ∧ (∀ j (hj : j < k) (hl : j < l.length), cnt (gsum l) (j : Int) t = l.length * (l[j]).wt.toNat) ∧ ∃ q, wr = w.drewN q) (fun i _ => l.length - (intOf i).toNat)
          case atStart => exact ⟨0, by omega, rfl, fun j hj => absurd hj (Nat.not_lt_zero _), q0, rfl⟩
          case round =>
            obtain ⟨k, hk, rfl, hall, q, rfl⟩ := hrel
            have Hall := Lib.hid hall
            clear hall
            by_cases hkl : k < l.length
            · obtain ⟨ad, rfl, hab, hx0, hx1⟩ := ByA.cells h k hkl
              have hwt := u32_lt (l[k]).wt
              have hno := Hno4.out k hkl
              have hcnk : cnt (gsum l) (k : Int) t < 18446744073709551616 := Hcl.out k
              have hcall := Hcn.out
              have hmb : l.length * (l[k]).wt.toNat ≤ 4294967296 * 4294967295 := Nat.mul_le_mul hl (by omega)
              have hmul : IntKind.u64.wrap ((l.length : Int) * ((l[k]).wt.toNat : Int)) = ((l.length * (l[k]).wt.toNat : Nat) : Int) := by
                rw [← Int.natCast_mul, wrap_u64]; omega
              by_cases he : cnt (gsum l) (k : Int) t = l.length * (l[k]).wt.toNat
              · have He := Lib.hid he
                have heq : ((cnt (gsum l) (k : Int) t : Nat) : Int) = ((l.length * (l[k]).wt.toNat : Nat) : Int) := by rw [he]
                have hn1 : (((cnt (gsum l) (k : Int) t : Nat) : Int) != ((l.length * (l[k]).wt.toNat : Nat) : Int)) = false := by rw [he]; simp
                have hn2 : (((cnt (gsum l) (k : Int) t : Nat) : Int) == ((l.length * (l[k]).wt.toNat : Nat) : Int)) = true := by rw [he]; simp
                have hn3 : (cnt (gsum l) (k : Int) t == l.length * (l[k]).wt.toNat) = true := by rw [he]; simp
                have hrel2 : ∀ j (hj : j < k + 1) (hl : j < l.length), cnt (gsum l) (j : Int) t = l.length * (l[j]).wt.toNat := fun j hj hl => by
                  rcases Nat.lt_or_ge j k with h | h
                  · exact Hall.out j h hl
                  · obtain rfl : j = k := by omega
                    exact he
                have Hrel2 := Lib.hid hrel2
                clear hno hcall he heq hrel2
                generalize (l[k]).wt.toNat = wt at *
                generalize hpp : l.length * wt = p at *
                generalize hcc : cnt (gsum l) (k : Int) t = cv at *
                have Hpp := Lib.hid hpp
                have Hcc := Lib.hid hcc
                clear hpp hcc
                go_wp2_with fail
                go_quiet ((go_at_call 64; go_loud (exact rcount_q _ _ _ B2 _ t (gsum l) hSS _ ht h2 _ Hcc.out)))
                go_wp2_with fail
                go_roundw
                case rel => exact ⟨k + 1, by omega, by go_num, Hrel2.out, q + nq, by simp⟩
                case measure => simp [intOf]; omega
              · have hf := Lib.hid (hno he)
                have hn1 : (((cnt (gsum l) (k : Int) t : Nat) : Int) != ((l.length * (l[k]).wt.toNat : Nat) : Int)) = true := by simp; omega
                have hn2 : (((cnt (gsum l) (k : Int) t : Nat) : Int) == ((l.length * (l[k]).wt.toNat : Nat) : Int)) = false := by simp; omega
                have hn3 : (cnt (gsum l) (k : Int) t == l.length * (l[k]).wt.toNat) = false := by simp; omega
                clear hno hcall he
                generalize (l[k]).wt.toNat = wt at *
                generalize hpp : l.length * wt = p at *
                generalize hcc : cnt (gsum l) (k : Int) t = cv at *
                have Hpp := Lib.hid hpp
                have Hcc := Lib.hid hcc
                clear hpp hcc
                go_wp2_with fail
                go_quiet ((go_at_call 64; go_loud (exact rcount_q _ _ _ B2 _ t (gsum l) hSS _ ht h2 _ Hcc.out)))
                go_wp2_with fail
                go_ret
                rw [hf.out]
                exact ⟨rfl, q + nq, by simp⟩
            · obtain rfl : k = l.length := by omega
              have hf := Lib.hid (Hyes.out Hn.out Hlt.out Hgk.out (fun j hj => Hall.out j hj hj))
              go_wp2_with fail
              go_ret
              rw [hf.out]
              exact ⟨rfl, q, rfl⟩
    · have hf := Lib.hid (Hno2.out hlt)
      have hle : ((l.length : Int) == (t.length : Int)) = false := beq_eq_false_iff_ne.2 (by omega)
      have hle3 : (l.length == t.length) = false := beq_eq_false_iff_ne.2 hlt
      have hle4 : (l.length != t.length) = true := by simp [hlt]
      have hle2 : ((l.length : Int) != (t.length : Int)) = true := by simp; omega
      clear hn hlt
      go_wp2_with fail
      go_ret
      rw [hf.out]
      exact ⟨rfl, q0, rfl⟩
end Go.Proofs.Yteakeefocnjlhaa
