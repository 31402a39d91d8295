/- alias.counts -/
import Derived.Test.YteakeefocnjlhaaCellA
import Derived.Laws.MakeOwn
import Derived.RegionTactic
import Derived.ChangeAlike
namespace Go.Proofs.Yteakeefocnjlhaa
set_option linter.unusedSimpArgs false
set_option linter.unusedVariables false
open Go.RowKit

/-- is each cell right? -/
def cgood (W n : Nat) (l : List GCell) : Bool := l.all fun c => decide (c.cut.toNat ≤ W) && decide (c.oth.toNat < n)
/-- how many draws come to each of n, by the first k cells -/
def cntRow (W : Nat) (l : List GCell) (n k : Nat) : List Value := (List.range n).map fun (j : Nat) => Value.int .u64 ((cntK W (j : Int) l k : Nat) : Int)
theorem cntRow_get (W : Nat) (l : List GCell) (n k j : Nat) (hj : j < n) : (cntRow W l n k)[j]? = some (.int .u64 ((cntK W (j : Int) l k : Nat) : Int)) := by
  simp [cntRow, List.getElem?_range hj]
theorem cntRow_len (W : Nat) (l : List GCell) (n k : Nat) : (cntRow W l n k).length = n := by simp [cntRow]
theorem made64 (n : Nat) (l : List GCell) (W : Nat) : madeCells (Value.cells (.int .u64 0)) n = (cntRow W l n 0).toArray := by
  apply Array.ext
  · simp [madeCells, Value.cells, cntRow]
  · intro i h1 h2
    simp [madeCells, Value.cells, cntRow, cntK, Nat.mod_one]
theorem info64 : (Try.prog.info? 26).map (fun i => (i.zero, i.size, i.bytes)) = some (some (.int .u64 0), 1, 8) := by kernel_rfl
theorem make64 (l : List GCell) (W n : Nat) (hn : n ≤ 4294967296) : ∀ w : World, (Instr.makeSlice 81 (.int .i64 (n : Int)) (.int .i64 (n : Int))).run Try.prog w = .ok (.slice (some ⟨w.heap.size, 0, none⟩) n n) (w.alloc (.cells (cntRow W l n 0).toArray 26)) := fun w => by
  obtain ⟨i, hi, hz0, hz1, hz2⟩ := info_parts info64
  have hr := run_make (P := Try.prog) w 81 26 i (.int .u64 0) Try.underlying81 hi hz0 .i64 .i64 (n : Int) (n : Int) (by omega) (by omega) (by rw [hz2]; omega) (by omega)
  rw [Int.toNat_natCast, hz1, Nat.mul_one, made64 n l W] at hr
  exact hr
/-- a cell that is right is added -/
theorem cntRow_step (W : Nat) (l : List GCell) (n k : Nat) (hk : k < l.length) (hkn : k < n) (cut oth : Nat) (hc : (l[k]).cut.toNat = cut) (ho : (l[k]).oth.toNat = oth) (hcW : cut ≤ W) (hon : oth < n) (x : Nat)
    (hx : x = if oth = k then (cntK W (k : Int) l k + cut) % 18446744073709551616 else cntK W (oth : Int) l k) :
    ((cntRow W l n k).set k (.int .u64 (((cntK W (k : Int) l k + cut) % 18446744073709551616 : Nat) : Int))).set oth (.int .u64 (((x + (W - cut)) % 18446744073709551616 : Nat) : Int)) = cntRow W l n (k + 1) := by
  apply List.ext_getElem?
  intro j
  rcases Nat.lt_or_ge j n with hj | hj
  · rw [cntRow_get W l n (k + 1) j hj, cntK_succ W j l k hk, List.getElem?_set, List.getElem?_set, cntRow_get W l n k j hj]
    unfold cstep
    simp only [hc, ho, Nat.not_lt.2 hcW, if_false, List.length_set, cntRow_len, hon, hkn, if_true]
    subst hx
    by_cases h1 : oth = j
    · subst h1
      by_cases h2 : oth = k
      · subst h2; simp
      · have : ¬ k = oth := fun e => h2 e.symm
        have h3 : ¬ (k : Int) = (oth : Int) := by omega
        simp [this, h2, h3]
    · have h4 : ¬ (oth : Int) = (j : Int) := by omega
      rw [if_neg h1, if_neg h4]
      by_cases h2 : k = j
      · subst h2; simp
      · have h3 : ¬ (k : Int) = (j : Int) := by omega
        rw [if_neg h2, if_neg h3]
  · rw [List.getElem?_eq_none (by simp [cntRow_len]; omega), List.getElem?_eq_none (by rw [cntRow_len]; omega)]
theorem cgood_snoc (W n : Nat) (l : List GCell) (k : Nat) (hk : k < l.length) : cgood W n (l.take (k + 1)) = (cgood W n (l.take k) && (decide ((l[k]).cut.toNat ≤ W) && decide ((l[k]).oth.toNat < n))) := by
  unfold cgood
  rw [List.take_add_one, List.all_append, List.getElem?_eq_getElem hk]
  simp
theorem cgood_no (W n : Nat) (l : List GCell) (k : Nat) (hk : k < l.length) (h : ¬ ((l[k]).cut.toNat ≤ W ∧ (l[k]).oth.toNat < n)) : cgood W n l = false := by
  unfold cgood
  rw [Bool.eq_false_iff]
  intro hc
  have := List.all_eq_true.1 hc _ (List.getElem_mem hk)
  simp at this
  exact h this

set_option maxRecDepth 100000 in
set_option maxHeartbeats 3200000 in
theorem counts_any (w : World) (B : Nat) (v : Value) (l : List GCell) (W : Nat) (hW : W < 18446744073709551616) (hl : l.length ≤ 4294967296) (h : ByC w B v l) (hB : B ≤ w.heap.size) :
    Calls Try.prog 84 #[v, .int .u64 (W : Int)] w fun e w' => ∃ vo, e = .returned (.tuple #[vo, .bool (cgood W l.length l)]) ∧ (cgood W l.length l = true → vo = .slice (some ⟨w.heap.size, 0, none⟩) l.length l.length ∧ BoxAt 26 w' w.heap.size (cntRow W l l.length l.length)) ∧ Below w.heap.size w w' := by
  obtain ⟨A, c, rfl, hc1, hc2⟩ := h.form
  unfold maxLen at hc2
  have hlt := fun j => cntK_lt W j l
  have hno := fun k hk => cgood_no W l.length l k hk
  have hmk := make64 l W l.length hl
  have Hlt := Lib.hid hlt
  have Hno := Lib.hid hno
  clear hlt hno
  go_enter Try.func84, Try.ntmps84
  go_wp2_with fail
  have hbx0 := BoxAt.new_ 26 w (cntRow W l l.length 0)
  clear hmk
  go_loopw [14] (fun i wr => ∃ k : Nat, k ≤ l.length ∧ i = .int .i64 k ∧ BoxAt 26 wr w.heap.size (cntRow W l l.length k) ∧ cgood W l.length (l.take k) = true ∧ Below w.heap.size w wr) (fun i _ => l.length - (intOf i).toNat)
  case atStart => exact ⟨0, by omega, rfl, hbx0, rfl, balloc _ _⟩
  case round =>
    obtain ⟨k, hk, rfl, hbx, hgk, hbl⟩ := hrel
    have hbz := hbl.size
    have hblt := hbx.lt
    by_cases hlt : k < l.length
    · obtain ⟨ad, rfl, hab, hx0, hx1⟩ := (h.below (hbl.mono hB)).cells k hlt
      have hcu := u64_lt (l[k]).cut
      have hot := u32_lt (l[k]).oth
      have hgs := cgood_snoc W l.length l k hlt
      rw [hgk, Bool.true_and] at hgs
      have hno := Hno.out k hlt
      by_cases hgd : (l[k]).cut.toNat ≤ W ∧ (l[k]).oth.toNat < l.length
      · have hgg : cgood W l.length (l.take (k + 1)) = true := by rw [hgs]; simp [hgd.1, hgd.2]
        have hstp := cntRow_step W l l.length k hlt hlt _ _ rfl rfl hgd.1 hgd.2
        have hy0 := hbx.cell k _ (cntRow_get W l _ k k hlt)
        have hy1 := hbx.cell _ _ (cntRow_get W l _ k _ hgd.2)
        have hn0 := Hlt.out k k
        have hn1 := Hlt.out (l[k]).oth.toNat k
        obtain ⟨hg1, hg2⟩ := hgd
        clear hgs hno
        have Hgg := Lib.hid hgg
        have Hstp := Lib.hid hstp
        have hbw := Lib.hid hbx
        clear hgg hstp hgk
        generalize (l[k]).cut.toNat = cut at *
        generalize (l[k]).oth.toNat = oth at *
        have hd1 : decide (W < cut) = false := decide_eq_false (by omega)
        have hd2 : decide (l.length ≤ oth) = false := decide_eq_false (by omega)
        go_wp2_with fail
        have hbxA := hbx.alloc (.cells #[.int .u64 (cut : Int), .int .u32 (oth : Int)] 83)
        have hcA := BoxAt.new_ 83 wr [.int .u64 (cut : Int), .int .u32 (oth : Int)]
        have ha0 := hbxA.cell k _ (cntRow_get W l _ k k hlt)
        have haf := hbxA.frozen k
        have hc0 := hcA.cell 0 _ rfl
        have hc1 := hcA.cell 1 _ rfl
        have Hbx := Lib.hid hbxA
        have HcA := Lib.hid hcA
        have HbA := Lib.hid (hbl.trans ((balloc wr (.cells #[.int .u64 (cut : Int), .int .u32 (oth : Int)] 83)).mono hbz))
        have e1 : IntKind.u64.wrap (((cntK W (k : Int) l k : Nat) : Int) + (cut : Int)) = (((cntK W (k : Int) l k + cut) % 18446744073709551616 : Nat) : Int) := by rw [wrap_u64]; omega
        obtain ⟨x, hx⟩ : ∃ x, x = if oth = k then (cntK W (k : Int) l k + cut) % 18446744073709551616 else cntK W (oth : Int) l k := ⟨_, rfl⟩
        have hstp2 := Hstp.out x hx
        have hxlt : x < 18446744073709551616 := by rw [hx]; split <;> omega
        have hget : ((cntRow W l l.length k).set k (.int .u64 (((cntK W (k : Int) l k + cut) % 18446744073709551616 : Nat) : Int)))[oth]? = some (.int .u64 (x : Int)) := by
          rw [List.getElem?_set, cntRow_get W l _ k _ hg2, cntRow_len, hx]
          by_cases hko : oth = k
          · subst hko; simp [hlt]
          · rw [if_neg (fun e => hko e.symm), if_neg hko]
        have Hget := Lib.hid hget
        have Hstp2 := Lib.hid hstp2
        have E1 := Lib.hid e1
        clear hbxA hcA hbx hy0 hy1 hbl hx0 hx1 hbw Hstp hx hget hstp2 e1
        generalize cntK W (k : Int) l k = n at *
        generalize cntK W (oth : Int) l k = m at *
        generalize wr.alloc (.cells #[.int .u64 (cut : Int), .int .u32 (oth : Int)] 83) = wa at *
        generalize wr.heap.size = gc at *
        go_region
        rw [E1.out]
        have hbx1 := Hbx.out.put k (.int .u64 (((n + cut) % 18446744073709551616 : Nat) : Int))
        have hcA1 := HcA.out.other ⟨w.heap.size, k, none⟩ (.int .u64 (((n + cut) % 18446744073709551616 : Nat) : Int)) (by show w.heap.size ≠ gc; omega)
        have hb1 : Below w.heap.size w (wa.setCell ⟨w.heap.size, k, none⟩ (.int .u64 (((n + cut) % 18446744073709551616 : Nat) : Int))).drew := (HbA.out.setCell (p := ⟨w.heap.size, k, none⟩) (Nat.le_refl _) _).drew
        clear ha0 haf hc0 hc1
        generalize (n + cut) % 18446744073709551616 = nc at *
        replace hbx1 : BoxAt 26 (wa.setCell ⟨w.heap.size, k, none⟩ (.int .u64 (nc : Int))).drew w.heap.size _ := hbx1
        replace hcA1 : BoxAt 83 (wa.setCell ⟨w.heap.size, k, none⟩ (.int .u64 (nc : Int))).drew gc _ := hcA1
        generalize (wa.setCell ⟨w.heap.size, k, none⟩ (.int .u64 (nc : Int))).drew = wb at *
        have ha0 := hbx1.cell oth _ Hget.out
        have haf := hbx1.frozen oth
        have hc0 := hcA1.cell 0 _ rfl
        have hc1 := hcA1.cell 1 _ rfl
        have Hbx1 := Lib.hid hbx1
        have Hb1 := Lib.hid hb1
        have e2 : IntKind.u64.wrap ((x : Int) + ((W : Int) - (cut : Int))) = (((x + (W - cut)) % 18446744073709551616 : Nat) : Int) := by rw [wrap_u64]; omega
        have E2 := Lib.hid e2
        clear hbx1 hcA1 hb1 Hbx HcA HbA Hget e2
        go_wp2_with fail
        go_region
        rw [E2.out]
        go_wp2_with fail
        go_roundw
        case rel => exact ⟨k + 1, by omega, by go_num, by rw [← Hstp2.out]; exact Hbx1.out.put oth _, Hgg.out, (Hb1.out.setCell (p := ⟨w.heap.size, oth, none⟩) (Nat.le_refl _) _).drew⟩
        case measure => simp [intOf]; omega
      · have hf := Lib.hid (hno hgd)
        clear hno hgs hgk hbx
        generalize (l[k]).cut.toNat = cut at *
        generalize (l[k]).oth.toNat = oth at *
        have hcs : decide (W < cut) = true ∨ (decide (W < cut) = false ∧ decide (l.length ≤ oth) = true) := by
          by_cases h1 : W < cut
          · left; exact decide_eq_true h1
          · right; exact ⟨decide_eq_false h1, decide_eq_true (by omega)⟩
        clear hgd
        rcases hcs with h1 | ⟨h1, h2⟩
        all_goals
          go_wp2_with fail
          go_ret2
          rw [hf.out]
          exact ⟨_, rfl, fun e => by simp at e, hbl.trans ((balloc _ _).mono hbz)⟩
    · obtain rfl : k = l.length := by omega
      rw [List.take_length] at hgk
      go_wp2_with fail
      go_ret2
      rw [hgk]
      exact ⟨_, rfl, fun _ => ⟨rfl, hbx⟩, hbl⟩
end Go.Proofs.Yteakeefocnjlhaa
