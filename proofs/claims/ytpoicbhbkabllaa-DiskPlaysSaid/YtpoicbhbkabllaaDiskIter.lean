/- slices.Backward over writes that wait: an iterator from the last one on -/
import Derived.Test.YtpoicbhbkabllaaDiskSpoil
import Derived.Test.YtpoicbhbkabllaaKp
namespace Go.Proofs.Ytpoicbhbkabllaa
set_option linter.unusedSimpArgs false
set_option linter.unusedVariables false
open Go.RowKit Go.Shelf
attribute [local go_sem] Oper.semAt_some

abbrev ByW (w : World) (B : Nat) (v : Value) (l : List Wt) : Prop := RowOn cWt w (fun k => k < B) (fun _ => True) v l
theorem Kp.byW {B : Nat → Prop} {W W' : World} {B0 : Nat} {v : Value} {l : List Wt} (hk : Kp B W W') (hB : ∀ k, B k → B0 ≤ k) (h : ByW W B0 v l) : ByW W' B0 v l := Kp.row (fun _ _ _ h => h) hk hB h
theorem ByW.below {w w' : World} {B : Nat} {v : Value} {l : List Wt} (h : ByW w B v l) (hb : Below B w w') : ByW w' B v l := by
  obtain ⟨A, c, h1, h2, h3, h4⟩ := h
  refine ⟨A, c, h1, h2, h3, fun hn => ?_⟩
  obtain ⟨ad, e, hb', hc⟩ := h4 hn
  refine ⟨ad, e, hb', fun i x hx => ?_⟩
  obtain ⟨cs, ha, hcs⟩ := hc i x hx
  exact ⟨cs, ha, fun j u hu => (hb.cell (by rw [add_block]; exact hb')).trans (hcs j u hu)⟩
/-- the j-th from the end -/
def backP (wt : List Wt) (j : Nat) : Nat × Wt := (wt.length - 1 - j, wt.getD (wt.length - 1 - j) (0, zeroB))
theorem backP_at (wt : List Wt) (q k : Nat) (hq : q < wt.length) (hk : k + (q + 1) = wt.length) : backP wt k = (q, wt[q]) := by
  unfold backP
  have : wt.length - 1 - k = q := by omega
  rw [this, List.getD_eq_getElem?_getD, List.getElem?_eq_getElem hq]
  rfl
abbrev encB (x : Nat × Wt) : Array Value := #[.int .i64 (x.1 : Int), .agg (encW x.2).toArray]

set_option maxRecDepth 100000 in
set_option maxHeartbeats 1000000 in
theorem backw_in (F : Fence) (n : Nat) (h1 : F.fn 43) (hro : F.round = none) (A : Option Addr) (len cap : Nat) (w : World) :
    CallsIn F n Try.prog 43 #[.slice A len cap] w fun e w' => e = .returned (.func (.func 70) #[] #[.pointer (some ⟨w.heap.size, 0, none⟩)]) ∧ w' = w.alloc (.cells #[.slice A len cap] 82) := by
  refine callsIn_of_wp Try.func43 rfl h1 ?_ hro
  simp only [Try.ntmps43, List.size_toArray, List.length_cons, List.length_nil, Nat.reduceAdd, Nat.reduceSub, Array.replicate_succ, Array.replicate_zero, List.push_toArray, List.append_toArray, List.nil_append, List.cons_append]
  gi_wp2
  go_ret
  exact ⟨rfl, rfl⟩

set_option maxRecDepth 100000 in
set_option maxHeartbeats 3200000 in
theorem backw1_in (F : Fence) (n : Nat) (h7 : F.fn 70) (hro : F.round = none) (hn : 1 ≤ n) (l Bs B0 : Nat) (B : Nat → Prop) (A : Option Addr) (cap : Nat) (xs : List Wt) (hl : xs.length ≤ 1000000) (J Jx : List (Nat × Wt) → World → Prop)
    (hBs : ¬ B Bs) (hBB : ∀ k, B k → B0 ≤ k)
    (hY : ∀ pre x W, J pre W → pre.length < xs.length → YieldAt F (n - 1) Try.prog l (encB x) W fun e W' =>
      (e = .returned (.bool true) ∧ J (pre ++ [x]) W' ∧ Kp B W W') ∨ (e = .returned (.bool false) ∧ Jx (pre ++ [x]) W'))
    (W : World) (hBW : ∀ k, B k → k < W.heap.size) (hJ : AbidesFrom W.heap.size J) (hc : W.cell? ⟨Bs, 0, none⟩ = some (.slice A xs.length cap)) (hrow : ByW W B0 (.slice A xs.length cap) xs) (h0 : J [] W) :
    CallsIn F n Try.prog 70 #[.func (.yield l) #[] #[], .pointer (some ⟨Bs, 0, none⟩)] W fun e W' => (∃ v, e = .returned v) ∧
      ((∃ ys, ys = upto (backP xs) xs.length ∧ J ys W') ∨ (∃ pre, (∃ k, k ≤ xs.length ∧ pre = upto (backP xs) k) ∧ Jx pre W')) := by
  obtain ⟨_, hc1, hc2⟩ := hrow.len_
  unfold maxLen at hc2
  have hbp := backP_at xs
  have Hbp := Lib.hid hbp
  clear hbp
  refine callsIn_of_wp Try.func70 rfl h7 ?_ hro
  simp only [Try.ntmps70, List.size_toArray, List.length_cons, List.length_nil, Nat.reduceAdd, Nat.reduceSub, Array.replicate_succ, Array.replicate_zero, List.push_toArray, List.append_toArray, List.nil_append, List.cons_append]
  gi_wp2
  gi_loopw [3] (fun i wr => ∃ k m : Nat, k + m = xs.length ∧ i = .int .i64 ((m : Int) - 1) ∧ J (upto (backP xs) k) wr ∧ Kp B W wr ∧ W.heap.size ≤ wr.heap.size)
    (fun i _ => (intOf i + 1).toNat)
  case atStart => exact ⟨0, xs.length, by omega, rfl, h0, Kp.refl _ _, Nat.le_refl _⟩
  case round =>
    obtain ⟨k, m, hkm, rfl, hJs, hkp, hsz⟩ := hrel
    have Hkp := Lib.hid hkp
    cases m with
    | succ q =>
      have hlt : q < xs.length := by omega
      have hbp := Hbp.out q k hlt hkm
      have e1 : (((q + 1 : Nat) : Int) - 1) = (q : Int) := by omega
      rw [e1]
      have hcs := hkp.cell hc hBs
      have hrw := hkp.byW hBB hrow
      obtain ⟨ad, cs, rfl, hab, ⟨rfl, _⟩, hcl⟩ := hrw.at_ q _ (List.getElem?_eq_getElem hlt)
      have hld : ∀ (j : Nat) (v : Value), (encW (xs[q]))[j]? = some v → wr.cell? ((ad.add (q * 129)).add j) = some v := fun j v hv => by rw [add_add]; exact hcl j v hv
      have Hld := Lib.hid hld
      clear hrw hcl hld
      obtain ⟨fn, tmps, assign, body, hy, hR⟩ := hY _ (backP xs k) _ hJs (by rw [upto_length]; omega)
      have hus := upto_succ (backP xs) k
      rw [hbp] at hy hR hus
      have Hus := Lib.hid hus
      dsimp only [encB] at hy
      generalize xs[q] = x at *
      have Hkp := Lib.hid hkp
      clear hkp hus hbp
      gi_wp2_with (refine wpListIn_load_agg rfl 88 (.tmp 15) rfl (ad.add (q * 129)) rfl (encW x) Hld.out Try.underlying88 rfl (by rw [encW_len]; kernel_rfl) ?_)
      refine hR.mono ?_
      rintro e W3 (⟨rfl, hJ3, hk3⟩ | ⟨rfl, hJx3⟩)
      · have hk3' := Hkp.out.trans hk3
        have hsz3 := hk3'.size
        rw [← Hus.out] at hJ3
        have HJ3 := Lib.hid hJ3
        have Hk3 := Lib.hid hk3'
        clear hR hy hk3 hJ3 hk3'
        gi_wp2
        go_roundw
        case rel => exact ⟨k + 1, q, by omega, rfl, HJ3.out, Hk3.out, hsz3⟩
        case measure => simp [intOf]
      · rw [← Hus.out] at hJx3
        have HJx3 := Lib.hid hJx3
        clear hJx3
        gi_wp2
        refine bodyPost_ret (results_none rfl _ _ _) rfl ?_
        exact ⟨⟨_, rfl⟩, .inr ⟨_, ⟨k + 1, by omega, rfl⟩, HJx3.out⟩⟩
    | zero =>
      obtain rfl : k = xs.length := by omega
      have e1 : (((0 : Nat) : Int) - 1) = -1 := rfl
      rw [e1]
      clear hkp
      gi_wp2
      go_end0
      exact ⟨⟨_, rfl⟩, .inl ⟨_, rfl, hJs⟩⟩

theorem backw_stops (F : Fence) (n : Nat) (h7 : F.fn 70) (hro : F.round = none) (hn : 1 ≤ n) (Bs B0 : Nat) (B : Nat → Prop) (A : Option Addr) (cap : Nat) (xs : List Wt) (hl : xs.length ≤ 1000000) (w : World)
    (hBs : Bs < w.heap.size) (hnB : ¬ B Bs) (hBB : ∀ k, B k → B0 ≤ k) (hBW : ∀ k, B k → k < w.heap.size) (hB0 : B0 ≤ w.heap.size)
    (hc : w.cell? ⟨Bs, 0, none⟩ = some (.slice A xs.length cap)) (hrow : ByW w B0 (.slice A xs.length cap) xs) :
    SeqStopsK F n Try.prog 70 #[.pointer (some ⟨Bs, 0, none⟩)] encB (Kp B) (fun ys => ys = upto (backP xs) xs.length)
      (fun pre => ∃ k, k ≤ xs.length ∧ pre = upto (backP xs) k) xs.length w := fun l J Jx W hW hJ _ hY h0 =>
  backw1_in F n h7 hro hn l Bs B0 B A cap xs hl J Jx hnB hBB hY W (fun k hk => Nat.lt_of_lt_of_le (hBW k hk) hW.size) hJ ((hW.cell (p := ⟨Bs, 0, none⟩) hBs).trans hc) (hrow.below (hW.mono hB0)) h0
end Go.Proofs.Ytpoicbhbkabllaa
