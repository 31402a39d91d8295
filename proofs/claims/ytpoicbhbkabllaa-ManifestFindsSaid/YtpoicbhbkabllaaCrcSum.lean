/- crc.Sum gives the check of all rows' bytes, one behind the other. The rows are readable slices. -/
import Derived.Test.YtpoicbhbkabllaaCrcTable
namespace Go.Proofs.Ytpoicbhbkabllaa
set_option linter.unusedSimpArgs false
set_option linter.unusedVariables false
open Go.RowKit

theorem tabW (a : Addr) (g : Nat) (w : World) (h : w.heap[g]? = some (.cells tabA 163 (0, 0))) (c : UInt8) : w.cell? ⟨g, c.toNat, none⟩ = some (.int .u32 ((tabN c.toNat).toNat : Int)) := by
  rw [cell_of_row w g _ tabA _ _ h, tabA_get]
theorem shr8 (x : UInt32) : ((x.toNat : Int)).fdiv 256 = ((x >>> 8).toNat : Int) := shr_u32 x 8 (by omega)

set_option maxRecDepth 100000 in
set_option maxHeartbeats 400000 in
theorem sum_any (A : Option Addr) (n c : Nat) (vs : List Value) (ls : List (List UInt8)) (w : World) (hn : vs.length = n) (hr : Rd w w.heap.size 1 A n vs) (hlen : vs.length = ls.length) (hm : n ≤ maxLen)
    (hby : ∀ k (h : k < vs.length) (h' : k < ls.length), By w w.heap.size vs[k] ls[k]) :
    Calls Try.prog 101 #[.slice A n c] w fun e w' => e = .returned (.int .u32 ((crcOf ls.flatten).toNat : Int)) ∧ Below w.heap.size w w' := by
  subst hn
  have hz := zeroTab
  unfold maxLen at hm
  have Hlen := Lib.hid hlen
  clear hlen
  go_enter Try.func101, Try.ntmps101
  go_wp2_with (first
    | (go_at_call 103; refine (table_any _).mono ?_; rintro e w1 ⟨rfl, hb1⟩)
    | (refine wpList_store_row rfl 163 (.tmp 3) _ rfl w1.heap.size tabA rfl rfl 163 zeroA (by exact heap_alloc_new w1 _) (by rw [tabA_size]; exact infoTab) (by rw [tabA_size]; rfl) tabA_one ?_))
  have hg : ((w1.alloc (Obj.cells zeroA 163)).setRow w1.heap.size tabA).heap[w1.heap.size]? = some (.cells tabA 163 (0, 0)) := setRow_heap _ _ zeroA _ _ _ (heap_alloc_new w1 _)
  have hb2 : Below w.heap.size w ((w1.alloc (Obj.cells zeroA 163)).setRow w1.heap.size tabA) := bsetRow (hb1.alloc hb1.size _) hb1.size _
  generalize (w1.alloc (Obj.cells zeroA 163)).setRow w1.heap.size tabA = W at *
  generalize w1.heap.size = g at *
  have hr2 := hr.below hb2
  go_loop [4, 12] (fun x i => ∃ k : Nat, k ≤ vs.length ∧ i = .int .i64 k ∧ x = .int .u32 ((run 4294967295 (ls.take k).flatten).toNat : Int)) (fun _ i => vs.length - (intOf i).toNat)
  case atStart => exact ⟨0, by omega, rfl, rfl⟩
  case round =>
    obtain ⟨k, hk, rfl, rfl⟩ := hrel
    by_cases hlt : k < vs.length
    · obtain ⟨ad, rfl, hadb, hcs⟩ := hr2.ad (by omega)
      have hk2 : k < ls.length := by rw [← Hlen.out]; exact hlt
      obtain ⟨A', c', hv, hc1, hc2, hrd⟩ := hby k hlt hk2
      have hcell := hcs k _ (List.getElem?_eq_getElem hlt)
      rw [hv] at hcell
      have hstep : run 4294967295 (ls.take (k + 1)).flatten = run (run 4294967295 (ls.take k).flatten) ls[k] := by
        rw [List.take_succ_eq_append_getElem hk2, List.flatten_append, run_append]; simp
      have Hstep := Lib.hid hstep
      have hrd2 := hrd.below hb2
      clear hv hcs hstep hrd
      generalize ls[k] = l at *
      generalize run 4294967295 (ls.take k).flatten = x0 at *
      unfold maxLen at hc2
      go_wp2
      go_loop [4, 18] (fun x i => ∃ j : Nat, j ≤ l.length ∧ i = .int .i64 j ∧ x = .int .u32 ((run x0 (l.take j)).toNat : Int)) (fun _ i => l.length - (intOf i).toNat)
      case atStart => exact ⟨0, by omega, rfl, rfl⟩
      case round =>
        obtain ⟨j, hj, rfl, rfl⟩ := hrel
        by_cases hlt2 : j < l.length
        · obtain ⟨ad', rfl, hadb', hcs'⟩ := hrd2.ad (by omega)
          have hcell2 := hcs' j _ (b8s_get l j hlt2)
          clear hcs'
          have hst2 : run x0 (l.take (j + 1)) = upd (run x0 (l.take j)) l[j] := by rw [List.take_succ_eq_append_getElem hlt2, run_snoc]
          have Hst2 := Lib.hid hst2
          clear hst2
          generalize l[j] = b at *
          generalize run x0 (l.take j) = x at *
          have hc2 := xor_u8 x.toUInt8 b
          rw [← mod_u8_u32] at hc2
          have hc4 := tabW ad g W hg (x.toUInt8 ^^^ b)
          have hc6 : bits BinOp.xor IntKind.u32 ((tabN (x.toUInt8 ^^^ b).toNat).toNat : Int) ((x.toNat : Int) / 256) = ((upd x b).toNat : Int) := by
            rw [div_u32 x 8 (by omega) 256 rfl]; exact xor_u32 _ _
          generalize upd x b = r at *
          generalize x.toUInt8 ^^^ b = q at *
          generalize tabN q.toNat = t at *
          have hc5 := u8_lt q
          go_wp2
          go_round
          case rel => exact ⟨j + 1, by omega, by go_num, by rw [Hst2.out]⟩
          case measure => simp [intOf]; omega
        · obtain rfl : j = l.length := by omega
          go_wp2
          go_round
          case rel => exact ⟨k + 1, by omega, by go_num, by rw [Hstep.out, List.take_length]⟩
          case measure => simp [intOf]; omega
    · obtain rfl : k = vs.length := by omega
      go_wp2
      go_ret
      refine ⟨?_, hb2⟩
      rw [Hlen.out, List.take_length]
      show Ending.returned (.int .u32 _) = _
      rw [compl_u32]; rfl
end Go.Proofs.Ytpoicbhbkabllaa
