/- A nil disk. -/
import Derived.Test.YtpoicbhbkabllaaDiskRead
namespace Go.Proofs.Ytpoicbhbkabllaa
set_option linter.unusedSimpArgs false
set_option linter.unusedVariables false
open Go.RowKit
set_option maxRecDepth 100000
set_option maxHeartbeats 1600000

theorem ncount (w : World) : Calls Try.prog 24 #[.pointer none] w fun e w' => e = .returned (.int .i64 0) ∧ w = w' := by
  go_enter Try.func24, Try.ntmps24
  go_wp2_with fail
  go_ret
  exact ⟨rfl, rfl⟩
theorem nwaiting (w : World) : Calls Try.prog 21 #[.pointer none] w fun e w' => e = .returned (.int .i64 0) ∧ w = w' := by
  go_enter Try.func21, Try.ntmps21
  go_wp2_with fail
  go_ret
  exact ⟨rfl, rfl⟩
theorem non_ (w : World) : Calls Try.prog 18 #[.pointer none] w fun e w' => e = .returned (.bool false) ∧ w = w' := by
  go_enter Try.func18, Try.ntmps18
  go_wp2_with fail
  go_ret
  exact ⟨rfl, rfl⟩
theorem nfuse (w : World) (n : Int) : Calls Try.prog 14 #[.pointer none, .int .i64 n] w fun e w' => e = .returned (.tuple #[]) ∧ w = w' := by
  go_enter Try.func14, Try.ntmps14
  go_wp2_with fail
  go_end0
  exact ⟨rfl, rfl⟩
theorem noff (w : World) : Calls Try.prog 26 #[.pointer none] w fun e w' => e = .returned (.tuple #[]) ∧ w = w' := by
  go_enter Try.func26, Try.ntmps26
  go_wp2_with fail
  go_end0
  exact ⟨rfl, rfl⟩
theorem nback (w : World) (k t : Int) : Calls Try.prog 19 #[.pointer none, .int .u64 k, .int .u64 t] w fun e w' => e = .returned (.tuple #[]) ∧ w = w' := by
  go_enter Try.func19, Try.ntmps19
  go_wp2_with fail
  refine bodyPost_ret (results_none rfl _ _ _) rfl ?_
  exact ⟨rfl, rfl⟩
theorem nthere (w : World) (i : Int) : Calls Try.prog 50 #[.pointer none, .int .i64 i] w fun e w' => e = .returned (.bool false) ∧ w = w' := by
  have Hc := Lib.hid (ncount w)
  by_cases hi : 0 ≤ i
  · have hd : decide (0 ≤ i) = true := decide_eq_true hi
    have hd2 : decide (i < 0) = false := decide_eq_false (by omega)
    clear hi
    go_enter Try.func50, Try.ntmps50
    go_wp2_with fail
    refine Hc.out.mono ?_
    rintro _ _ ⟨rfl, rfl⟩
    go_wp2_with fail
    go_ret
    exact ⟨rfl, rfl⟩
  · have hd : decide (0 ≤ i) = false := decide_eq_false hi
    clear hi
    go_enter Try.func50, Try.ntmps50
    go_wp2_with fail
    go_ret
    exact ⟨rfl, rfl⟩
theorem nmay (w : World) (i : Int) : Calls Try.prog 42 #[.pointer none, .int .i64 i] w fun e w' => e = .returned (.int .i64 6) ∧ w = w' := by
  have Ho := Lib.hid (non_ w)
  go_enter Try.func42, Try.ntmps42
  go_wp2_with fail
  refine Ho.out.mono ?_
  rintro _ _ ⟨rfl, rfl⟩
  go_wp2_with fail
  go_ret
  exact ⟨rfl, rfl⟩
theorem nread (w : World) (i : Int) : Calls Try.prog 20 #[.pointer none, .int .i64 i] w fun e w' => e = .returned (.tuple #[.slice none 0 0, .int .i64 6]) ∧ Below w.heap.size w w' := by
  have hb0 := balloc w (.cells #[.int .i64 i] 3)
  have hc0 := (BoxAt.new_ 3 w [.int .i64 i]).cell 0 _ rfl
  have Hb := Lib.hid hb0
  have Hm := Lib.hid (nmay (w.alloc (.cells #[.int .i64 i] 3)) i)
  clear hb0
  go_enter Try.func20, Try.ntmps20
  go_wp2_with fail
  generalize w.alloc (.cells #[.int .i64 i] 3) = w0 at *
  refine Hm.out.mono ?_
  rintro _ _ ⟨rfl, rfl⟩
  go_wp2_with fail
  go_ret2
  exact ⟨rfl, Hb.out⟩
theorem nwrite (w : World) (i : Int) (v : Value) : Calls Try.prog 16 #[.pointer none, .int .i64 i, v] w fun e w' => e = .returned (.int .i64 6) ∧ w = w' := by
  have Hm := Lib.hid (nmay w i)
  go_enter Try.func16, Try.ntmps16
  go_wp2_with fail
  refine Hm.out.mono ?_
  rintro _ _ ⟨rfl, rfl⟩
  go_wp2_with fail
  go_ret
  exact ⟨rfl, rfl⟩
theorem nsync (w : World) : Calls Try.prog 15 #[.pointer none] w fun e w' => e = .returned (.int .i64 6) ∧ w = w' := by
  have Hm := Lib.hid (non_ w)
  go_enter Try.func15, Try.ntmps15
  go_wp2_with fail
  refine Hm.out.mono ?_
  rintro _ _ ⟨rfl, rfl⟩
  go_wp2_with fail
  go_ret
  exact ⟨rfl, rfl⟩
theorem nspoil (w : World) (i a c : Int) : Calls Try.prog 27 #[.pointer none, .int .i64 i, .int .i64 a, .int .u8 c] w fun e w' => e = .returned (.int .i64 9) ∧ w = w' := by
  have Hm := Lib.hid (nthere w i)
  go_enter Try.func27, Try.ntmps27
  go_wp2_with fail
  refine Hm.out.mono ?_
  rintro _ _ ⟨rfl, rfl⟩
  go_wp2_with fail
  go_ret
  exact ⟨rfl, rfl⟩
end Go.Proofs.Ytpoicbhbkabllaa
