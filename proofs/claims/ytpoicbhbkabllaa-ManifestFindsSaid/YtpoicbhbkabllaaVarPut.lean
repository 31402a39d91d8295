/- varint.Put and the reference's Num append, and make, a number's bytes -/
import Derived.Test.YtpoicbhbkabllaaVarPure
import Derived.Test.YtpoicbhbkabllaaCdc
namespace Go.Proofs.Ytpoicbhbkabllaa
set_option linter.unusedSimpArgs false
set_option linter.unusedVariables false
open Go.RowKit

theorem or128 (n : Nat) : bits .or .u8 (((UInt8.ofNat n).toNat : Nat) : Int) 128 = (((UInt8.ofNat (n % 128 + 128)).toNat : Nat) : Int) := by
  have h := or_u8 (UInt8.ofNat n) 128
  rw [show (((128 : UInt8).toNat : Nat) : Int) = 128 from rfl] at h
  rw [h]
  congr 2
  have h3 : ∀ m : Nat, m < 256 → UInt8.ofNat m ||| 128 = UInt8.ofNat (m % 128 + 128) := by
    intro m hm
    have : ∀ x : Fin 256, UInt8.ofNat x.1 ||| 128 = UInt8.ofNat (x.1 % 128 + 128) := by decide +kernel
    exact this ⟨m, hm⟩
  have h1 : UInt8.ofNat n = UInt8.ofNat (n % 256) := by
    apply UInt8.toNat_inj.1
    rw [UInt8.toNat_ofNat', UInt8.toNat_ofNat']
    omega
  rw [h1, h3 _ (Nat.mod_lt _ (by decide))]
  congr 2
  omega
theorem or128' (n : Nat) : bits .or .u8 ((n : Int) % 256) 128 = (n : Int) % 128 + 128 := by
  have h := or128 n
  rw [UInt8.toNat_ofNat', UInt8.toNat_ofNat'] at h
  rw [show ((n : Int) % 256) = ((n % 2 ^ 8 : Nat) : Int) from by omega, h]
  omega

set_option maxRecDepth 100000 in
set_option maxHeartbeats 800000 in
theorem vput_any (w : World) (base : Nat) (v0 : Value) (l0 : List UInt8) (hown : Ow w base v0 l0) (n : Nat) (hn : n < 18446744073709551616) (hsz0 : l0.length ≤ 549755813888) (hbase : base ≤ w.heap.size) :
    Calls Try.prog 93 #[v0, .int .u64 (n : Int)] w fun e w' => ∃ v', e = .returned v' ∧ Ow w' base v' (l0 ++ vput n) ∧ Ext w w' v0 v' := by
  have hlen := vput_len64 n hn
  go_enter Try.func93, Try.ntmps93
  go_wp2_with fail
  go_loopw [0, 1] (fun b x wr => ∃ (m : Nat) (acc : List UInt8), x = .int .u64 (m : Int) ∧ m < 18446744073709551616 ∧ Ow wr base b (l0 ++ acc) ∧ acc ++ vput m = vput n ∧ Ext w wr v0 b) (fun _ x _ => (intOf x).toNat)
  case atStart => exact ⟨n, [], rfl, hn, by simpa using hown, rfl, Ext.refl _ _⟩
  case round =>
    obtain ⟨m, acc, rfl, hm, hob, hacc, hext⟩ := hrel
    have hal : acc.length ≤ 11 := by have := congrArg List.length hacc; simp at this; omega
    have hor := or128' m
    have hsz := hext.gr.size
    have hll : (l0 ++ acc).length ≤ 549755813900 := by simp; omega
    by_cases hlt : 127 < m
    · have hst := vput_ge (n := m) (by omega)
      have Hst := Lib.hid hst
      have Hacc := Lib.hid hacc
      clear hst hacc
      go_wp2_with (at_builtin
                   go_loud (refine wpList_app1 rfl (.tmp 9) (.tmp 13) rfl (b := UInt8.ofNat (m % 128 + 128)) hob (by simp [b8]; omega) rfl rfl (by omega) (by omega) ?_)
                   intro v' w' hown' hext')
      go_roundw
      case rel => exact ⟨m / 128, acc ++ [UInt8.ofNat (m % 128 + 128)], by go_num, by omega, by rw [← List.append_assoc]; exact hown', by rw [← Hacc.out, Hst.out, List.append_assoc]; rfl, hext.trans hext'⟩
      case measure => simp [intOf]; omega
    · have hst := vput_lt (n := m) (by omega)
      rw [hst] at hacc
      have Hacc := Lib.hid hacc
      clear hst hacc
      go_wp2_with (at_builtin
                   go_loud (refine wpList_app1 rfl (.tmp 15) (.tmp 18) rfl (b := UInt8.ofNat m) hob (by first | rfl | (simp [b8]; omega)) rfl rfl (by omega) (by omega) ?_)
                   intro v' w' hown' hext')
      go_ret
      refine ⟨_, rfl, ?_, hext.trans hext'⟩
      rw [List.append_assoc, Hacc.out] at hown'
      exact hown'
end Go.Proofs.Ytpoicbhbkabllaa
