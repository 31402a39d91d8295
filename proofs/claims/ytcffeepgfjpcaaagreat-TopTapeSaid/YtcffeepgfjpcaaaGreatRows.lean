/-
  No cell of these rows narrows 'for every input' (looked for: loops, veiled, ifaces, maps, wideKeys, modest, calm, conditions, laid).
  DERIVED. THE GIVEN ROWS OF THIS SEAT. 4 by the template 'for every input the law returns true; each argument reads behind the call as it read before'; 0 by the template 'total and deterministic' (their statements: YtcffeepgfjpcaaaGreatTotals.lean).
  GIVEN WITH THE SEED: the statements are not yours to turn. If you find one false, say at which input.
  Laid BY PROGRAM, IN A SANDBOX (cutbox-rows.mjs): the forced cells as the released guide's own fill.sh prints them over the translation f7909704547de3f6… (all of the seat's roots in one cut). By AI agents, Wed Nov 11 2026. No macro, syntax, notation, axiom, sorry.
-/
import Derived.Test.YtcffeepgfjpcaaaGreatChecked
import GoSem.Claim
import GoSem.ClaimJoined
import GoSem.ClaimMapViews
import Derived.JoinedTies
import Derived.KernelRfl
namespace Go.Proofs.YtcffeepgfjpcaaaGreat
/- THE CELL 'sum', in the pinned program and in every row, IS THE sha256 OF THE DUMP (.gsa) THAT YtcffeepgfjpcaaaGreatProg.lean LOADS. Nothing in Lean hashes anything: it is a label: what it is worth is what the hold of that sum in a sandbox is worth. -/
noncomputable def Tryz.pinned : Pinned := { name := "ytcffeepgfjpcaaagreat", sum := "f7909704547de3f64f67ea9c999717061267a115346527ed086df3826f9a0227", checked := Tryz.checked }
namespace Rows
def none {H : Type} : Left H := { results := [], args := [] }

/-- 'palmertop.TopTape': WHATEVER THE INPUT: true; the input reads as it did. -/
def topTapeSpec : ChangeSpec := { name := "topTape", fn := fun _ => fun
  | [d1, d2, d3, d4] => { results := [.lit (.bool true)], args := [d1, d2, d3, d4] }
  | _ => none }
def topTapeRow : OpenClaim := { program := "ytcffeepgfjpcaaagreat", sum := "f7909704547de3f64f67ea9c999717061267a115346527ed086df3826f9a0227", func := "palmer/palmertop.TopTape", spec := "topTape", inPlace := ["internal/bytealg.Compare", "slices.overlaps[int]"], unfollowed := true, recurses := true, apart := false }
def TopTapeSaid : Prop := topTapeRow.holds Tryz.pinned (OpenSpec.ofChange topTapeSpec)

/-- ITS FALSE NEIGHBOUR: 'it returns false'. Refute it at one input. -/
def topTapeWrong : ChangeSpec := { name := "topTape", fn := fun _ => fun
  | [d1, d2, d3, d4] => { results := [.lit (.bool false)], args := [d1, d2, d3, d4] }
  | _ => none }
def TopTapeWrongFalsely : Prop := topTapeRow.holds Tryz.pinned (OpenSpec.ofChange topTapeWrong)

/-- 'palmertop.TopSecond': WHATEVER THE INPUT: true; the input reads as it did. -/
def topSecondSpec : ChangeSpec := { name := "topSecond", fn := fun _ => fun
  | [d1, d2, d3, d4, d5] => { results := [.lit (.bool true)], args := [d1, d2, d3, d4, d5] }
  | _ => none }
def topSecondRow : OpenClaim := { program := "ytcffeepgfjpcaaagreat", sum := "f7909704547de3f64f67ea9c999717061267a115346527ed086df3826f9a0227", func := "palmer/palmertop.TopSecond", spec := "topSecond", inPlace := ["internal/bytealg.Compare", "slices.overlaps[int]", "internal/bytealg.IndexByteString", "math/bits.Add64"], unfollowed := true, recurses := true, apart := false }
def TopSecondSaid : Prop := topSecondRow.holds Tryz.pinned (OpenSpec.ofChange topSecondSpec)

/-- ITS FALSE NEIGHBOUR: 'it returns false'. Refute it at one input. -/
def topSecondWrong : ChangeSpec := { name := "topSecond", fn := fun _ => fun
  | [d1, d2, d3, d4, d5] => { results := [.lit (.bool false)], args := [d1, d2, d3, d4, d5] }
  | _ => none }
def TopSecondWrongFalsely : Prop := topSecondRow.holds Tryz.pinned (OpenSpec.ofChange topSecondWrong)

/-- 'palmertop.TopDraws': WHATEVER THE INPUT: true; the input reads as it did. -/
def topDrawsSpec : ChangeSpec := { name := "topDraws", fn := fun _ => fun
  | [d1, d2] => { results := [.lit (.bool true)], args := [d1, d2] }
  | _ => none }
def topDrawsRow : OpenClaim := { program := "ytcffeepgfjpcaaagreat", sum := "f7909704547de3f64f67ea9c999717061267a115346527ed086df3826f9a0227", func := "palmer/palmertop.TopDraws", spec := "topDraws", inPlace := ["internal/bytealg.Compare", "slices.overlaps[int]", "internal/bytealg.IndexByteString", "math/bits.Add64"], unfollowed := true, recurses := true, apart := false }
def TopDrawsSaid : Prop := topDrawsRow.holds Tryz.pinned (OpenSpec.ofChange topDrawsSpec)

/-- ITS FALSE NEIGHBOUR: 'it returns false'. Refute it at one input. -/
def topDrawsWrong : ChangeSpec := { name := "topDraws", fn := fun _ => fun
  | [d1, d2] => { results := [.lit (.bool false)], args := [d1, d2] }
  | _ => none }
def TopDrawsWrongFalsely : Prop := topDrawsRow.holds Tryz.pinned (OpenSpec.ofChange topDrawsWrong)

/-- 'palmertop.TopMapped': WHATEVER THE INPUT: true; the input reads as it did. -/
def topMappedSpec : ChangeSpec := { name := "topMapped", fn := fun _ => fun
  | [d1, d2, d3, d4] => { results := [.lit (.bool true)], args := [d1, d2, d3, d4] }
  | _ => none }
def topMappedRow : OpenClaim := { program := "ytcffeepgfjpcaaagreat", sum := "f7909704547de3f64f67ea9c999717061267a115346527ed086df3826f9a0227", func := "palmer/palmertop.TopMapped", spec := "topMapped", inPlace := ["internal/bytealg.Compare", "slices.overlaps[int]", "internal/bytealg.IndexByteString", "math/bits.Add64"], unfollowed := true, recurses := true, apart := false }
def TopMappedSaid : Prop := topMappedRow.holds Tryz.pinned (OpenSpec.ofChange topMappedSpec)

/-- ITS FALSE NEIGHBOUR: 'it returns false'. Refute it at one input. -/
def topMappedWrong : ChangeSpec := { name := "topMapped", fn := fun _ => fun
  | [d1, d2, d3, d4] => { results := [.lit (.bool false)], args := [d1, d2, d3, d4] }
  | _ => none }
def TopMappedWrongFalsely : Prop := topMappedRow.holds Tryz.pinned (OpenSpec.ofChange topMappedWrong)

/- THE SECOND FORM. 'bulk': how many values and letters a reading holds, each counted each time it is reached (what is shared counts as often as it is met; a slice's spare places count too). A statement '..UptoSaid' is the law's where the arguments, and the package variables that the reading takes, are together of bulk at most 1048576: NARROWER than '..Said'. Prove '..Said' where nothing that the law and all that it calls make is longer than what came in: it says more and counts as full. Else prove '..UptoSaid'. A law counts once. -/
mutual
def uptoBulk {H : Type} : DataW H → Nat
  | .lit (.string bytes) => bytes.length + 1
  | .lit _ => 1
  | .nil => 1
  | .ptr d => uptoBulk d + 1
  | .slice elems spare => uptoBulkAll elems + uptoBulkAll spare + 1
  | .agg parts => uptoBulkAll parts + 1
  | .iface _ d => uptoBulk d + 1
  | .map entries => uptoBulkEntries entries + 1
  | .held _ => 1
def uptoBulkAll {H : Type} : List (DataW H) → Nat
  | [] => 0
  | d :: r => uptoBulk d + uptoBulkAll r
def uptoBulkEntries {H : Type} : List (Lit × DataW H) → Nat
  | [] => 0
  | x :: r => uptoBulkEntry x + uptoBulkEntries r
def uptoBulkEntry {H : Type} : Lit × DataW H → Nat
  | (.string bytes, d) => bytes.length + uptoBulk d + 1
  | (_, d) => uptoBulk d + 1
 end
def uptoSmall : (H : Type) → List (DataW H) → Bool := fun _ ds => decide (uptoBulkAll ds ≤ 1048576)
def OpenSpec.upto (s : _root_.Go.ChangeSpec) : _root_.Go.OpenSpec := { _root_.Go.OpenSpec.ofChange s with cond := some uptoSmall }

/-- 'palmertop.TopTape', WHERE WHAT IT READS IS OF BULK AT MOST 1048576: true; the input reads as it did. -/
def topTapeUptoRow : OpenClaim := { program := "ytcffeepgfjpcaaagreat", sum := "f7909704547de3f64f67ea9c999717061267a115346527ed086df3826f9a0227", func := "palmer/palmertop.TopTape", spec := "topTape", inPlace := ["internal/bytealg.Compare", "slices.overlaps[int]"], unfollowed := true, recurses := true, apart := false, narrowed := true }
def TopTapeUptoSaid : Prop := topTapeUptoRow.holds Tryz.pinned (OpenSpec.upto topTapeSpec)

/-- 'palmertop.TopSecond', WHERE WHAT IT READS IS OF BULK AT MOST 1048576: true; the input reads as it did. -/
def topSecondUptoRow : OpenClaim := { program := "ytcffeepgfjpcaaagreat", sum := "f7909704547de3f64f67ea9c999717061267a115346527ed086df3826f9a0227", func := "palmer/palmertop.TopSecond", spec := "topSecond", inPlace := ["internal/bytealg.Compare", "slices.overlaps[int]", "internal/bytealg.IndexByteString", "math/bits.Add64"], unfollowed := true, recurses := true, apart := false, narrowed := true }
def TopSecondUptoSaid : Prop := topSecondUptoRow.holds Tryz.pinned (OpenSpec.upto topSecondSpec)

/-- 'palmertop.TopDraws', WHERE WHAT IT READS IS OF BULK AT MOST 1048576: true; the input reads as it did. -/
def topDrawsUptoRow : OpenClaim := { program := "ytcffeepgfjpcaaagreat", sum := "f7909704547de3f64f67ea9c999717061267a115346527ed086df3826f9a0227", func := "palmer/palmertop.TopDraws", spec := "topDraws", inPlace := ["internal/bytealg.Compare", "slices.overlaps[int]", "internal/bytealg.IndexByteString", "math/bits.Add64"], unfollowed := true, recurses := true, apart := false, narrowed := true }
def TopDrawsUptoSaid : Prop := topDrawsUptoRow.holds Tryz.pinned (OpenSpec.upto topDrawsSpec)

/-- 'palmertop.TopMapped', WHERE WHAT IT READS IS OF BULK AT MOST 1048576: true; the input reads as it did. -/
def topMappedUptoRow : OpenClaim := { program := "ytcffeepgfjpcaaagreat", sum := "f7909704547de3f64f67ea9c999717061267a115346527ed086df3826f9a0227", func := "palmer/palmertop.TopMapped", spec := "topMapped", inPlace := ["internal/bytealg.Compare", "slices.overlaps[int]", "internal/bytealg.IndexByteString", "math/bits.Add64"], unfollowed := true, recurses := true, apart := false, narrowed := true }
def TopMappedUptoSaid : Prop := topMappedUptoRow.holds Tryz.pinned (OpenSpec.upto topMappedSpec)

end Rows
end Go.Proofs.YtcffeepgfjpcaaaGreat
