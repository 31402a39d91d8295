/-
  No cell of these rows narrows 'for every input' (looked for: loops, veiled, ifaces, maps, wideKeys, modest, calm, conditions, laid).
  DERIVED. THE GIVEN ROWS OF THIS SEAT. 8 by the template 'for every input the law returns true; each argument reads behind the call as it read before'; 0 by the template 'total and deterministic' (their statements: YthfnikdapknohaaTotals.lean).
  GIVEN WITH THE SEED: the statements are not yours to turn. If you find one false, say at which input.
  Laid BY PROGRAM, IN A SANDBOX (cutbox-rows.mjs): the forced cells as the released guide's own fill.sh prints them over the translation ad2b10183157ef29… (all of the seat's roots in one cut). By AI agents, Wed Nov 11 2026. No macro, syntax, notation, axiom, sorry.
-/
import Derived.Test.YthfnikdapknohaaChecked
import GoSem.Claim
import GoSem.ClaimJoined
import GoSem.ClaimMapViews
import Derived.JoinedTies
import Derived.KernelRfl
namespace Go.Proofs.Ythfnikdapknohaa
/- THE CELL 'sum', in the pinned program and in every row, IS THE sha256 OF THE DUMP (.gsa) THAT YthfnikdapknohaaProg.lean LOADS. Nothing in Lean hashes anything: it is a label: what it is worth is what the hold of that sum in a sandbox is worth. -/
noncomputable def Try.pinned : Pinned := { name := "ythfnikdapknohaa", sum := "ad2b10183157ef294debeee4c2197195c01ddfcd2686ce13a5e9899585993805", checked := Try.checked }
namespace Rows
def none {H : Type} : Left H := { results := [], args := [] }

/-- 'palmerlaw23.ShardPuts': WHATEVER THE INPUT: true; the input reads as it did. -/
def shardPutsSpec : ChangeSpec := { name := "shardPuts", fn := fun _ => fun
  | [d] => { results := [.lit (.bool true)], args := [d] }
  | _ => none }
def shardPutsRow : OpenClaim := { program := "ythfnikdapknohaa", sum := "ad2b10183157ef294debeee4c2197195c01ddfcd2686ce13a5e9899585993805", func := "palmer/palmerlaw23.ShardPuts", spec := "shardPuts", inPlace := ["slices.overlaps[int]"], unfollowed := true, recurses := true, apart := false }
def ShardPutsSaid : Prop := shardPutsRow.holds Try.pinned (OpenSpec.ofChange shardPutsSpec)

/-- ITS FALSE NEIGHBOUR: 'it returns false'. Refute it at one input. -/
def shardPutsWrong : ChangeSpec := { name := "shardPuts", fn := fun _ => fun
  | [d] => { results := [.lit (.bool false)], args := [d] }
  | _ => none }
def ShardPutsWrongFalsely : Prop := shardPutsRow.holds Try.pinned (OpenSpec.ofChange shardPutsWrong)

/-- 'palmerlaw23.ShardReads': WHATEVER THE INPUT: true; the input reads as it did. -/
def shardReadsSpec : ChangeSpec := { name := "shardReads", fn := fun _ => fun
  | [d] => { results := [.lit (.bool true)], args := [d] }
  | _ => none }
def shardReadsRow : OpenClaim := { program := "ythfnikdapknohaa", sum := "ad2b10183157ef294debeee4c2197195c01ddfcd2686ce13a5e9899585993805", func := "palmer/palmerlaw23.ShardReads", spec := "shardReads", inPlace := ["slices.overlaps[int]"], unfollowed := true, recurses := true, apart := false }
def ShardReadsSaid : Prop := shardReadsRow.holds Try.pinned (OpenSpec.ofChange shardReadsSpec)

/-- ITS FALSE NEIGHBOUR: 'it returns false'. Refute it at one input. -/
def shardReadsWrong : ChangeSpec := { name := "shardReads", fn := fun _ => fun
  | [d] => { results := [.lit (.bool false)], args := [d] }
  | _ => none }
def ShardReadsWrongFalsely : Prop := shardReadsRow.holds Try.pinned (OpenSpec.ofChange shardReadsWrong)

/-- 'palmerlaw23.ShardTurned': WHATEVER THE INPUT: true; the input reads as it did. -/
def shardTurnedSpec : ChangeSpec := { name := "shardTurned", fn := fun _ => fun
  | [d1, d2, d3, d4, d5] => { results := [.lit (.bool true)], args := [d1, d2, d3, d4, d5] }
  | _ => none }
def shardTurnedRow : OpenClaim := { program := "ythfnikdapknohaa", sum := "ad2b10183157ef294debeee4c2197195c01ddfcd2686ce13a5e9899585993805", func := "palmer/palmerlaw23.ShardTurned", spec := "shardTurned", inPlace := ["slices.overlaps[int]"], unfollowed := true, recurses := true, apart := false }
def ShardTurnedSaid : Prop := shardTurnedRow.holds Try.pinned (OpenSpec.ofChange shardTurnedSpec)

/-- ITS FALSE NEIGHBOUR: 'it returns false'. Refute it at one input. -/
def shardTurnedWrong : ChangeSpec := { name := "shardTurned", fn := fun _ => fun
  | [d1, d2, d3, d4, d5] => { results := [.lit (.bool false)], args := [d1, d2, d3, d4, d5] }
  | _ => none }
def ShardTurnedWrongFalsely : Prop := shardTurnedRow.holds Try.pinned (OpenSpec.ofChange shardTurnedWrong)

/-- 'palmerlaw23.ShardIndex': WHATEVER THE INPUT: true; the input reads as it did. -/
def shardIndexSpec : ChangeSpec := { name := "shardIndex", fn := fun _ => fun
  | [d1, d2] => { results := [.lit (.bool true)], args := [d1, d2] }
  | _ => none }
def shardIndexRow : OpenClaim := { program := "ythfnikdapknohaa", sum := "ad2b10183157ef294debeee4c2197195c01ddfcd2686ce13a5e9899585993805", func := "palmer/palmerlaw23.ShardIndex", spec := "shardIndex", inPlace := ["slices.overlaps[int]"], unfollowed := true, recurses := true, apart := false }
def ShardIndexSaid : Prop := shardIndexRow.holds Try.pinned (OpenSpec.ofChange shardIndexSpec)

/-- ITS FALSE NEIGHBOUR: 'it returns false'. Refute it at one input. -/
def shardIndexWrong : ChangeSpec := { name := "shardIndex", fn := fun _ => fun
  | [d1, d2] => { results := [.lit (.bool false)], args := [d1, d2] }
  | _ => none }
def ShardIndexWrongFalsely : Prop := shardIndexRow.holds Try.pinned (OpenSpec.ofChange shardIndexWrong)

/-- 'palmerlaw23.ShardCuts': WHATEVER THE INPUT: true; the input reads as it did. -/
def shardCutsSpec : ChangeSpec := { name := "shardCuts", fn := fun _ => fun
  | [d1, d2] => { results := [.lit (.bool true)], args := [d1, d2] }
  | _ => none }
def shardCutsRow : OpenClaim := { program := "ythfnikdapknohaa", sum := "ad2b10183157ef294debeee4c2197195c01ddfcd2686ce13a5e9899585993805", func := "palmer/palmerlaw23.ShardCuts", spec := "shardCuts", inPlace := ["slices.overlaps[int]"], unfollowed := true, recurses := true, apart := false }
def ShardCutsSaid : Prop := shardCutsRow.holds Try.pinned (OpenSpec.ofChange shardCutsSpec)

/-- ITS FALSE NEIGHBOUR: 'it returns false'. Refute it at one input. -/
def shardCutsWrong : ChangeSpec := { name := "shardCuts", fn := fun _ => fun
  | [d1, d2] => { results := [.lit (.bool false)], args := [d1, d2] }
  | _ => none }
def ShardCutsWrongFalsely : Prop := shardCutsRow.holds Try.pinned (OpenSpec.ofChange shardCutsWrong)

/-- 'palmerlaw23.ShardFinds': WHATEVER THE INPUT: true; the input reads as it did. -/
def shardFindsSpec : ChangeSpec := { name := "shardFinds", fn := fun _ => fun
  | [d1, d2] => { results := [.lit (.bool true)], args := [d1, d2] }
  | _ => none }
def shardFindsRow : OpenClaim := { program := "ythfnikdapknohaa", sum := "ad2b10183157ef294debeee4c2197195c01ddfcd2686ce13a5e9899585993805", func := "palmer/palmerlaw23.ShardFinds", spec := "shardFinds", inPlace := ["slices.overlaps[int]"], unfollowed := true, recurses := true, apart := false }
def ShardFindsSaid : Prop := shardFindsRow.holds Try.pinned (OpenSpec.ofChange shardFindsSpec)

/-- ITS FALSE NEIGHBOUR: 'it returns false'. Refute it at one input. -/
def shardFindsWrong : ChangeSpec := { name := "shardFinds", fn := fun _ => fun
  | [d1, d2] => { results := [.lit (.bool false)], args := [d1, d2] }
  | _ => none }
def ShardFindsWrongFalsely : Prop := shardFindsRow.holds Try.pinned (OpenSpec.ofChange shardFindsWrong)

/-- 'palmerlaw23.ShardRows': WHATEVER THE INPUT: true; the input reads as it did. -/
def shardRowsSpec : ChangeSpec := { name := "shardRows", fn := fun _ => fun
  | [d1, d2] => { results := [.lit (.bool true)], args := [d1, d2] }
  | _ => none }
def shardRowsRow : OpenClaim := { program := "ythfnikdapknohaa", sum := "ad2b10183157ef294debeee4c2197195c01ddfcd2686ce13a5e9899585993805", func := "palmer/palmerlaw23.ShardRows", spec := "shardRows", inPlace := ["slices.overlaps[int]"], unfollowed := true, recurses := true, apart := false }
def ShardRowsSaid : Prop := shardRowsRow.holds Try.pinned (OpenSpec.ofChange shardRowsSpec)

/-- ITS FALSE NEIGHBOUR: 'it returns false'. Refute it at one input. -/
def shardRowsWrong : ChangeSpec := { name := "shardRows", fn := fun _ => fun
  | [d1, d2] => { results := [.lit (.bool false)], args := [d1, d2] }
  | _ => none }
def ShardRowsWrongFalsely : Prop := shardRowsRow.holds Try.pinned (OpenSpec.ofChange shardRowsWrong)

/-- 'palmerlaw23.ShardWhole': WHATEVER THE INPUT: true; the input reads as it did. -/
def shardWholeSpec : ChangeSpec := { name := "shardWhole", fn := fun _ => fun
  | [d1, d2] => { results := [.lit (.bool true)], args := [d1, d2] }
  | _ => none }
def shardWholeRow : OpenClaim := { program := "ythfnikdapknohaa", sum := "ad2b10183157ef294debeee4c2197195c01ddfcd2686ce13a5e9899585993805", func := "palmer/palmerlaw23.ShardWhole", spec := "shardWhole", inPlace := ["slices.overlaps[int]"], unfollowed := true, recurses := true, apart := false }
def ShardWholeSaid : Prop := shardWholeRow.holds Try.pinned (OpenSpec.ofChange shardWholeSpec)

/-- ITS FALSE NEIGHBOUR: 'it returns false'. Refute it at one input. -/
def shardWholeWrong : ChangeSpec := { name := "shardWhole", fn := fun _ => fun
  | [d1, d2] => { results := [.lit (.bool false)], args := [d1, d2] }
  | _ => none }
def ShardWholeWrongFalsely : Prop := shardWholeRow.holds Try.pinned (OpenSpec.ofChange shardWholeWrong)

/- THE SECOND FORM. 'bulk': how many values and letters a reading holds, each counted each time it is reached (what is shared counts as often as it is met; a slice's spare places count too). A statement '..UptoSaid' is the law's where the arguments, and the package variables that the reading takes, are together of bulk at most 1048576: NARROWER than '..Said'. Prove '..Said' where nothing that the law and all that it calls make is longer than what came in: it says more and counts as full. Else prove '..UptoSaid'. A law counts once. -/
mutual
def uptoBulk {H : Type} : DataW H → Nat
  | .lit (.string bytes) => bytes.length + 1
  | .lit _ => 1
  | .nil => 1
  | .ptr d => uptoBulk d + 1
  | .slice elems spare => uptoBulkAll elems + uptoBulkAll spare + 1
  | .agg parts => uptoBulkAll parts + 1
  | .iface _ d => uptoBulk d + 1
  | .map entries => uptoBulkEntries entries + 1
  | .held _ => 1
def uptoBulkAll {H : Type} : List (DataW H) → Nat
  | [] => 0
  | d :: r => uptoBulk d + uptoBulkAll r
def uptoBulkEntries {H : Type} : List (Lit × DataW H) → Nat
  | [] => 0
  | x :: r => uptoBulkEntry x + uptoBulkEntries r
def uptoBulkEntry {H : Type} : Lit × DataW H → Nat
  | (.string bytes, d) => bytes.length + uptoBulk d + 1
  | (_, d) => uptoBulk d + 1
 end
def uptoSmall : (H : Type) → List (DataW H) → Bool := fun _ ds => decide (uptoBulkAll ds ≤ 1048576)
def OpenSpec.upto (s : _root_.Go.ChangeSpec) : _root_.Go.OpenSpec := { _root_.Go.OpenSpec.ofChange s with cond := some uptoSmall }

/-- 'palmerlaw23.ShardPuts', WHERE WHAT IT READS IS OF BULK AT MOST 1048576: true; the input reads as it did. -/
def shardPutsUptoRow : OpenClaim := { program := "ythfnikdapknohaa", sum := "ad2b10183157ef294debeee4c2197195c01ddfcd2686ce13a5e9899585993805", func := "palmer/palmerlaw23.ShardPuts", spec := "shardPuts", inPlace := ["slices.overlaps[int]"], unfollowed := true, recurses := true, apart := false, narrowed := true }
def ShardPutsUptoSaid : Prop := shardPutsUptoRow.holds Try.pinned (OpenSpec.upto shardPutsSpec)

/-- 'palmerlaw23.ShardReads', WHERE WHAT IT READS IS OF BULK AT MOST 1048576: true; the input reads as it did. -/
def shardReadsUptoRow : OpenClaim := { program := "ythfnikdapknohaa", sum := "ad2b10183157ef294debeee4c2197195c01ddfcd2686ce13a5e9899585993805", func := "palmer/palmerlaw23.ShardReads", spec := "shardReads", inPlace := ["slices.overlaps[int]"], unfollowed := true, recurses := true, apart := false, narrowed := true }
def ShardReadsUptoSaid : Prop := shardReadsUptoRow.holds Try.pinned (OpenSpec.upto shardReadsSpec)

/-- 'palmerlaw23.ShardTurned', WHERE WHAT IT READS IS OF BULK AT MOST 1048576: true; the input reads as it did. -/
def shardTurnedUptoRow : OpenClaim := { program := "ythfnikdapknohaa", sum := "ad2b10183157ef294debeee4c2197195c01ddfcd2686ce13a5e9899585993805", func := "palmer/palmerlaw23.ShardTurned", spec := "shardTurned", inPlace := ["slices.overlaps[int]"], unfollowed := true, recurses := true, apart := false, narrowed := true }
def ShardTurnedUptoSaid : Prop := shardTurnedUptoRow.holds Try.pinned (OpenSpec.upto shardTurnedSpec)

/-- 'palmerlaw23.ShardIndex', WHERE WHAT IT READS IS OF BULK AT MOST 1048576: true; the input reads as it did. -/
def shardIndexUptoRow : OpenClaim := { program := "ythfnikdapknohaa", sum := "ad2b10183157ef294debeee4c2197195c01ddfcd2686ce13a5e9899585993805", func := "palmer/palmerlaw23.ShardIndex", spec := "shardIndex", inPlace := ["slices.overlaps[int]"], unfollowed := true, recurses := true, apart := false, narrowed := true }
def ShardIndexUptoSaid : Prop := shardIndexUptoRow.holds Try.pinned (OpenSpec.upto shardIndexSpec)

/-- 'palmerlaw23.ShardCuts', WHERE WHAT IT READS IS OF BULK AT MOST 1048576: true; the input reads as it did. -/
def shardCutsUptoRow : OpenClaim := { program := "ythfnikdapknohaa", sum := "ad2b10183157ef294debeee4c2197195c01ddfcd2686ce13a5e9899585993805", func := "palmer/palmerlaw23.ShardCuts", spec := "shardCuts", inPlace := ["slices.overlaps[int]"], unfollowed := true, recurses := true, apart := false, narrowed := true }
def ShardCutsUptoSaid : Prop := shardCutsUptoRow.holds Try.pinned (OpenSpec.upto shardCutsSpec)

/-- 'palmerlaw23.ShardFinds', WHERE WHAT IT READS IS OF BULK AT MOST 1048576: true; the input reads as it did. -/
def shardFindsUptoRow : OpenClaim := { program := "ythfnikdapknohaa", sum := "ad2b10183157ef294debeee4c2197195c01ddfcd2686ce13a5e9899585993805", func := "palmer/palmerlaw23.ShardFinds", spec := "shardFinds", inPlace := ["slices.overlaps[int]"], unfollowed := true, recurses := true, apart := false, narrowed := true }
def ShardFindsUptoSaid : Prop := shardFindsUptoRow.holds Try.pinned (OpenSpec.upto shardFindsSpec)

/-- 'palmerlaw23.ShardRows', WHERE WHAT IT READS IS OF BULK AT MOST 1048576: true; the input reads as it did. -/
def shardRowsUptoRow : OpenClaim := { program := "ythfnikdapknohaa", sum := "ad2b10183157ef294debeee4c2197195c01ddfcd2686ce13a5e9899585993805", func := "palmer/palmerlaw23.ShardRows", spec := "shardRows", inPlace := ["slices.overlaps[int]"], unfollowed := true, recurses := true, apart := false, narrowed := true }
def ShardRowsUptoSaid : Prop := shardRowsUptoRow.holds Try.pinned (OpenSpec.upto shardRowsSpec)

/-- 'palmerlaw23.ShardWhole', WHERE WHAT IT READS IS OF BULK AT MOST 1048576: true; the input reads as it did. -/
def shardWholeUptoRow : OpenClaim := { program := "ythfnikdapknohaa", sum := "ad2b10183157ef294debeee4c2197195c01ddfcd2686ce13a5e9899585993805", func := "palmer/palmerlaw23.ShardWhole", spec := "shardWhole", inPlace := ["slices.overlaps[int]"], unfollowed := true, recurses := true, apart := false, narrowed := true }
def ShardWholeUptoSaid : Prop := shardWholeUptoRow.holds Try.pinned (OpenSpec.upto shardWholeSpec)

end Rows
end Go.Proofs.Ythfnikdapknohaa
