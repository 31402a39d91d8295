/-
  No cell of these rows narrows 'for every input' (looked for: loops, veiled, ifaces, maps, wideKeys, modest, calm, conditions, laid).
  DERIVED. THE GIVEN ROWS OF THIS SEAT. 17 by the template 'for every input the law returns true; each argument reads behind the call as it read before'; 0 by the template 'total and deterministic' (their statements: YteakeefocnjlhaaTotals.lean).
  GIVEN WITH THE SEED: the statements are not yours to turn. If you find one false, say at which input.
  Laid BY PROGRAM, IN A SANDBOX (cutbox-rows.mjs): the forced cells as the released guide's own fill.sh prints them over the translation a114b0b2d3a17eb5… (all of the seat's roots in one cut). By AI agents, Wed Nov 11 2026. No macro, syntax, notation, axiom, sorry.
-/
import Derived.Test.YteakeefocnjlhaaChecked
import GoSem.Claim
import GoSem.ClaimJoined
import GoSem.ClaimMapViews
import Derived.JoinedTies
import Derived.KernelRfl
namespace Go.Proofs.Yteakeefocnjlhaa
/- THE CELL 'sum', in the pinned program and in every row, IS THE sha256 OF THE DUMP (.gsa) THAT YteakeefocnjlhaaProg.lean LOADS. Nothing in Lean hashes anything: it is a label: what it is worth is what the hold of that sum in a sandbox is worth. -/
noncomputable def Try.pinned : Pinned := { name := "yteakeefocnjlhaa", sum := "a114b0b2d3a17eb590cc4cde7642f14b7a1b1cf4fad2d9c879d1fdcc2b96a69f", checked := Try.checked }
namespace Rows
def none {H : Type} : Left H := { results := [], args := [] }

/-- 'palmerlaw03.VarintOne': WHATEVER THE INPUT: true; the input reads as it did. -/
def varintOneSpec : ChangeSpec := { name := "varintOne", fn := fun _ => fun
  | [d] => { results := [.lit (.bool true)], args := [d] }
  | _ => none }
def varintOneRow : OpenClaim := { program := "yteakeefocnjlhaa", sum := "a114b0b2d3a17eb590cc4cde7642f14b7a1b1cf4fad2d9c879d1fdcc2b96a69f", func := "palmer/palmerlaw03.VarintOne", spec := "varintOne", apart := false }
def VarintOneSaid : Prop := varintOneRow.holds Try.pinned (OpenSpec.ofChange varintOneSpec)

/-- ITS FALSE NEIGHBOUR: 'it returns false'. Refute it at one input. -/
def varintOneWrong : ChangeSpec := { name := "varintOne", fn := fun _ => fun
  | [d] => { results := [.lit (.bool false)], args := [d] }
  | _ => none }
def VarintOneWrongFalsely : Prop := varintOneRow.holds Try.pinned (OpenSpec.ofChange varintOneWrong)

/-- 'palmerlaw04.GapsFinds': WHATEVER THE INPUT: true; the input reads as it did. -/
def gapsFindsSpec : ChangeSpec := { name := "gapsFinds", fn := fun _ => fun
  | [d1, d2] => { results := [.lit (.bool true)], args := [d1, d2] }
  | _ => none }
def gapsFindsRow : OpenClaim := { program := "yteakeefocnjlhaa", sum := "a114b0b2d3a17eb590cc4cde7642f14b7a1b1cf4fad2d9c879d1fdcc2b96a69f", func := "palmer/palmerlaw04.GapsFinds", spec := "gapsFinds", unfollowed := true, recurses := true, apart := false }
def GapsFindsSaid : Prop := gapsFindsRow.holds Try.pinned (OpenSpec.ofChange gapsFindsSpec)

/-- ITS FALSE NEIGHBOUR: 'it returns false'. Refute it at one input. -/
def gapsFindsWrong : ChangeSpec := { name := "gapsFinds", fn := fun _ => fun
  | [d1, d2] => { results := [.lit (.bool false)], args := [d1, d2] }
  | _ => none }
def GapsFindsWrongFalsely : Prop := gapsFindsRow.holds Try.pinned (OpenSpec.ofChange gapsFindsWrong)

/-- 'palmerlaw03.VarintNil': WHATEVER THE INPUT: true; the input reads as it did. -/
def varintNilSpec : ChangeSpec := { name := "varintNil", fn := fun _ => fun
  | [d1, d2] => { results := [.lit (.bool true)], args := [d1, d2] }
  | _ => none }
def varintNilRow : OpenClaim := { program := "yteakeefocnjlhaa", sum := "a114b0b2d3a17eb590cc4cde7642f14b7a1b1cf4fad2d9c879d1fdcc2b96a69f", func := "palmer/palmerlaw03.VarintNil", spec := "varintNil", apart := false }
def VarintNilSaid : Prop := varintNilRow.holds Try.pinned (OpenSpec.ofChange varintNilSpec)

/-- ITS FALSE NEIGHBOUR: 'it returns false'. Refute it at one input. -/
def varintNilWrong : ChangeSpec := { name := "varintNil", fn := fun _ => fun
  | [d1, d2] => { results := [.lit (.bool false)], args := [d1, d2] }
  | _ => none }
def VarintNilWrongFalsely : Prop := varintNilRow.holds Try.pinned (OpenSpec.ofChange varintNilWrong)

/-- 'palmerlaw03.VarintReads': WHATEVER THE INPUT: true; the input reads as it did. -/
def varintReadsSpec : ChangeSpec := { name := "varintReads", fn := fun _ => fun
  | [d1, d2] => { results := [.lit (.bool true)], args := [d1, d2] }
  | _ => none }
def varintReadsRow : OpenClaim := { program := "yteakeefocnjlhaa", sum := "a114b0b2d3a17eb590cc4cde7642f14b7a1b1cf4fad2d9c879d1fdcc2b96a69f", func := "palmer/palmerlaw03.VarintReads", spec := "varintReads", apart := false }
def VarintReadsSaid : Prop := varintReadsRow.holds Try.pinned (OpenSpec.ofChange varintReadsSpec)

/-- ITS FALSE NEIGHBOUR: 'it returns false'. Refute it at one input. -/
def varintReadsWrong : ChangeSpec := { name := "varintReads", fn := fun _ => fun
  | [d1, d2] => { results := [.lit (.bool false)], args := [d1, d2] }
  | _ => none }
def VarintReadsWrongFalsely : Prop := varintReadsRow.holds Try.pinned (OpenSpec.ofChange varintReadsWrong)

/-- 'palmerlaw03.VarintPuts': WHATEVER THE INPUT: true; the input reads as it did. -/
def varintPutsSpec : ChangeSpec := { name := "varintPuts", fn := fun _ => fun
  | [d1, d2, d3] => { results := [.lit (.bool true)], args := [d1, d2, d3] }
  | _ => none }
def varintPutsRow : OpenClaim := { program := "yteakeefocnjlhaa", sum := "a114b0b2d3a17eb590cc4cde7642f14b7a1b1cf4fad2d9c879d1fdcc2b96a69f", func := "palmer/palmerlaw03.VarintPuts", spec := "varintPuts", recurses := true, apart := false }
def VarintPutsSaid : Prop := varintPutsRow.holds Try.pinned (OpenSpec.ofChange varintPutsSpec)

/-- ITS FALSE NEIGHBOUR: 'it returns false'. Refute it at one input. -/
def varintPutsWrong : ChangeSpec := { name := "varintPuts", fn := fun _ => fun
  | [d1, d2, d3] => { results := [.lit (.bool false)], args := [d1, d2, d3] }
  | _ => none }
def VarintPutsWrongFalsely : Prop := varintPutsRow.holds Try.pinned (OpenSpec.ofChange varintPutsWrong)

/-- 'palmerlaw04.GapsReads': WHATEVER THE INPUT: true; the input reads as it did. -/
def gapsReadsSpec : ChangeSpec := { name := "gapsReads", fn := fun _ => fun
  | [d] => { results := [.lit (.bool true)], args := [d] }
  | _ => none }
def gapsReadsRow : OpenClaim := { program := "yteakeefocnjlhaa", sum := "a114b0b2d3a17eb590cc4cde7642f14b7a1b1cf4fad2d9c879d1fdcc2b96a69f", func := "palmer/palmerlaw04.GapsReads", spec := "gapsReads", apart := false }
def GapsReadsSaid : Prop := gapsReadsRow.holds Try.pinned (OpenSpec.ofChange gapsReadsSpec)

/-- ITS FALSE NEIGHBOUR: 'it returns false'. Refute it at one input. -/
def gapsReadsWrong : ChangeSpec := { name := "gapsReads", fn := fun _ => fun
  | [d] => { results := [.lit (.bool false)], args := [d] }
  | _ => none }
def GapsReadsWrongFalsely : Prop := gapsReadsRow.holds Try.pinned (OpenSpec.ofChange gapsReadsWrong)

/-- 'palmerlaw17.PickRises': WHATEVER THE INPUT: true; the input reads as it did. -/
def pickRisesSpec : ChangeSpec := { name := "pickRises", fn := fun _ => fun
  | [d1, d2, d3, d4] => { results := [.lit (.bool true)], args := [d1, d2, d3, d4] }
  | _ => none }
def pickRisesRow : OpenClaim := { program := "yteakeefocnjlhaa", sum := "a114b0b2d3a17eb590cc4cde7642f14b7a1b1cf4fad2d9c879d1fdcc2b96a69f", func := "palmer/palmerlaw17.PickRises", spec := "pickRises", unfollowed := true, recurses := true, apart := false }
def PickRisesSaid : Prop := pickRisesRow.holds Try.pinned (OpenSpec.ofChange pickRisesSpec)

/-- ITS FALSE NEIGHBOUR: 'it returns false'. Refute it at one input. -/
def pickRisesWrong : ChangeSpec := { name := "pickRises", fn := fun _ => fun
  | [d1, d2, d3, d4] => { results := [.lit (.bool false)], args := [d1, d2, d3, d4] }
  | _ => none }
def PickRisesWrongFalsely : Prop := pickRisesRow.holds Try.pinned (OpenSpec.ofChange pickRisesWrong)

/-- 'palmerlaw04.GapsPuts': WHATEVER THE INPUT: true; the input reads as it did. -/
def gapsPutsSpec : ChangeSpec := { name := "gapsPuts", fn := fun _ => fun
  | [d1, d2] => { results := [.lit (.bool true)], args := [d1, d2] }
  | _ => none }
def gapsPutsRow : OpenClaim := { program := "yteakeefocnjlhaa", sum := "a114b0b2d3a17eb590cc4cde7642f14b7a1b1cf4fad2d9c879d1fdcc2b96a69f", func := "palmer/palmerlaw04.GapsPuts", spec := "gapsPuts", recurses := true, apart := false }
def GapsPutsSaid : Prop := gapsPutsRow.holds Try.pinned (OpenSpec.ofChange gapsPutsSpec)

/-- ITS FALSE NEIGHBOUR: 'it returns false'. Refute it at one input. -/
def gapsPutsWrong : ChangeSpec := { name := "gapsPuts", fn := fun _ => fun
  | [d1, d2] => { results := [.lit (.bool false)], args := [d1, d2] }
  | _ => none }
def GapsPutsWrongFalsely : Prop := gapsPutsRow.holds Try.pinned (OpenSpec.ofChange gapsPutsWrong)

/-- 'palmerlaw17.PickRemaps': WHATEVER THE INPUT: true; the input reads as it did. -/
def pickRemapsSpec : ChangeSpec := { name := "pickRemaps", fn := fun _ => fun
  | [d1, d2, d3] => { results := [.lit (.bool true)], args := [d1, d2, d3] }
  | _ => none }
def pickRemapsRow : OpenClaim := { program := "yteakeefocnjlhaa", sum := "a114b0b2d3a17eb590cc4cde7642f14b7a1b1cf4fad2d9c879d1fdcc2b96a69f", func := "palmer/palmerlaw17.PickRemaps", spec := "pickRemaps", unfollowed := true, recurses := true, apart := false }
def PickRemapsSaid : Prop := pickRemapsRow.holds Try.pinned (OpenSpec.ofChange pickRemapsSpec)

/-- ITS FALSE NEIGHBOUR: 'it returns false'. Refute it at one input. -/
def pickRemapsWrong : ChangeSpec := { name := "pickRemaps", fn := fun _ => fun
  | [d1, d2, d3] => { results := [.lit (.bool false)], args := [d1, d2, d3] }
  | _ => none }
def PickRemapsWrongFalsely : Prop := pickRemapsRow.holds Try.pinned (OpenSpec.ofChange pickRemapsWrong)

/-- 'palmerlaw17.PickOnto': WHATEVER THE INPUT: true; the input reads as it did. -/
def pickOntoSpec : ChangeSpec := { name := "pickOnto", fn := fun _ => fun
  | [d1, d2, d3] => { results := [.lit (.bool true)], args := [d1, d2, d3] }
  | _ => none }
def pickOntoRow : OpenClaim := { program := "yteakeefocnjlhaa", sum := "a114b0b2d3a17eb590cc4cde7642f14b7a1b1cf4fad2d9c879d1fdcc2b96a69f", func := "palmer/palmerlaw17.PickOnto", spec := "pickOnto", unfollowed := true, recurses := true, apart := false }
def PickOntoSaid : Prop := pickOntoRow.holds Try.pinned (OpenSpec.ofChange pickOntoSpec)

/-- ITS FALSE NEIGHBOUR: 'it returns false'. Refute it at one input. -/
def pickOntoWrong : ChangeSpec := { name := "pickOnto", fn := fun _ => fun
  | [d1, d2, d3] => { results := [.lit (.bool false)], args := [d1, d2, d3] }
  | _ => none }
def PickOntoWrongFalsely : Prop := pickOntoRow.holds Try.pinned (OpenSpec.ofChange pickOntoWrong)

/-- 'palmerlaw16.AliasOne': WHATEVER THE INPUT: true; the input reads as it did. -/
def aliasOneSpec : ChangeSpec := { name := "aliasOne", fn := fun _ => fun
  | [d] => { results := [.lit (.bool true)], args := [d] }
  | _ => none }
def aliasOneRow : OpenClaim := { program := "yteakeefocnjlhaa", sum := "a114b0b2d3a17eb590cc4cde7642f14b7a1b1cf4fad2d9c879d1fdcc2b96a69f", func := "palmer/palmerlaw16.AliasOne", spec := "aliasOne", inPlace := ["slices.overlaps[int]"], apart := false }
def AliasOneSaid : Prop := aliasOneRow.holds Try.pinned (OpenSpec.ofChange aliasOneSpec)

/-- ITS FALSE NEIGHBOUR: 'it returns false'. Refute it at one input. -/
def aliasOneWrong : ChangeSpec := { name := "aliasOne", fn := fun _ => fun
  | [d] => { results := [.lit (.bool false)], args := [d] }
  | _ => none }
def AliasOneWrongFalsely : Prop := aliasOneRow.holds Try.pinned (OpenSpec.ofChange aliasOneWrong)

/-- 'palmerlaw16.AliasCounts': WHATEVER THE INPUT: true; the input reads as it did. -/
def aliasCountsSpec : ChangeSpec := { name := "aliasCounts", fn := fun _ => fun
  | [d] => { results := [.lit (.bool true)], args := [d] }
  | _ => none }
def aliasCountsRow : OpenClaim := { program := "yteakeefocnjlhaa", sum := "a114b0b2d3a17eb590cc4cde7642f14b7a1b1cf4fad2d9c879d1fdcc2b96a69f", func := "palmer/palmerlaw16.AliasCounts", spec := "aliasCounts", inPlace := ["slices.overlaps[int]"], apart := false }
def AliasCountsSaid : Prop := aliasCountsRow.holds Try.pinned (OpenSpec.ofChange aliasCountsSpec)

/-- ITS FALSE NEIGHBOUR: 'it returns false'. Refute it at one input. -/
def aliasCountsWrong : ChangeSpec := { name := "aliasCounts", fn := fun _ => fun
  | [d] => { results := [.lit (.bool false)], args := [d] }
  | _ => none }
def AliasCountsWrongFalsely : Prop := aliasCountsRow.holds Try.pinned (OpenSpec.ofChange aliasCountsWrong)

/-- 'palmerlaw16.AliasBuilds': WHATEVER THE INPUT: true; the input reads as it did. -/
def aliasBuildsSpec : ChangeSpec := { name := "aliasBuilds", fn := fun _ => fun
  | [d] => { results := [.lit (.bool true)], args := [d] }
  | _ => none }
def aliasBuildsRow : OpenClaim := { program := "yteakeefocnjlhaa", sum := "a114b0b2d3a17eb590cc4cde7642f14b7a1b1cf4fad2d9c879d1fdcc2b96a69f", func := "palmer/palmerlaw16.AliasBuilds", spec := "aliasBuilds", inPlace := ["slices.overlaps[int]"], apart := false }
def AliasBuildsSaid : Prop := aliasBuildsRow.holds Try.pinned (OpenSpec.ofChange aliasBuildsSpec)

/-- ITS FALSE NEIGHBOUR: 'it returns false'. Refute it at one input. -/
def aliasBuildsWrong : ChangeSpec := { name := "aliasBuilds", fn := fun _ => fun
  | [d] => { results := [.lit (.bool false)], args := [d] }
  | _ => none }
def AliasBuildsWrongFalsely : Prop := aliasBuildsRow.holds Try.pinned (OpenSpec.ofChange aliasBuildsWrong)

/-- 'palmerlaw16.AliasMay': WHATEVER THE INPUT: true; the input reads as it did. -/
def aliasMaySpec : ChangeSpec := { name := "aliasMay", fn := fun _ => fun
  | [d1, d2, d3, d4] => { results := [.lit (.bool true)], args := [d1, d2, d3, d4] }
  | _ => none }
def aliasMayRow : OpenClaim := { program := "yteakeefocnjlhaa", sum := "a114b0b2d3a17eb590cc4cde7642f14b7a1b1cf4fad2d9c879d1fdcc2b96a69f", func := "palmer/palmerlaw16.AliasMay", spec := "aliasMay", inPlace := ["slices.overlaps[int]"], apart := false }
def AliasMaySaid : Prop := aliasMayRow.holds Try.pinned (OpenSpec.ofChange aliasMaySpec)

/-- ITS FALSE NEIGHBOUR: 'it returns false'. Refute it at one input. -/
def aliasMayWrong : ChangeSpec := { name := "aliasMay", fn := fun _ => fun
  | [d1, d2, d3, d4] => { results := [.lit (.bool false)], args := [d1, d2, d3, d4] }
  | _ => none }
def AliasMayWrongFalsely : Prop := aliasMayRow.holds Try.pinned (OpenSpec.ofChange aliasMayWrong)

/-- 'palmerlaw17.PickAll': WHATEVER THE INPUT: true; the input reads as it did. -/
def pickAllSpec : ChangeSpec := { name := "pickAll", fn := fun _ => fun
  | [d] => { results := [.lit (.bool true)], args := [d] }
  | _ => none }
def pickAllRow : OpenClaim := { program := "yteakeefocnjlhaa", sum := "a114b0b2d3a17eb590cc4cde7642f14b7a1b1cf4fad2d9c879d1fdcc2b96a69f", func := "palmer/palmerlaw17.PickAll", spec := "pickAll", inPlace := ["slices.overlaps[int]"], unfollowed := true, recurses := true, apart := false }
def PickAllSaid : Prop := pickAllRow.holds Try.pinned (OpenSpec.ofChange pickAllSpec)

/-- ITS FALSE NEIGHBOUR: 'it returns false'. Refute it at one input. -/
def pickAllWrong : ChangeSpec := { name := "pickAll", fn := fun _ => fun
  | [d] => { results := [.lit (.bool false)], args := [d] }
  | _ => none }
def PickAllWrongFalsely : Prop := pickAllRow.holds Try.pinned (OpenSpec.ofChange pickAllWrong)

/-- 'palmerlaw16.AliasPuts': WHATEVER THE INPUT: true; the input reads as it did. -/
def aliasPutsSpec : ChangeSpec := { name := "aliasPuts", fn := fun _ => fun
  | [d1, d2, d3] => { results := [.lit (.bool true)], args := [d1, d2, d3] }
  | _ => none }
def aliasPutsRow : OpenClaim := { program := "yteakeefocnjlhaa", sum := "a114b0b2d3a17eb590cc4cde7642f14b7a1b1cf4fad2d9c879d1fdcc2b96a69f", func := "palmer/palmerlaw16.AliasPuts", spec := "aliasPuts", inPlace := ["slices.overlaps[int]"], recurses := true, apart := false }
def AliasPutsSaid : Prop := aliasPutsRow.holds Try.pinned (OpenSpec.ofChange aliasPutsSpec)

/-- ITS FALSE NEIGHBOUR: 'it returns false'. Refute it at one input. -/
def aliasPutsWrong : ChangeSpec := { name := "aliasPuts", fn := fun _ => fun
  | [d1, d2, d3] => { results := [.lit (.bool false)], args := [d1, d2, d3] }
  | _ => none }
def AliasPutsWrongFalsely : Prop := aliasPutsRow.holds Try.pinned (OpenSpec.ofChange aliasPutsWrong)

/-- 'palmerlaw17.PickOneToOne': WHATEVER THE INPUT: true; the input reads as it did. -/
def pickOneToOneSpec : ChangeSpec := { name := "pickOneToOne", fn := fun _ => fun
  | [d1, d2] => { results := [.lit (.bool true)], args := [d1, d2] }
  | _ => none }
def pickOneToOneRow : OpenClaim := { program := "yteakeefocnjlhaa", sum := "a114b0b2d3a17eb590cc4cde7642f14b7a1b1cf4fad2d9c879d1fdcc2b96a69f", func := "palmer/palmerlaw17.PickOneToOne", spec := "pickOneToOne", inPlace := ["slices.overlaps[int]"], unfollowed := true, recurses := true, apart := false }
def PickOneToOneSaid : Prop := pickOneToOneRow.holds Try.pinned (OpenSpec.ofChange pickOneToOneSpec)

/-- ITS FALSE NEIGHBOUR: 'it returns false'. Refute it at one input. -/
def pickOneToOneWrong : ChangeSpec := { name := "pickOneToOne", fn := fun _ => fun
  | [d1, d2] => { results := [.lit (.bool false)], args := [d1, d2] }
  | _ => none }
def PickOneToOneWrongFalsely : Prop := pickOneToOneRow.holds Try.pinned (OpenSpec.ofChange pickOneToOneWrong)

/- THE SECOND FORM. 'bulk': how many values and letters a reading holds, each counted each time it is reached (what is shared counts as often as it is met; a slice's spare places count too). A statement '..UptoSaid' is the law's where the arguments, and the package variables that the reading takes, are together of bulk at most 1048576: NARROWER than '..Said'. Prove '..Said' where nothing that the law and all that it calls make is longer than what came in: it says more and counts as full. Else prove '..UptoSaid'. A law counts once. -/
mutual
def uptoBulk {H : Type} : DataW H → Nat
  | .lit (.string bytes) => bytes.length + 1
  | .lit _ => 1
  | .nil => 1
  | .ptr d => uptoBulk d + 1
  | .slice elems spare => uptoBulkAll elems + uptoBulkAll spare + 1
  | .agg parts => uptoBulkAll parts + 1
  | .iface _ d => uptoBulk d + 1
  | .map entries => uptoBulkEntries entries + 1
  | .held _ => 1
def uptoBulkAll {H : Type} : List (DataW H) → Nat
  | [] => 0
  | d :: r => uptoBulk d + uptoBulkAll r
def uptoBulkEntries {H : Type} : List (Lit × DataW H) → Nat
  | [] => 0
  | x :: r => uptoBulkEntry x + uptoBulkEntries r
def uptoBulkEntry {H : Type} : Lit × DataW H → Nat
  | (.string bytes, d) => bytes.length + uptoBulk d + 1
  | (_, d) => uptoBulk d + 1
 end
def uptoSmall : (H : Type) → List (DataW H) → Bool := fun _ ds => decide (uptoBulkAll ds ≤ 1048576)
def OpenSpec.upto (s : _root_.Go.ChangeSpec) : _root_.Go.OpenSpec := { _root_.Go.OpenSpec.ofChange s with cond := some uptoSmall }

/-- 'palmerlaw03.VarintOne', WHERE WHAT IT READS IS OF BULK AT MOST 1048576: true; the input reads as it did. -/
def varintOneUptoRow : OpenClaim := { program := "yteakeefocnjlhaa", sum := "a114b0b2d3a17eb590cc4cde7642f14b7a1b1cf4fad2d9c879d1fdcc2b96a69f", func := "palmer/palmerlaw03.VarintOne", spec := "varintOne", apart := false, narrowed := true }
def VarintOneUptoSaid : Prop := varintOneUptoRow.holds Try.pinned (OpenSpec.upto varintOneSpec)

/-- 'palmerlaw04.GapsFinds', WHERE WHAT IT READS IS OF BULK AT MOST 1048576: true; the input reads as it did. -/
def gapsFindsUptoRow : OpenClaim := { program := "yteakeefocnjlhaa", sum := "a114b0b2d3a17eb590cc4cde7642f14b7a1b1cf4fad2d9c879d1fdcc2b96a69f", func := "palmer/palmerlaw04.GapsFinds", spec := "gapsFinds", unfollowed := true, recurses := true, apart := false, narrowed := true }
def GapsFindsUptoSaid : Prop := gapsFindsUptoRow.holds Try.pinned (OpenSpec.upto gapsFindsSpec)

/-- 'palmerlaw03.VarintNil', WHERE WHAT IT READS IS OF BULK AT MOST 1048576: true; the input reads as it did. -/
def varintNilUptoRow : OpenClaim := { program := "yteakeefocnjlhaa", sum := "a114b0b2d3a17eb590cc4cde7642f14b7a1b1cf4fad2d9c879d1fdcc2b96a69f", func := "palmer/palmerlaw03.VarintNil", spec := "varintNil", apart := false, narrowed := true }
def VarintNilUptoSaid : Prop := varintNilUptoRow.holds Try.pinned (OpenSpec.upto varintNilSpec)

/-- 'palmerlaw03.VarintReads', WHERE WHAT IT READS IS OF BULK AT MOST 1048576: true; the input reads as it did. -/
def varintReadsUptoRow : OpenClaim := { program := "yteakeefocnjlhaa", sum := "a114b0b2d3a17eb590cc4cde7642f14b7a1b1cf4fad2d9c879d1fdcc2b96a69f", func := "palmer/palmerlaw03.VarintReads", spec := "varintReads", apart := false, narrowed := true }
def VarintReadsUptoSaid : Prop := varintReadsUptoRow.holds Try.pinned (OpenSpec.upto varintReadsSpec)

/-- 'palmerlaw03.VarintPuts', WHERE WHAT IT READS IS OF BULK AT MOST 1048576: true; the input reads as it did. -/
def varintPutsUptoRow : OpenClaim := { program := "yteakeefocnjlhaa", sum := "a114b0b2d3a17eb590cc4cde7642f14b7a1b1cf4fad2d9c879d1fdcc2b96a69f", func := "palmer/palmerlaw03.VarintPuts", spec := "varintPuts", recurses := true, apart := false, narrowed := true }
def VarintPutsUptoSaid : Prop := varintPutsUptoRow.holds Try.pinned (OpenSpec.upto varintPutsSpec)

/-- 'palmerlaw04.GapsReads', WHERE WHAT IT READS IS OF BULK AT MOST 1048576: true; the input reads as it did. -/
def gapsReadsUptoRow : OpenClaim := { program := "yteakeefocnjlhaa", sum := "a114b0b2d3a17eb590cc4cde7642f14b7a1b1cf4fad2d9c879d1fdcc2b96a69f", func := "palmer/palmerlaw04.GapsReads", spec := "gapsReads", apart := false, narrowed := true }
def GapsReadsUptoSaid : Prop := gapsReadsUptoRow.holds Try.pinned (OpenSpec.upto gapsReadsSpec)

/-- 'palmerlaw17.PickRises', WHERE WHAT IT READS IS OF BULK AT MOST 1048576: true; the input reads as it did. -/
def pickRisesUptoRow : OpenClaim := { program := "yteakeefocnjlhaa", sum := "a114b0b2d3a17eb590cc4cde7642f14b7a1b1cf4fad2d9c879d1fdcc2b96a69f", func := "palmer/palmerlaw17.PickRises", spec := "pickRises", unfollowed := true, recurses := true, apart := false, narrowed := true }
def PickRisesUptoSaid : Prop := pickRisesUptoRow.holds Try.pinned (OpenSpec.upto pickRisesSpec)

/-- 'palmerlaw04.GapsPuts', WHERE WHAT IT READS IS OF BULK AT MOST 1048576: true; the input reads as it did. -/
def gapsPutsUptoRow : OpenClaim := { program := "yteakeefocnjlhaa", sum := "a114b0b2d3a17eb590cc4cde7642f14b7a1b1cf4fad2d9c879d1fdcc2b96a69f", func := "palmer/palmerlaw04.GapsPuts", spec := "gapsPuts", recurses := true, apart := false, narrowed := true }
def GapsPutsUptoSaid : Prop := gapsPutsUptoRow.holds Try.pinned (OpenSpec.upto gapsPutsSpec)

/-- 'palmerlaw17.PickRemaps', WHERE WHAT IT READS IS OF BULK AT MOST 1048576: true; the input reads as it did. -/
def pickRemapsUptoRow : OpenClaim := { program := "yteakeefocnjlhaa", sum := "a114b0b2d3a17eb590cc4cde7642f14b7a1b1cf4fad2d9c879d1fdcc2b96a69f", func := "palmer/palmerlaw17.PickRemaps", spec := "pickRemaps", unfollowed := true, recurses := true, apart := false, narrowed := true }
def PickRemapsUptoSaid : Prop := pickRemapsUptoRow.holds Try.pinned (OpenSpec.upto pickRemapsSpec)

/-- 'palmerlaw17.PickOnto', WHERE WHAT IT READS IS OF BULK AT MOST 1048576: true; the input reads as it did. -/
def pickOntoUptoRow : OpenClaim := { program := "yteakeefocnjlhaa", sum := "a114b0b2d3a17eb590cc4cde7642f14b7a1b1cf4fad2d9c879d1fdcc2b96a69f", func := "palmer/palmerlaw17.PickOnto", spec := "pickOnto", unfollowed := true, recurses := true, apart := false, narrowed := true }
def PickOntoUptoSaid : Prop := pickOntoUptoRow.holds Try.pinned (OpenSpec.upto pickOntoSpec)

/-- 'palmerlaw16.AliasOne', WHERE WHAT IT READS IS OF BULK AT MOST 1048576: true; the input reads as it did. -/
def aliasOneUptoRow : OpenClaim := { program := "yteakeefocnjlhaa", sum := "a114b0b2d3a17eb590cc4cde7642f14b7a1b1cf4fad2d9c879d1fdcc2b96a69f", func := "palmer/palmerlaw16.AliasOne", spec := "aliasOne", inPlace := ["slices.overlaps[int]"], apart := false, narrowed := true }
def AliasOneUptoSaid : Prop := aliasOneUptoRow.holds Try.pinned (OpenSpec.upto aliasOneSpec)

/-- 'palmerlaw16.AliasCounts', WHERE WHAT IT READS IS OF BULK AT MOST 1048576: true; the input reads as it did. -/
def aliasCountsUptoRow : OpenClaim := { program := "yteakeefocnjlhaa", sum := "a114b0b2d3a17eb590cc4cde7642f14b7a1b1cf4fad2d9c879d1fdcc2b96a69f", func := "palmer/palmerlaw16.AliasCounts", spec := "aliasCounts", inPlace := ["slices.overlaps[int]"], apart := false, narrowed := true }
def AliasCountsUptoSaid : Prop := aliasCountsUptoRow.holds Try.pinned (OpenSpec.upto aliasCountsSpec)

/-- 'palmerlaw16.AliasBuilds', WHERE WHAT IT READS IS OF BULK AT MOST 1048576: true; the input reads as it did. -/
def aliasBuildsUptoRow : OpenClaim := { program := "yteakeefocnjlhaa", sum := "a114b0b2d3a17eb590cc4cde7642f14b7a1b1cf4fad2d9c879d1fdcc2b96a69f", func := "palmer/palmerlaw16.AliasBuilds", spec := "aliasBuilds", inPlace := ["slices.overlaps[int]"], apart := false, narrowed := true }
def AliasBuildsUptoSaid : Prop := aliasBuildsUptoRow.holds Try.pinned (OpenSpec.upto aliasBuildsSpec)

/-- 'palmerlaw16.AliasMay', WHERE WHAT IT READS IS OF BULK AT MOST 1048576: true; the input reads as it did. -/
def aliasMayUptoRow : OpenClaim := { program := "yteakeefocnjlhaa", sum := "a114b0b2d3a17eb590cc4cde7642f14b7a1b1cf4fad2d9c879d1fdcc2b96a69f", func := "palmer/palmerlaw16.AliasMay", spec := "aliasMay", inPlace := ["slices.overlaps[int]"], apart := false, narrowed := true }
def AliasMayUptoSaid : Prop := aliasMayUptoRow.holds Try.pinned (OpenSpec.upto aliasMaySpec)

/-- 'palmerlaw17.PickAll', WHERE WHAT IT READS IS OF BULK AT MOST 1048576: true; the input reads as it did. -/
def pickAllUptoRow : OpenClaim := { program := "yteakeefocnjlhaa", sum := "a114b0b2d3a17eb590cc4cde7642f14b7a1b1cf4fad2d9c879d1fdcc2b96a69f", func := "palmer/palmerlaw17.PickAll", spec := "pickAll", inPlace := ["slices.overlaps[int]"], unfollowed := true, recurses := true, apart := false, narrowed := true }
def PickAllUptoSaid : Prop := pickAllUptoRow.holds Try.pinned (OpenSpec.upto pickAllSpec)

/-- 'palmerlaw16.AliasPuts', WHERE WHAT IT READS IS OF BULK AT MOST 1048576: true; the input reads as it did. -/
def aliasPutsUptoRow : OpenClaim := { program := "yteakeefocnjlhaa", sum := "a114b0b2d3a17eb590cc4cde7642f14b7a1b1cf4fad2d9c879d1fdcc2b96a69f", func := "palmer/palmerlaw16.AliasPuts", spec := "aliasPuts", inPlace := ["slices.overlaps[int]"], recurses := true, apart := false, narrowed := true }
def AliasPutsUptoSaid : Prop := aliasPutsUptoRow.holds Try.pinned (OpenSpec.upto aliasPutsSpec)

/-- 'palmerlaw17.PickOneToOne', WHERE WHAT IT READS IS OF BULK AT MOST 1048576: true; the input reads as it did. -/
def pickOneToOneUptoRow : OpenClaim := { program := "yteakeefocnjlhaa", sum := "a114b0b2d3a17eb590cc4cde7642f14b7a1b1cf4fad2d9c879d1fdcc2b96a69f", func := "palmer/palmerlaw17.PickOneToOne", spec := "pickOneToOne", inPlace := ["slices.overlaps[int]"], unfollowed := true, recurses := true, apart := false, narrowed := true }
def PickOneToOneUptoSaid : Prop := pickOneToOneUptoRow.holds Try.pinned (OpenSpec.upto pickOneToOneSpec)

end Rows
end Go.Proofs.Yteakeefocnjlhaa
