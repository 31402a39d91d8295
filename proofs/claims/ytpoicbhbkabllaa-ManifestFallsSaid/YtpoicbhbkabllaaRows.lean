/-
  No cell of these rows narrows 'for every input' (looked for: loops, veiled, ifaces, maps, wideKeys, modest, calm, conditions, laid).
  DERIVED. THE GIVEN ROWS OF THIS SEAT. 9 by the template 'for every input the law returns true; each argument reads behind the call as it read before'; 0 by the template 'total and deterministic' (their statements: YtpoicbhbkabllaaTotals.lean).
  GIVEN WITH THE SEED: the statements are not yours to turn. If you find one false, say at which input.
  Laid BY PROGRAM, IN A SANDBOX (cutbox-rows.mjs): the forced cells as the released guide's own fill.sh prints them over the translation edc2d94448ce5201… (all of the seat's roots in one cut). By AI agents, Wed Nov 11 2026. No macro, syntax, notation, axiom, sorry.
-/
import Derived.Test.YtpoicbhbkabllaaChecked
import GoSem.Claim
import GoSem.ClaimJoined
import GoSem.ClaimMapViews
import Derived.JoinedTies
import Derived.KernelRfl
namespace Go.Proofs.Ytpoicbhbkabllaa
/- THE CELL 'sum', in the pinned program and in every row, IS THE sha256 OF THE DUMP (.gsa) THAT YtpoicbhbkabllaaProg.lean LOADS. Nothing in Lean hashes anything: it is a label: what it is worth is what the hold of that sum in a sandbox is worth. -/
noncomputable def Try.pinned : Pinned := { name := "ytpoicbhbkabllaa", sum := "edc2d94448ce5201cbee1026364f46c513fd02d441dbadfbc36f617439539821", checked := Try.checked }
namespace Rows
def none {H : Type} : Left H := { results := [], args := [] }

/-- 'palmerlaw06.DiskFuses': WHATEVER THE INPUT: true; the input reads as it did. -/
def diskFusesSpec : ChangeSpec := { name := "diskFuses", fn := fun _ => fun
  | [d1, d2] => { results := [.lit (.bool true)], args := [d1, d2] }
  | _ => none }
def diskFusesRow : OpenClaim := { program := "ytpoicbhbkabllaa", sum := "edc2d94448ce5201cbee1026364f46c513fd02d441dbadfbc36f617439539821", func := "palmer/palmerlaw06.DiskFuses", spec := "diskFuses", unfollowed := true, recurses := true, apart := false }
def DiskFusesSaid : Prop := diskFusesRow.holds Try.pinned (OpenSpec.ofChange diskFusesSpec)

/-- ITS FALSE NEIGHBOUR: 'it returns false'. Refute it at one input. -/
def diskFusesWrong : ChangeSpec := { name := "diskFuses", fn := fun _ => fun
  | [d1, d2] => { results := [.lit (.bool false)], args := [d1, d2] }
  | _ => none }
def DiskFusesWrongFalsely : Prop := diskFusesRow.holds Try.pinned (OpenSpec.ofChange diskFusesWrong)

/-- 'palmerlaw06.DiskSyncs': WHATEVER THE INPUT: true; the input reads as it did. -/
def diskSyncsSpec : ChangeSpec := { name := "diskSyncs", fn := fun _ => fun
  | [d1, d2, d3, d4, d5] => { results := [.lit (.bool true)], args := [d1, d2, d3, d4, d5] }
  | _ => none }
def diskSyncsRow : OpenClaim := { program := "ytpoicbhbkabllaa", sum := "edc2d94448ce5201cbee1026364f46c513fd02d441dbadfbc36f617439539821", func := "palmer/palmerlaw06.DiskSyncs", spec := "diskSyncs", unfollowed := true, recurses := true, apart := false }
def DiskSyncsSaid : Prop := diskSyncsRow.holds Try.pinned (OpenSpec.ofChange diskSyncsSpec)

/-- ITS FALSE NEIGHBOUR: 'it returns false'. Refute it at one input. -/
def diskSyncsWrong : ChangeSpec := { name := "diskSyncs", fn := fun _ => fun
  | [d1, d2, d3, d4, d5] => { results := [.lit (.bool false)], args := [d1, d2, d3, d4, d5] }
  | _ => none }
def DiskSyncsWrongFalsely : Prop := diskSyncsRow.holds Try.pinned (OpenSpec.ofChange diskSyncsWrong)

/-- 'palmerlaw06.DiskPlays': WHATEVER THE INPUT: true; the input reads as it did. -/
def diskPlaysSpec : ChangeSpec := { name := "diskPlays", fn := fun _ => fun
  | [d1, d2] => { results := [.lit (.bool true)], args := [d1, d2] }
  | _ => none }
def diskPlaysRow : OpenClaim := { program := "ytpoicbhbkabllaa", sum := "edc2d94448ce5201cbee1026364f46c513fd02d441dbadfbc36f617439539821", func := "palmer/palmerlaw06.DiskPlays", spec := "diskPlays", unfollowed := true, recurses := true, apart := false }
def DiskPlaysSaid : Prop := diskPlaysRow.holds Try.pinned (OpenSpec.ofChange diskPlaysSpec)

/-- ITS FALSE NEIGHBOUR: 'it returns false'. Refute it at one input. -/
def diskPlaysWrong : ChangeSpec := { name := "diskPlays", fn := fun _ => fun
  | [d1, d2] => { results := [.lit (.bool false)], args := [d1, d2] }
  | _ => none }
def DiskPlaysWrongFalsely : Prop := diskPlaysRow.holds Try.pinned (OpenSpec.ofChange diskPlaysWrong)

/-- 'palmerlaw06.DiskNil': WHATEVER THE INPUT: true; the input reads as it did. -/
def diskNilSpec : ChangeSpec := { name := "diskNil", fn := fun _ => fun
  | [d1, d2, d3] => { results := [.lit (.bool true)], args := [d1, d2, d3] }
  | _ => none }
def diskNilRow : OpenClaim := { program := "ytpoicbhbkabllaa", sum := "edc2d94448ce5201cbee1026364f46c513fd02d441dbadfbc36f617439539821", func := "palmer/palmerlaw06.DiskNil", spec := "diskNil", unfollowed := true, recurses := true, apart := false }
def DiskNilSaid : Prop := diskNilRow.holds Try.pinned (OpenSpec.ofChange diskNilSpec)

/-- ITS FALSE NEIGHBOUR: 'it returns false'. Refute it at one input. -/
def diskNilWrong : ChangeSpec := { name := "diskNil", fn := fun _ => fun
  | [d1, d2, d3] => { results := [.lit (.bool false)], args := [d1, d2, d3] }
  | _ => none }
def DiskNilWrongFalsely : Prop := diskNilRow.holds Try.pinned (OpenSpec.ofChange diskNilWrong)

/-- 'palmerlaw09.ManifestFinds': WHATEVER THE INPUT: true; the input reads as it did. -/
def manifestFindsSpec : ChangeSpec := { name := "manifestFinds", fn := fun _ => fun
  | [d1, d2] => { results := [.lit (.bool true)], args := [d1, d2] }
  | _ => none }
def manifestFindsRow : OpenClaim := { program := "ytpoicbhbkabllaa", sum := "edc2d94448ce5201cbee1026364f46c513fd02d441dbadfbc36f617439539821", func := "palmer/palmerlaw09.ManifestFinds", spec := "manifestFinds", unfollowed := true, recurses := true, apart := false }
def ManifestFindsSaid : Prop := manifestFindsRow.holds Try.pinned (OpenSpec.ofChange manifestFindsSpec)

/-- ITS FALSE NEIGHBOUR: 'it returns false'. Refute it at one input. -/
def manifestFindsWrong : ChangeSpec := { name := "manifestFinds", fn := fun _ => fun
  | [d1, d2] => { results := [.lit (.bool false)], args := [d1, d2] }
  | _ => none }
def ManifestFindsWrongFalsely : Prop := manifestFindsRow.holds Try.pinned (OpenSpec.ofChange manifestFindsWrong)

/-- 'palmerlaw09.ManifestReads': WHATEVER THE INPUT: true; the input reads as it did. -/
def manifestReadsSpec : ChangeSpec := { name := "manifestReads", fn := fun _ => fun
  | [d] => { results := [.lit (.bool true)], args := [d] }
  | _ => none }
def manifestReadsRow : OpenClaim := { program := "ytpoicbhbkabllaa", sum := "edc2d94448ce5201cbee1026364f46c513fd02d441dbadfbc36f617439539821", func := "palmer/palmerlaw09.ManifestReads", spec := "manifestReads", recurses := true, apart := false }
def ManifestReadsSaid : Prop := manifestReadsRow.holds Try.pinned (OpenSpec.ofChange manifestReadsSpec)

/-- ITS FALSE NEIGHBOUR: 'it returns false'. Refute it at one input. -/
def manifestReadsWrong : ChangeSpec := { name := "manifestReads", fn := fun _ => fun
  | [d] => { results := [.lit (.bool false)], args := [d] }
  | _ => none }
def ManifestReadsWrongFalsely : Prop := manifestReadsRow.holds Try.pinned (OpenSpec.ofChange manifestReadsWrong)

/-- 'palmerlaw09.ManifestRaw': WHATEVER THE INPUT: true; the input reads as it did. -/
def manifestRawSpec : ChangeSpec := { name := "manifestRaw", fn := fun _ => fun
  | [d1, d2, d3, d4] => { results := [.lit (.bool true)], args := [d1, d2, d3, d4] }
  | _ => none }
def manifestRawRow : OpenClaim := { program := "ytpoicbhbkabllaa", sum := "edc2d94448ce5201cbee1026364f46c513fd02d441dbadfbc36f617439539821", func := "palmer/palmerlaw09.ManifestRaw", spec := "manifestRaw", unfollowed := true, recurses := true, apart := false }
def ManifestRawSaid : Prop := manifestRawRow.holds Try.pinned (OpenSpec.ofChange manifestRawSpec)

/-- ITS FALSE NEIGHBOUR: 'it returns false'. Refute it at one input. -/
def manifestRawWrong : ChangeSpec := { name := "manifestRaw", fn := fun _ => fun
  | [d1, d2, d3, d4] => { results := [.lit (.bool false)], args := [d1, d2, d3, d4] }
  | _ => none }
def ManifestRawWrongFalsely : Prop := manifestRawRow.holds Try.pinned (OpenSpec.ofChange manifestRawWrong)

/-- 'palmerlaw09.ManifestSpoilt': WHATEVER THE INPUT: true; the input reads as it did. -/
def manifestSpoiltSpec : ChangeSpec := { name := "manifestSpoilt", fn := fun _ => fun
  | [d1, d2, d3, d4] => { results := [.lit (.bool true)], args := [d1, d2, d3, d4] }
  | _ => none }
def manifestSpoiltRow : OpenClaim := { program := "ytpoicbhbkabllaa", sum := "edc2d94448ce5201cbee1026364f46c513fd02d441dbadfbc36f617439539821", func := "palmer/palmerlaw09.ManifestSpoilt", spec := "manifestSpoilt", unfollowed := true, recurses := true, apart := false }
def ManifestSpoiltSaid : Prop := manifestSpoiltRow.holds Try.pinned (OpenSpec.ofChange manifestSpoiltSpec)

/-- ITS FALSE NEIGHBOUR: 'it returns false'. Refute it at one input. -/
def manifestSpoiltWrong : ChangeSpec := { name := "manifestSpoilt", fn := fun _ => fun
  | [d1, d2, d3, d4] => { results := [.lit (.bool false)], args := [d1, d2, d3, d4] }
  | _ => none }
def ManifestSpoiltWrongFalsely : Prop := manifestSpoiltRow.holds Try.pinned (OpenSpec.ofChange manifestSpoiltWrong)

/-- 'palmerlaw09.ManifestFalls': WHATEVER THE INPUT: true; the input reads as it did. -/
def manifestFallsSpec : ChangeSpec := { name := "manifestFalls", fn := fun _ => fun
  | [d1, d2, d3, d4] => { results := [.lit (.bool true)], args := [d1, d2, d3, d4] }
  | _ => none }
def manifestFallsRow : OpenClaim := { program := "ytpoicbhbkabllaa", sum := "edc2d94448ce5201cbee1026364f46c513fd02d441dbadfbc36f617439539821", func := "palmer/palmerlaw09.ManifestFalls", spec := "manifestFalls", unfollowed := true, recurses := true, apart := false }
def ManifestFallsSaid : Prop := manifestFallsRow.holds Try.pinned (OpenSpec.ofChange manifestFallsSpec)

/-- ITS FALSE NEIGHBOUR: 'it returns false'. Refute it at one input. -/
def manifestFallsWrong : ChangeSpec := { name := "manifestFalls", fn := fun _ => fun
  | [d1, d2, d3, d4] => { results := [.lit (.bool false)], args := [d1, d2, d3, d4] }
  | _ => none }
def ManifestFallsWrongFalsely : Prop := manifestFallsRow.holds Try.pinned (OpenSpec.ofChange manifestFallsWrong)

/- THE SECOND FORM. 'bulk': how many values and letters a reading holds, each counted each time it is reached (what is shared counts as often as it is met; a slice's spare places count too). A statement '..UptoSaid' is the law's where the arguments, and the package variables that the reading takes, are together of bulk at most 1048576: NARROWER than '..Said'. Prove '..Said' where nothing that the law and all that it calls make is longer than what came in: it says more and counts as full. Else prove '..UptoSaid'. A law counts once. -/
mutual
def uptoBulk {H : Type} : DataW H → Nat
  | .lit (.string bytes) => bytes.length + 1
  | .lit _ => 1
  | .nil => 1
  | .ptr d => uptoBulk d + 1
  | .slice elems spare => uptoBulkAll elems + uptoBulkAll spare + 1
  | .agg parts => uptoBulkAll parts + 1
  | .iface _ d => uptoBulk d + 1
  | .map entries => uptoBulkEntries entries + 1
  | .held _ => 1
def uptoBulkAll {H : Type} : List (DataW H) → Nat
  | [] => 0
  | d :: r => uptoBulk d + uptoBulkAll r
def uptoBulkEntries {H : Type} : List (Lit × DataW H) → Nat
  | [] => 0
  | x :: r => uptoBulkEntry x + uptoBulkEntries r
def uptoBulkEntry {H : Type} : Lit × DataW H → Nat
  | (.string bytes, d) => bytes.length + uptoBulk d + 1
  | (_, d) => uptoBulk d + 1
 end
def uptoSmall : (H : Type) → List (DataW H) → Bool := fun _ ds => decide (uptoBulkAll ds ≤ 1048576)
def OpenSpec.upto (s : _root_.Go.ChangeSpec) : _root_.Go.OpenSpec := { _root_.Go.OpenSpec.ofChange s with cond := some uptoSmall }

/-- 'palmerlaw06.DiskFuses', WHERE WHAT IT READS IS OF BULK AT MOST 1048576: true; the input reads as it did. -/
def diskFusesUptoRow : OpenClaim := { program := "ytpoicbhbkabllaa", sum := "edc2d94448ce5201cbee1026364f46c513fd02d441dbadfbc36f617439539821", func := "palmer/palmerlaw06.DiskFuses", spec := "diskFuses", unfollowed := true, recurses := true, apart := false, narrowed := true }
def DiskFusesUptoSaid : Prop := diskFusesUptoRow.holds Try.pinned (OpenSpec.upto diskFusesSpec)

/-- 'palmerlaw06.DiskSyncs', WHERE WHAT IT READS IS OF BULK AT MOST 1048576: true; the input reads as it did. -/
def diskSyncsUptoRow : OpenClaim := { program := "ytpoicbhbkabllaa", sum := "edc2d94448ce5201cbee1026364f46c513fd02d441dbadfbc36f617439539821", func := "palmer/palmerlaw06.DiskSyncs", spec := "diskSyncs", unfollowed := true, recurses := true, apart := false, narrowed := true }
def DiskSyncsUptoSaid : Prop := diskSyncsUptoRow.holds Try.pinned (OpenSpec.upto diskSyncsSpec)

/-- 'palmerlaw06.DiskPlays', WHERE WHAT IT READS IS OF BULK AT MOST 1048576: true; the input reads as it did. -/
def diskPlaysUptoRow : OpenClaim := { program := "ytpoicbhbkabllaa", sum := "edc2d94448ce5201cbee1026364f46c513fd02d441dbadfbc36f617439539821", func := "palmer/palmerlaw06.DiskPlays", spec := "diskPlays", unfollowed := true, recurses := true, apart := false, narrowed := true }
def DiskPlaysUptoSaid : Prop := diskPlaysUptoRow.holds Try.pinned (OpenSpec.upto diskPlaysSpec)

/-- 'palmerlaw06.DiskNil', WHERE WHAT IT READS IS OF BULK AT MOST 1048576: true; the input reads as it did. -/
def diskNilUptoRow : OpenClaim := { program := "ytpoicbhbkabllaa", sum := "edc2d94448ce5201cbee1026364f46c513fd02d441dbadfbc36f617439539821", func := "palmer/palmerlaw06.DiskNil", spec := "diskNil", unfollowed := true, recurses := true, apart := false, narrowed := true }
def DiskNilUptoSaid : Prop := diskNilUptoRow.holds Try.pinned (OpenSpec.upto diskNilSpec)

/-- 'palmerlaw09.ManifestFinds', WHERE WHAT IT READS IS OF BULK AT MOST 1048576: true; the input reads as it did. -/
def manifestFindsUptoRow : OpenClaim := { program := "ytpoicbhbkabllaa", sum := "edc2d94448ce5201cbee1026364f46c513fd02d441dbadfbc36f617439539821", func := "palmer/palmerlaw09.ManifestFinds", spec := "manifestFinds", unfollowed := true, recurses := true, apart := false, narrowed := true }
def ManifestFindsUptoSaid : Prop := manifestFindsUptoRow.holds Try.pinned (OpenSpec.upto manifestFindsSpec)

/-- 'palmerlaw09.ManifestReads', WHERE WHAT IT READS IS OF BULK AT MOST 1048576: true; the input reads as it did. -/
def manifestReadsUptoRow : OpenClaim := { program := "ytpoicbhbkabllaa", sum := "edc2d94448ce5201cbee1026364f46c513fd02d441dbadfbc36f617439539821", func := "palmer/palmerlaw09.ManifestReads", spec := "manifestReads", recurses := true, apart := false, narrowed := true }
def ManifestReadsUptoSaid : Prop := manifestReadsUptoRow.holds Try.pinned (OpenSpec.upto manifestReadsSpec)

/-- 'palmerlaw09.ManifestRaw', WHERE WHAT IT READS IS OF BULK AT MOST 1048576: true; the input reads as it did. -/
def manifestRawUptoRow : OpenClaim := { program := "ytpoicbhbkabllaa", sum := "edc2d94448ce5201cbee1026364f46c513fd02d441dbadfbc36f617439539821", func := "palmer/palmerlaw09.ManifestRaw", spec := "manifestRaw", unfollowed := true, recurses := true, apart := false, narrowed := true }
def ManifestRawUptoSaid : Prop := manifestRawUptoRow.holds Try.pinned (OpenSpec.upto manifestRawSpec)

/-- 'palmerlaw09.ManifestSpoilt', WHERE WHAT IT READS IS OF BULK AT MOST 1048576: true; the input reads as it did. -/
def manifestSpoiltUptoRow : OpenClaim := { program := "ytpoicbhbkabllaa", sum := "edc2d94448ce5201cbee1026364f46c513fd02d441dbadfbc36f617439539821", func := "palmer/palmerlaw09.ManifestSpoilt", spec := "manifestSpoilt", unfollowed := true, recurses := true, apart := false, narrowed := true }
def ManifestSpoiltUptoSaid : Prop := manifestSpoiltUptoRow.holds Try.pinned (OpenSpec.upto manifestSpoiltSpec)

/-- 'palmerlaw09.ManifestFalls', WHERE WHAT IT READS IS OF BULK AT MOST 1048576: true; the input reads as it did. -/
def manifestFallsUptoRow : OpenClaim := { program := "ytpoicbhbkabllaa", sum := "edc2d94448ce5201cbee1026364f46c513fd02d441dbadfbc36f617439539821", func := "palmer/palmerlaw09.ManifestFalls", spec := "manifestFalls", unfollowed := true, recurses := true, apart := false, narrowed := true }
def ManifestFallsUptoSaid : Prop := manifestFallsUptoRow.holds Try.pinned (OpenSpec.upto manifestFallsSpec)

end Rows
end Go.Proofs.Ytpoicbhbkabllaa
