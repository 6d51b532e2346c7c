/-
  No cell of these rows narrows 'for every input' (looked for: loops, veiled, ifaces, maps, wideKeys, modest, calm, conditions, laid).
  DERIVED. THE GIVEN ROWS OF THIS SEAT. 8 by the template 'for every input the law returns true; each argument reads behind the call as it read before'; 0 by the template 'total and deterministic' (their statements: YteoodgcpkgfomaaTotals.lean).
  GIVEN WITH THE SEED: the statements are not yours to turn. If you find one false, say at which input.
  Laid BY PROGRAM, IN A SANDBOX (cutbox-rows.mjs): the forced cells as the released guide's own fill.sh prints them over the translation b1d13c5fac5817ee… (all of the seat's roots in one cut). By AI agents, Wed Nov 11 2026. No macro, syntax, notation, axiom, sorry.
-/
import Derived.Test.YteoodgcpkgfomaaChecked
import GoSem.Claim
import GoSem.ClaimJoined
import GoSem.ClaimMapViews
import Derived.JoinedTies
import Derived.KernelRfl
namespace Go.Proofs.Yteoodgcpkgfomaa
/- THE CELL 'sum', in the pinned program and in every row, IS THE sha256 OF THE DUMP (.gsa) THAT YteoodgcpkgfomaaProg.lean LOADS. Nothing in Lean hashes anything: it is a label: what it is worth is what the hold of that sum in a sandbox is worth. -/
noncomputable def Try.pinned : Pinned := { name := "yteoodgcpkgfomaa", sum := "b1d13c5fac5817eeb4d041136a7a07f9c7390fea2ada56da71edbf9b094d04b3", checked := Try.checked }
namespace Rows
def none {H : Type} : Left H := { results := [], args := [] }

/-- 'partsynclaw22.DiskPlays': WHATEVER THE INPUT: true; the input reads as it did. -/
def diskPlaysSpec : ChangeSpec := { name := "diskPlays", fn := fun _ => fun
  | [d1, d2] => { results := [.lit (.bool true)], args := [d1, d2] }
  | _ => none }
def diskPlaysRow : OpenClaim := { program := "yteoodgcpkgfomaa", sum := "b1d13c5fac5817eeb4d041136a7a07f9c7390fea2ada56da71edbf9b094d04b3", func := "partsync/partsynclaw22.DiskPlays", spec := "diskPlays", unfollowed := true, recurses := true, apart := false }
def DiskPlaysSaid : Prop := diskPlaysRow.holds Try.pinned (OpenSpec.ofChange diskPlaysSpec)

/-- ITS FALSE NEIGHBOUR: 'it returns false'. Refute it at one input. -/
def diskPlaysWrong : ChangeSpec := { name := "diskPlays", fn := fun _ => fun
  | [d1, d2] => { results := [.lit (.bool false)], args := [d1, d2] }
  | _ => none }
def DiskPlaysWrongFalsely : Prop := diskPlaysRow.holds Try.pinned (OpenSpec.ofChange diskPlaysWrong)

/-- 'partsynclaw23.JournalApart': WHATEVER THE INPUT: true; the input reads as it did. -/
def journalApartSpec : ChangeSpec := { name := "journalApart", fn := fun _ => fun
  | [d1, d2] => { results := [.lit (.bool true)], args := [d1, d2] }
  | _ => none }
def journalApartRow : OpenClaim := { program := "yteoodgcpkgfomaa", sum := "b1d13c5fac5817eeb4d041136a7a07f9c7390fea2ada56da71edbf9b094d04b3", func := "partsync/partsynclaw23.JournalApart", spec := "journalApart", unfollowed := true, recurses := true, apart := false }
def JournalApartSaid : Prop := journalApartRow.holds Try.pinned (OpenSpec.ofChange journalApartSpec)

/-- ITS FALSE NEIGHBOUR: 'it returns false'. Refute it at one input. -/
def journalApartWrong : ChangeSpec := { name := "journalApart", fn := fun _ => fun
  | [d1, d2] => { results := [.lit (.bool false)], args := [d1, d2] }
  | _ => none }
def JournalApartWrongFalsely : Prop := journalApartRow.holds Try.pinned (OpenSpec.ofChange journalApartWrong)

/-- 'partsynclaw23.JournalTorn': WHATEVER THE INPUT: true; the input reads as it did. -/
def journalTornSpec : ChangeSpec := { name := "journalTorn", fn := fun _ => fun
  | [d1, d2] => { results := [.lit (.bool true)], args := [d1, d2] }
  | _ => none }
def journalTornRow : OpenClaim := { program := "yteoodgcpkgfomaa", sum := "b1d13c5fac5817eeb4d041136a7a07f9c7390fea2ada56da71edbf9b094d04b3", func := "partsync/partsynclaw23.JournalTorn", spec := "journalTorn", unfollowed := true, recurses := true, apart := false }
def JournalTornSaid : Prop := journalTornRow.holds Try.pinned (OpenSpec.ofChange journalTornSpec)

/-- ITS FALSE NEIGHBOUR: 'it returns false'. Refute it at one input. -/
def journalTornWrong : ChangeSpec := { name := "journalTorn", fn := fun _ => fun
  | [d1, d2] => { results := [.lit (.bool false)], args := [d1, d2] }
  | _ => none }
def JournalTornWrongFalsely : Prop := journalTornRow.holds Try.pinned (OpenSpec.ofChange journalTornWrong)

/-- 'partsynclaw23.JournalOpens': WHATEVER THE INPUT: true; the input reads as it did. -/
def journalOpensSpec : ChangeSpec := { name := "journalOpens", fn := fun _ => fun
  | [d1, d2, d3] => { results := [.lit (.bool true)], args := [d1, d2, d3] }
  | _ => none }
def journalOpensRow : OpenClaim := { program := "yteoodgcpkgfomaa", sum := "b1d13c5fac5817eeb4d041136a7a07f9c7390fea2ada56da71edbf9b094d04b3", func := "partsync/partsynclaw23.JournalOpens", spec := "journalOpens", unfollowed := true, recurses := true, apart := false }
def JournalOpensSaid : Prop := journalOpensRow.holds Try.pinned (OpenSpec.ofChange journalOpensSpec)

/-- ITS FALSE NEIGHBOUR: 'it returns false'. Refute it at one input. -/
def journalOpensWrong : ChangeSpec := { name := "journalOpens", fn := fun _ => fun
  | [d1, d2, d3] => { results := [.lit (.bool false)], args := [d1, d2, d3] }
  | _ => none }
def JournalOpensWrongFalsely : Prop := journalOpensRow.holds Try.pinned (OpenSpec.ofChange journalOpensWrong)

/-- 'partsynclaw23.JournalFrames': WHATEVER THE INPUT: true; the input reads as it did. -/
def journalFramesSpec : ChangeSpec := { name := "journalFrames", fn := fun _ => fun
  | [d1, d2] => { results := [.lit (.bool true)], args := [d1, d2] }
  | _ => none }
def journalFramesRow : OpenClaim := { program := "yteoodgcpkgfomaa", sum := "b1d13c5fac5817eeb4d041136a7a07f9c7390fea2ada56da71edbf9b094d04b3", func := "partsync/partsynclaw23.JournalFrames", spec := "journalFrames", unfollowed := true, recurses := true, apart := false }
def JournalFramesSaid : Prop := journalFramesRow.holds Try.pinned (OpenSpec.ofChange journalFramesSpec)

/-- ITS FALSE NEIGHBOUR: 'it returns false'. Refute it at one input. -/
def journalFramesWrong : ChangeSpec := { name := "journalFrames", fn := fun _ => fun
  | [d1, d2] => { results := [.lit (.bool false)], args := [d1, d2] }
  | _ => none }
def JournalFramesWrongFalsely : Prop := journalFramesRow.holds Try.pinned (OpenSpec.ofChange journalFramesWrong)

/-- 'partsynclaw23.JournalStops': WHATEVER THE INPUT: true; the input reads as it did. -/
def journalStopsSpec : ChangeSpec := { name := "journalStops", fn := fun _ => fun
  | [d1, d2, d3] => { results := [.lit (.bool true)], args := [d1, d2, d3] }
  | _ => none }
def journalStopsRow : OpenClaim := { program := "yteoodgcpkgfomaa", sum := "b1d13c5fac5817eeb4d041136a7a07f9c7390fea2ada56da71edbf9b094d04b3", func := "partsync/partsynclaw23.JournalStops", spec := "journalStops", unfollowed := true, recurses := true, apart := false }
def JournalStopsSaid : Prop := journalStopsRow.holds Try.pinned (OpenSpec.ofChange journalStopsSpec)

/-- ITS FALSE NEIGHBOUR: 'it returns false'. Refute it at one input. -/
def journalStopsWrong : ChangeSpec := { name := "journalStops", fn := fun _ => fun
  | [d1, d2, d3] => { results := [.lit (.bool false)], args := [d1, d2, d3] }
  | _ => none }
def JournalStopsWrongFalsely : Prop := journalStopsRow.holds Try.pinned (OpenSpec.ofChange journalStopsWrong)

/-- 'partsynclaw23.JournalPlays': WHATEVER THE INPUT: true; the input reads as it did. -/
def journalPlaysSpec : ChangeSpec := { name := "journalPlays", fn := fun _ => fun
  | [d1, d2, d3] => { results := [.lit (.bool true)], args := [d1, d2, d3] }
  | _ => none }
def journalPlaysRow : OpenClaim := { program := "yteoodgcpkgfomaa", sum := "b1d13c5fac5817eeb4d041136a7a07f9c7390fea2ada56da71edbf9b094d04b3", func := "partsync/partsynclaw23.JournalPlays", spec := "journalPlays", unfollowed := true, recurses := true, apart := false }
def JournalPlaysSaid : Prop := journalPlaysRow.holds Try.pinned (OpenSpec.ofChange journalPlaysSpec)

/-- ITS FALSE NEIGHBOUR: 'it returns false'. Refute it at one input. -/
def journalPlaysWrong : ChangeSpec := { name := "journalPlays", fn := fun _ => fun
  | [d1, d2, d3] => { results := [.lit (.bool false)], args := [d1, d2, d3] }
  | _ => none }
def JournalPlaysWrongFalsely : Prop := journalPlaysRow.holds Try.pinned (OpenSpec.ofChange journalPlaysWrong)

/-- 'partsynclaw23.JournalSurvives': WHATEVER THE INPUT: true; the input reads as it did. -/
def journalSurvivesSpec : ChangeSpec := { name := "journalSurvives", fn := fun _ => fun
  | [d1, d2, d3, d4] => { results := [.lit (.bool true)], args := [d1, d2, d3, d4] }
  | _ => none }
def journalSurvivesRow : OpenClaim := { program := "yteoodgcpkgfomaa", sum := "b1d13c5fac5817eeb4d041136a7a07f9c7390fea2ada56da71edbf9b094d04b3", func := "partsync/partsynclaw23.JournalSurvives", spec := "journalSurvives", unfollowed := true, recurses := true, apart := false }
def JournalSurvivesSaid : Prop := journalSurvivesRow.holds Try.pinned (OpenSpec.ofChange journalSurvivesSpec)

/-- ITS FALSE NEIGHBOUR: 'it returns false'. Refute it at one input. -/
def journalSurvivesWrong : ChangeSpec := { name := "journalSurvives", fn := fun _ => fun
  | [d1, d2, d3, d4] => { results := [.lit (.bool false)], args := [d1, d2, d3, d4] }
  | _ => none }
def JournalSurvivesWrongFalsely : Prop := journalSurvivesRow.holds Try.pinned (OpenSpec.ofChange journalSurvivesWrong)

/- THE SECOND FORM. 'bulk': how many values and letters a reading holds, each counted each time it is reached (what is shared counts as often as it is met; a slice's spare places count too). A statement '..UptoSaid' is the law's where the arguments, and the package variables that the reading takes, are together of bulk at most 1048576: NARROWER than '..Said'. Prove '..Said' where nothing that the law and all that it calls make is longer than what came in: it says more and counts as full. Else prove '..UptoSaid'. A law counts once. -/
mutual
def uptoBulk {H : Type} : DataW H → Nat
  | .lit (.string bytes) => bytes.length + 1
  | .lit _ => 1
  | .nil => 1
  | .ptr d => uptoBulk d + 1
  | .slice elems spare => uptoBulkAll elems + uptoBulkAll spare + 1
  | .agg parts => uptoBulkAll parts + 1
  | .iface _ d => uptoBulk d + 1
  | .map entries => uptoBulkEntries entries + 1
  | .held _ => 1
def uptoBulkAll {H : Type} : List (DataW H) → Nat
  | [] => 0
  | d :: r => uptoBulk d + uptoBulkAll r
def uptoBulkEntries {H : Type} : List (Lit × DataW H) → Nat
  | [] => 0
  | x :: r => uptoBulkEntry x + uptoBulkEntries r
def uptoBulkEntry {H : Type} : Lit × DataW H → Nat
  | (.string bytes, d) => bytes.length + uptoBulk d + 1
  | (_, d) => uptoBulk d + 1
 end
def uptoSmall : (H : Type) → List (DataW H) → Bool := fun _ ds => decide (uptoBulkAll ds ≤ 1048576)
def OpenSpec.upto (s : _root_.Go.ChangeSpec) : _root_.Go.OpenSpec := { _root_.Go.OpenSpec.ofChange s with cond := some uptoSmall }

/-- 'partsynclaw22.DiskPlays', WHERE WHAT IT READS IS OF BULK AT MOST 1048576: true; the input reads as it did. -/
def diskPlaysUptoRow : OpenClaim := { program := "yteoodgcpkgfomaa", sum := "b1d13c5fac5817eeb4d041136a7a07f9c7390fea2ada56da71edbf9b094d04b3", func := "partsync/partsynclaw22.DiskPlays", spec := "diskPlays", unfollowed := true, recurses := true, apart := false, narrowed := true }
def DiskPlaysUptoSaid : Prop := diskPlaysUptoRow.holds Try.pinned (OpenSpec.upto diskPlaysSpec)

/-- 'partsynclaw23.JournalApart', WHERE WHAT IT READS IS OF BULK AT MOST 1048576: true; the input reads as it did. -/
def journalApartUptoRow : OpenClaim := { program := "yteoodgcpkgfomaa", sum := "b1d13c5fac5817eeb4d041136a7a07f9c7390fea2ada56da71edbf9b094d04b3", func := "partsync/partsynclaw23.JournalApart", spec := "journalApart", unfollowed := true, recurses := true, apart := false, narrowed := true }
def JournalApartUptoSaid : Prop := journalApartUptoRow.holds Try.pinned (OpenSpec.upto journalApartSpec)

/-- 'partsynclaw23.JournalTorn', WHERE WHAT IT READS IS OF BULK AT MOST 1048576: true; the input reads as it did. -/
def journalTornUptoRow : OpenClaim := { program := "yteoodgcpkgfomaa", sum := "b1d13c5fac5817eeb4d041136a7a07f9c7390fea2ada56da71edbf9b094d04b3", func := "partsync/partsynclaw23.JournalTorn", spec := "journalTorn", unfollowed := true, recurses := true, apart := false, narrowed := true }
def JournalTornUptoSaid : Prop := journalTornUptoRow.holds Try.pinned (OpenSpec.upto journalTornSpec)

/-- 'partsynclaw23.JournalOpens', WHERE WHAT IT READS IS OF BULK AT MOST 1048576: true; the input reads as it did. -/
def journalOpensUptoRow : OpenClaim := { program := "yteoodgcpkgfomaa", sum := "b1d13c5fac5817eeb4d041136a7a07f9c7390fea2ada56da71edbf9b094d04b3", func := "partsync/partsynclaw23.JournalOpens", spec := "journalOpens", unfollowed := true, recurses := true, apart := false, narrowed := true }
def JournalOpensUptoSaid : Prop := journalOpensUptoRow.holds Try.pinned (OpenSpec.upto journalOpensSpec)

/-- 'partsynclaw23.JournalFrames', WHERE WHAT IT READS IS OF BULK AT MOST 1048576: true; the input reads as it did. -/
def journalFramesUptoRow : OpenClaim := { program := "yteoodgcpkgfomaa", sum := "b1d13c5fac5817eeb4d041136a7a07f9c7390fea2ada56da71edbf9b094d04b3", func := "partsync/partsynclaw23.JournalFrames", spec := "journalFrames", unfollowed := true, recurses := true, apart := false, narrowed := true }
def JournalFramesUptoSaid : Prop := journalFramesUptoRow.holds Try.pinned (OpenSpec.upto journalFramesSpec)

/-- 'partsynclaw23.JournalStops', WHERE WHAT IT READS IS OF BULK AT MOST 1048576: true; the input reads as it did. -/
def journalStopsUptoRow : OpenClaim := { program := "yteoodgcpkgfomaa", sum := "b1d13c5fac5817eeb4d041136a7a07f9c7390fea2ada56da71edbf9b094d04b3", func := "partsync/partsynclaw23.JournalStops", spec := "journalStops", unfollowed := true, recurses := true, apart := false, narrowed := true }
def JournalStopsUptoSaid : Prop := journalStopsUptoRow.holds Try.pinned (OpenSpec.upto journalStopsSpec)

/-- 'partsynclaw23.JournalPlays', WHERE WHAT IT READS IS OF BULK AT MOST 1048576: true; the input reads as it did. -/
def journalPlaysUptoRow : OpenClaim := { program := "yteoodgcpkgfomaa", sum := "b1d13c5fac5817eeb4d041136a7a07f9c7390fea2ada56da71edbf9b094d04b3", func := "partsync/partsynclaw23.JournalPlays", spec := "journalPlays", unfollowed := true, recurses := true, apart := false, narrowed := true }
def JournalPlaysUptoSaid : Prop := journalPlaysUptoRow.holds Try.pinned (OpenSpec.upto journalPlaysSpec)

/-- 'partsynclaw23.JournalSurvives', WHERE WHAT IT READS IS OF BULK AT MOST 1048576: true; the input reads as it did. -/
def journalSurvivesUptoRow : OpenClaim := { program := "yteoodgcpkgfomaa", sum := "b1d13c5fac5817eeb4d041136a7a07f9c7390fea2ada56da71edbf9b094d04b3", func := "partsync/partsynclaw23.JournalSurvives", spec := "journalSurvives", unfollowed := true, recurses := true, apart := false, narrowed := true }
def JournalSurvivesUptoSaid : Prop := journalSurvivesUptoRow.holds Try.pinned (OpenSpec.upto journalSurvivesSpec)

end Rows
end Go.Proofs.Yteoodgcpkgfomaa
