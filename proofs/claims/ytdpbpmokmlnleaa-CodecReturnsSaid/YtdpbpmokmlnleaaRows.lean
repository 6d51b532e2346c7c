/-
  No cell of these rows narrows 'for every input' (looked for: loops, veiled, ifaces, maps, wideKeys, modest, calm, conditions, laid).
  DERIVED. THE GIVEN ROWS OF THIS SEAT. 8 by the template 'for every input the law returns true; each argument reads behind the call as it read before'; 0 by the template 'total and deterministic' (their statements: YtdpbpmokmlnleaaTotals.lean).
  GIVEN WITH THE SEED: the statements are not yours to turn. If you find one false, say at which input.
  Laid BY PROGRAM, IN A SANDBOX (cutbox-rows.mjs): the forced cells as the released guide's own fill.sh prints them over the translation 73ac157e26d650c7… (all of the seat's roots in one cut). By AI agents, Wed Nov 11 2026. No macro, syntax, notation, axiom, sorry.
-/
import Derived.Test.YtdpbpmokmlnleaaChecked
import GoSem.Claim
import GoSem.ClaimJoined
import GoSem.ClaimMapViews
import Derived.JoinedTies
import Derived.KernelRfl
namespace Go.Proofs.Ytdpbpmokmlnleaa
/- THE CELL 'sum', in the pinned program and in every row, IS THE sha256 OF THE DUMP (.gsa) THAT YtdpbpmokmlnleaaProg.lean LOADS. Nothing in Lean hashes anything: it is a label: what it is worth is what the hold of that sum in a sandbox is worth. -/
noncomputable def Try.pinned : Pinned := { name := "ytdpbpmokmlnleaa", sum := "73ac157e26d650c7c9655954d53eafc0a4b0ee25122b5371025d0f6f76c15984", checked := Try.checked }
namespace Rows
def none {H : Type} : Left H := { results := [], args := [] }

/-- 'partsynclaw02.CodecNumbers': WHATEVER THE INPUT: true; the input reads as it did. -/
def codecNumbersSpec : ChangeSpec := { name := "codecNumbers", fn := fun _ => fun
  | [d1, d2, d3, d4] => { results := [.lit (.bool true)], args := [d1, d2, d3, d4] }
  | _ => none }
def codecNumbersRow : OpenClaim := { program := "ytdpbpmokmlnleaa", sum := "73ac157e26d650c7c9655954d53eafc0a4b0ee25122b5371025d0f6f76c15984", func := "partsync/partsynclaw02.CodecNumbers", spec := "codecNumbers", unfollowed := true, recurses := true, apart := false }
def CodecNumbersSaid : Prop := codecNumbersRow.holds Try.pinned (OpenSpec.ofChange codecNumbersSpec)

/-- ITS FALSE NEIGHBOUR: 'it returns false'. Refute it at one input. -/
def codecNumbersWrong : ChangeSpec := { name := "codecNumbers", fn := fun _ => fun
  | [d1, d2, d3, d4] => { results := [.lit (.bool false)], args := [d1, d2, d3, d4] }
  | _ => none }
def CodecNumbersWrongFalsely : Prop := codecNumbersRow.holds Try.pinned (OpenSpec.ofChange codecNumbersWrong)

/-- 'partsynclaw02.CodecFresh': WHATEVER THE INPUT: true; the input reads as it did. -/
def codecFreshSpec : ChangeSpec := { name := "codecFresh", fn := fun _ => fun
  | [d1, d2, d3] => { results := [.lit (.bool true)], args := [d1, d2, d3] }
  | _ => none }
def codecFreshRow : OpenClaim := { program := "ytdpbpmokmlnleaa", sum := "73ac157e26d650c7c9655954d53eafc0a4b0ee25122b5371025d0f6f76c15984", func := "partsync/partsynclaw02.CodecFresh", spec := "codecFresh", unfollowed := true, recurses := true, apart := false }
def CodecFreshSaid : Prop := codecFreshRow.holds Try.pinned (OpenSpec.ofChange codecFreshSpec)

/-- ITS FALSE NEIGHBOUR: 'it returns false'. Refute it at one input. -/
def codecFreshWrong : ChangeSpec := { name := "codecFresh", fn := fun _ => fun
  | [d1, d2, d3] => { results := [.lit (.bool false)], args := [d1, d2, d3] }
  | _ => none }
def CodecFreshWrongFalsely : Prop := codecFreshRow.holds Try.pinned (OpenSpec.ofChange codecFreshWrong)

/-- 'partsynclaw02.CodecValues': WHATEVER THE INPUT: true; the input reads as it did. -/
def codecValuesSpec : ChangeSpec := { name := "codecValues", fn := fun _ => fun
  | [d1, d2, d3, d4] => { results := [.lit (.bool true)], args := [d1, d2, d3, d4] }
  | _ => none }
def codecValuesRow : OpenClaim := { program := "ytdpbpmokmlnleaa", sum := "73ac157e26d650c7c9655954d53eafc0a4b0ee25122b5371025d0f6f76c15984", func := "partsync/partsynclaw02.CodecValues", spec := "codecValues", unfollowed := true, recurses := true, apart := false }
def CodecValuesSaid : Prop := codecValuesRow.holds Try.pinned (OpenSpec.ofChange codecValuesSpec)

/-- ITS FALSE NEIGHBOUR: 'it returns false'. Refute it at one input. -/
def codecValuesWrong : ChangeSpec := { name := "codecValues", fn := fun _ => fun
  | [d1, d2, d3, d4] => { results := [.lit (.bool false)], args := [d1, d2, d3, d4] }
  | _ => none }
def CodecValuesWrongFalsely : Prop := codecValuesRow.holds Try.pinned (OpenSpec.ofChange codecValuesWrong)

/-- 'partsynclaw02.CodecReadsNumbers': WHATEVER THE INPUT: true; the input reads as it did. -/
def codecReadsNumbersSpec : ChangeSpec := { name := "codecReadsNumbers", fn := fun _ => fun
  | [d1, d2, d3] => { results := [.lit (.bool true)], args := [d1, d2, d3] }
  | _ => none }
def codecReadsNumbersRow : OpenClaim := { program := "ytdpbpmokmlnleaa", sum := "73ac157e26d650c7c9655954d53eafc0a4b0ee25122b5371025d0f6f76c15984", func := "partsync/partsynclaw02.CodecReadsNumbers", spec := "codecReadsNumbers", unfollowed := true, recurses := true, apart := false }
def CodecReadsNumbersSaid : Prop := codecReadsNumbersRow.holds Try.pinned (OpenSpec.ofChange codecReadsNumbersSpec)

/-- ITS FALSE NEIGHBOUR: 'it returns false'. Refute it at one input. -/
def codecReadsNumbersWrong : ChangeSpec := { name := "codecReadsNumbers", fn := fun _ => fun
  | [d1, d2, d3] => { results := [.lit (.bool false)], args := [d1, d2, d3] }
  | _ => none }
def CodecReadsNumbersWrongFalsely : Prop := codecReadsNumbersRow.holds Try.pinned (OpenSpec.ofChange codecReadsNumbersWrong)

/-- 'partsynclaw02.CodecOne': WHATEVER THE INPUT: true; the input reads as it did. -/
def codecOneSpec : ChangeSpec := { name := "codecOne", fn := fun _ => fun
  | [d1, d2, d3, d4] => { results := [.lit (.bool true)], args := [d1, d2, d3, d4] }
  | _ => none }
def codecOneRow : OpenClaim := { program := "ytdpbpmokmlnleaa", sum := "73ac157e26d650c7c9655954d53eafc0a4b0ee25122b5371025d0f6f76c15984", func := "partsync/partsynclaw02.CodecOne", spec := "codecOne", unfollowed := true, recurses := true, apart := false }
def CodecOneSaid : Prop := codecOneRow.holds Try.pinned (OpenSpec.ofChange codecOneSpec)

/-- ITS FALSE NEIGHBOUR: 'it returns false'. Refute it at one input. -/
def codecOneWrong : ChangeSpec := { name := "codecOne", fn := fun _ => fun
  | [d1, d2, d3, d4] => { results := [.lit (.bool false)], args := [d1, d2, d3, d4] }
  | _ => none }
def CodecOneWrongFalsely : Prop := codecOneRow.holds Try.pinned (OpenSpec.ofChange codecOneWrong)

/-- 'partsynclaw02.CodecCuts': WHATEVER THE INPUT: true; the input reads as it did. -/
def codecCutsSpec : ChangeSpec := { name := "codecCuts", fn := fun _ => fun
  | [d1, d2, d3] => { results := [.lit (.bool true)], args := [d1, d2, d3] }
  | _ => none }
def codecCutsRow : OpenClaim := { program := "ytdpbpmokmlnleaa", sum := "73ac157e26d650c7c9655954d53eafc0a4b0ee25122b5371025d0f6f76c15984", func := "partsync/partsynclaw02.CodecCuts", spec := "codecCuts", unfollowed := true, recurses := true, apart := false }
def CodecCutsSaid : Prop := codecCutsRow.holds Try.pinned (OpenSpec.ofChange codecCutsSpec)

/-- ITS FALSE NEIGHBOUR: 'it returns false'. Refute it at one input. -/
def codecCutsWrong : ChangeSpec := { name := "codecCuts", fn := fun _ => fun
  | [d1, d2, d3] => { results := [.lit (.bool false)], args := [d1, d2, d3] }
  | _ => none }
def CodecCutsWrongFalsely : Prop := codecCutsRow.holds Try.pinned (OpenSpec.ofChange codecCutsWrong)

/-- 'partsynclaw02.CodecReads': WHATEVER THE INPUT: true; the input reads as it did. -/
def codecReadsSpec : ChangeSpec := { name := "codecReads", fn := fun _ => fun
  | [d1, d2] => { results := [.lit (.bool true)], args := [d1, d2] }
  | _ => none }
def codecReadsRow : OpenClaim := { program := "ytdpbpmokmlnleaa", sum := "73ac157e26d650c7c9655954d53eafc0a4b0ee25122b5371025d0f6f76c15984", func := "partsync/partsynclaw02.CodecReads", spec := "codecReads", unfollowed := true, recurses := true, apart := false }
def CodecReadsSaid : Prop := codecReadsRow.holds Try.pinned (OpenSpec.ofChange codecReadsSpec)

/-- ITS FALSE NEIGHBOUR: 'it returns false'. Refute it at one input. -/
def codecReadsWrong : ChangeSpec := { name := "codecReads", fn := fun _ => fun
  | [d1, d2] => { results := [.lit (.bool false)], args := [d1, d2] }
  | _ => none }
def CodecReadsWrongFalsely : Prop := codecReadsRow.holds Try.pinned (OpenSpec.ofChange codecReadsWrong)

/-- 'partsynclaw02.CodecReturns': WHATEVER THE INPUT: true; the input reads as it did. -/
def codecReturnsSpec : ChangeSpec := { name := "codecReturns", fn := fun _ => fun
  | [d1, d2, d3, d4, d5] => { results := [.lit (.bool true)], args := [d1, d2, d3, d4, d5] }
  | _ => none }
def codecReturnsRow : OpenClaim := { program := "ytdpbpmokmlnleaa", sum := "73ac157e26d650c7c9655954d53eafc0a4b0ee25122b5371025d0f6f76c15984", func := "partsync/partsynclaw02.CodecReturns", spec := "codecReturns", unfollowed := true, recurses := true, apart := false }
def CodecReturnsSaid : Prop := codecReturnsRow.holds Try.pinned (OpenSpec.ofChange codecReturnsSpec)

/-- ITS FALSE NEIGHBOUR: 'it returns false'. Refute it at one input. -/
def codecReturnsWrong : ChangeSpec := { name := "codecReturns", fn := fun _ => fun
  | [d1, d2, d3, d4, d5] => { results := [.lit (.bool false)], args := [d1, d2, d3, d4, d5] }
  | _ => none }
def CodecReturnsWrongFalsely : Prop := codecReturnsRow.holds Try.pinned (OpenSpec.ofChange codecReturnsWrong)

/- THE SECOND FORM. 'bulk': how many values and letters a reading holds, each counted each time it is reached (what is shared counts as often as it is met; a slice's spare places count too). A statement '..UptoSaid' is the law's where the arguments, and the package variables that the reading takes, are together of bulk at most 1048576: NARROWER than '..Said'. Prove '..Said' where nothing that the law and all that it calls make is longer than what came in: it says more and counts as full. Else prove '..UptoSaid'. A law counts once. -/
mutual
def uptoBulk {H : Type} : DataW H → Nat
  | .lit (.string bytes) => bytes.length + 1
  | .lit _ => 1
  | .nil => 1
  | .ptr d => uptoBulk d + 1
  | .slice elems spare => uptoBulkAll elems + uptoBulkAll spare + 1
  | .agg parts => uptoBulkAll parts + 1
  | .iface _ d => uptoBulk d + 1
  | .map entries => uptoBulkEntries entries + 1
  | .held _ => 1
def uptoBulkAll {H : Type} : List (DataW H) → Nat
  | [] => 0
  | d :: r => uptoBulk d + uptoBulkAll r
def uptoBulkEntries {H : Type} : List (Lit × DataW H) → Nat
  | [] => 0
  | x :: r => uptoBulkEntry x + uptoBulkEntries r
def uptoBulkEntry {H : Type} : Lit × DataW H → Nat
  | (.string bytes, d) => bytes.length + uptoBulk d + 1
  | (_, d) => uptoBulk d + 1
 end
def uptoSmall : (H : Type) → List (DataW H) → Bool := fun _ ds => decide (uptoBulkAll ds ≤ 1048576)
def OpenSpec.upto (s : _root_.Go.ChangeSpec) : _root_.Go.OpenSpec := { _root_.Go.OpenSpec.ofChange s with cond := some uptoSmall }

/-- 'partsynclaw02.CodecNumbers', WHERE WHAT IT READS IS OF BULK AT MOST 1048576: true; the input reads as it did. -/
def codecNumbersUptoRow : OpenClaim := { program := "ytdpbpmokmlnleaa", sum := "73ac157e26d650c7c9655954d53eafc0a4b0ee25122b5371025d0f6f76c15984", func := "partsync/partsynclaw02.CodecNumbers", spec := "codecNumbers", unfollowed := true, recurses := true, apart := false, narrowed := true }
def CodecNumbersUptoSaid : Prop := codecNumbersUptoRow.holds Try.pinned (OpenSpec.upto codecNumbersSpec)

/-- 'partsynclaw02.CodecFresh', WHERE WHAT IT READS IS OF BULK AT MOST 1048576: true; the input reads as it did. -/
def codecFreshUptoRow : OpenClaim := { program := "ytdpbpmokmlnleaa", sum := "73ac157e26d650c7c9655954d53eafc0a4b0ee25122b5371025d0f6f76c15984", func := "partsync/partsynclaw02.CodecFresh", spec := "codecFresh", unfollowed := true, recurses := true, apart := false, narrowed := true }
def CodecFreshUptoSaid : Prop := codecFreshUptoRow.holds Try.pinned (OpenSpec.upto codecFreshSpec)

/-- 'partsynclaw02.CodecValues', WHERE WHAT IT READS IS OF BULK AT MOST 1048576: true; the input reads as it did. -/
def codecValuesUptoRow : OpenClaim := { program := "ytdpbpmokmlnleaa", sum := "73ac157e26d650c7c9655954d53eafc0a4b0ee25122b5371025d0f6f76c15984", func := "partsync/partsynclaw02.CodecValues", spec := "codecValues", unfollowed := true, recurses := true, apart := false, narrowed := true }
def CodecValuesUptoSaid : Prop := codecValuesUptoRow.holds Try.pinned (OpenSpec.upto codecValuesSpec)

/-- 'partsynclaw02.CodecReadsNumbers', WHERE WHAT IT READS IS OF BULK AT MOST 1048576: true; the input reads as it did. -/
def codecReadsNumbersUptoRow : OpenClaim := { program := "ytdpbpmokmlnleaa", sum := "73ac157e26d650c7c9655954d53eafc0a4b0ee25122b5371025d0f6f76c15984", func := "partsync/partsynclaw02.CodecReadsNumbers", spec := "codecReadsNumbers", unfollowed := true, recurses := true, apart := false, narrowed := true }
def CodecReadsNumbersUptoSaid : Prop := codecReadsNumbersUptoRow.holds Try.pinned (OpenSpec.upto codecReadsNumbersSpec)

/-- 'partsynclaw02.CodecOne', WHERE WHAT IT READS IS OF BULK AT MOST 1048576: true; the input reads as it did. -/
def codecOneUptoRow : OpenClaim := { program := "ytdpbpmokmlnleaa", sum := "73ac157e26d650c7c9655954d53eafc0a4b0ee25122b5371025d0f6f76c15984", func := "partsync/partsynclaw02.CodecOne", spec := "codecOne", unfollowed := true, recurses := true, apart := false, narrowed := true }
def CodecOneUptoSaid : Prop := codecOneUptoRow.holds Try.pinned (OpenSpec.upto codecOneSpec)

/-- 'partsynclaw02.CodecCuts', WHERE WHAT IT READS IS OF BULK AT MOST 1048576: true; the input reads as it did. -/
def codecCutsUptoRow : OpenClaim := { program := "ytdpbpmokmlnleaa", sum := "73ac157e26d650c7c9655954d53eafc0a4b0ee25122b5371025d0f6f76c15984", func := "partsync/partsynclaw02.CodecCuts", spec := "codecCuts", unfollowed := true, recurses := true, apart := false, narrowed := true }
def CodecCutsUptoSaid : Prop := codecCutsUptoRow.holds Try.pinned (OpenSpec.upto codecCutsSpec)

/-- 'partsynclaw02.CodecReads', WHERE WHAT IT READS IS OF BULK AT MOST 1048576: true; the input reads as it did. -/
def codecReadsUptoRow : OpenClaim := { program := "ytdpbpmokmlnleaa", sum := "73ac157e26d650c7c9655954d53eafc0a4b0ee25122b5371025d0f6f76c15984", func := "partsync/partsynclaw02.CodecReads", spec := "codecReads", unfollowed := true, recurses := true, apart := false, narrowed := true }
def CodecReadsUptoSaid : Prop := codecReadsUptoRow.holds Try.pinned (OpenSpec.upto codecReadsSpec)

/-- 'partsynclaw02.CodecReturns', WHERE WHAT IT READS IS OF BULK AT MOST 1048576: true; the input reads as it did. -/
def codecReturnsUptoRow : OpenClaim := { program := "ytdpbpmokmlnleaa", sum := "73ac157e26d650c7c9655954d53eafc0a4b0ee25122b5371025d0f6f76c15984", func := "partsync/partsynclaw02.CodecReturns", spec := "codecReturns", unfollowed := true, recurses := true, apart := false, narrowed := true }
def CodecReturnsUptoSaid : Prop := codecReturnsUptoRow.holds Try.pinned (OpenSpec.upto codecReturnsSpec)

end Rows
end Go.Proofs.Ytdpbpmokmlnleaa
