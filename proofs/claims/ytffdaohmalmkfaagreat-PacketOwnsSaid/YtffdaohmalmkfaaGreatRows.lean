/-
  No cell of these rows narrows 'for every input' (looked for: loops, veiled, ifaces, maps, wideKeys, modest, calm, conditions, laid).
  DERIVED. THE GIVEN ROWS OF THIS SEAT. 4 by the template 'for every input the law returns true; each argument reads behind the call as it read before'; 0 by the template 'total and deterministic' (their statements: YtffdaohmalmkfaaGreatTotals.lean).
  GIVEN WITH THE SEED: the statements are not yours to turn. If you find one false, say at which input.
  Laid BY PROGRAM, IN A SANDBOX (cutbox-rows.mjs): the forced cells as the released guide's own fill.sh prints them over the translation 6bc213a2fedd0821… (all of the seat's roots in one cut). By AI agents, Wed Nov 11 2026. No macro, syntax, notation, axiom, sorry.
-/
import Derived.Test.YtffdaohmalmkfaaGreatChecked
import GoSem.Claim
import GoSem.ClaimJoined
import GoSem.ClaimMapViews
import Derived.JoinedTies
import Derived.KernelRfl
namespace Go.Proofs.YtffdaohmalmkfaaGreat
/- THE CELL 'sum', in the pinned program and in every row, IS THE sha256 OF THE DUMP (.gsa) THAT YtffdaohmalmkfaaGreatProg.lean LOADS. Nothing in Lean hashes anything: it is a label: what it is worth is what the hold of that sum in a sandbox is worth. -/
noncomputable def Tryz.pinned : Pinned := { name := "ytffdaohmalmkfaagreat", sum := "6bc213a2fedd0821b86bc1ea29d55aebbd7a8489a5a4262a37192d2d1f94f65a", checked := Tryz.checked }
namespace Rows
def none {H : Type} : Left H := { results := [], args := [] }

/-- 'partsynclaw30.PacketReturns': WHATEVER THE INPUT: true; the input reads as it did. -/
def packetReturnsSpec : ChangeSpec := { name := "packetReturns", fn := fun _ => fun
  | [d1, d2] => { results := [.lit (.bool true)], args := [d1, d2] }
  | _ => none }
def packetReturnsRow : OpenClaim := { program := "ytffdaohmalmkfaagreat", sum := "6bc213a2fedd0821b86bc1ea29d55aebbd7a8489a5a4262a37192d2d1f94f65a", func := "partsync/partsynclaw30.PacketReturns", spec := "packetReturns", inPlace := ["internal/bytealg.abigen_runtime_cmpstring"], unfollowed := true, recurses := true, apart := false }
def PacketReturnsSaid : Prop := packetReturnsRow.holds Tryz.pinned (OpenSpec.ofChange packetReturnsSpec)

/-- ITS FALSE NEIGHBOUR: 'it returns false'. Refute it at one input. -/
def packetReturnsWrong : ChangeSpec := { name := "packetReturns", fn := fun _ => fun
  | [d1, d2] => { results := [.lit (.bool false)], args := [d1, d2] }
  | _ => none }
def PacketReturnsWrongFalsely : Prop := packetReturnsRow.holds Tryz.pinned (OpenSpec.ofChange packetReturnsWrong)

/-- 'partsynclaw30.PacketBounds': WHATEVER THE INPUT: true; the input reads as it did. -/
def packetBoundsSpec : ChangeSpec := { name := "packetBounds", fn := fun _ => fun
  | [d1, d2, d3] => { results := [.lit (.bool true)], args := [d1, d2, d3] }
  | _ => none }
def packetBoundsRow : OpenClaim := { program := "ytffdaohmalmkfaagreat", sum := "6bc213a2fedd0821b86bc1ea29d55aebbd7a8489a5a4262a37192d2d1f94f65a", func := "partsync/partsynclaw30.PacketBounds", spec := "packetBounds", inPlace := ["internal/bytealg.abigen_runtime_cmpstring"], unfollowed := true, recurses := true, apart := false }
def PacketBoundsSaid : Prop := packetBoundsRow.holds Tryz.pinned (OpenSpec.ofChange packetBoundsSpec)

/-- ITS FALSE NEIGHBOUR: 'it returns false'. Refute it at one input. -/
def packetBoundsWrong : ChangeSpec := { name := "packetBounds", fn := fun _ => fun
  | [d1, d2, d3] => { results := [.lit (.bool false)], args := [d1, d2, d3] }
  | _ => none }
def PacketBoundsWrongFalsely : Prop := packetBoundsRow.holds Tryz.pinned (OpenSpec.ofChange packetBoundsWrong)

/-- 'partsynclaw30.PacketSmall': WHATEVER THE INPUT: true; the input reads as it did. -/
def packetSmallSpec : ChangeSpec := { name := "packetSmall", fn := fun _ => fun
  | [d1, d2, d3] => { results := [.lit (.bool true)], args := [d1, d2, d3] }
  | _ => none }
def packetSmallRow : OpenClaim := { program := "ytffdaohmalmkfaagreat", sum := "6bc213a2fedd0821b86bc1ea29d55aebbd7a8489a5a4262a37192d2d1f94f65a", func := "partsync/partsynclaw30.PacketSmall", spec := "packetSmall", inPlace := ["internal/bytealg.MakeNoZero", "internal/bytealg.abigen_runtime_cmpstring"], unfollowed := true, recurses := true, apart := false }
def PacketSmallSaid : Prop := packetSmallRow.holds Tryz.pinned (OpenSpec.ofChange packetSmallSpec)

/-- ITS FALSE NEIGHBOUR: 'it returns false'. Refute it at one input. -/
def packetSmallWrong : ChangeSpec := { name := "packetSmall", fn := fun _ => fun
  | [d1, d2, d3] => { results := [.lit (.bool false)], args := [d1, d2, d3] }
  | _ => none }
def PacketSmallWrongFalsely : Prop := packetSmallRow.holds Tryz.pinned (OpenSpec.ofChange packetSmallWrong)

/-- 'partsynclaw30.PacketOwns': WHATEVER THE INPUT: true; the input reads as it did. -/
def packetOwnsSpec : ChangeSpec := { name := "packetOwns", fn := fun _ => fun
  | [d1, d2] => { results := [.lit (.bool true)], args := [d1, d2] }
  | _ => none }
def packetOwnsRow : OpenClaim := { program := "ytffdaohmalmkfaagreat", sum := "6bc213a2fedd0821b86bc1ea29d55aebbd7a8489a5a4262a37192d2d1f94f65a", func := "partsync/partsynclaw30.PacketOwns", spec := "packetOwns", inPlace := ["internal/bytealg.abigen_runtime_cmpstring"], unfollowed := true, recurses := true, apart := false }
def PacketOwnsSaid : Prop := packetOwnsRow.holds Tryz.pinned (OpenSpec.ofChange packetOwnsSpec)

/-- ITS FALSE NEIGHBOUR: 'it returns false'. Refute it at one input. -/
def packetOwnsWrong : ChangeSpec := { name := "packetOwns", fn := fun _ => fun
  | [d1, d2] => { results := [.lit (.bool false)], args := [d1, d2] }
  | _ => none }
def PacketOwnsWrongFalsely : Prop := packetOwnsRow.holds Tryz.pinned (OpenSpec.ofChange packetOwnsWrong)

/- THE SECOND FORM. 'bulk': how many values and letters a reading holds, each counted each time it is reached (what is shared counts as often as it is met; a slice's spare places count too). A statement '..UptoSaid' is the law's where the arguments, and the package variables that the reading takes, are together of bulk at most 1048576: NARROWER than '..Said'. Prove '..Said' where nothing that the law and all that it calls make is longer than what came in: it says more and counts as full. Else prove '..UptoSaid'. A law counts once. -/
mutual
def uptoBulk {H : Type} : DataW H → Nat
  | .lit (.string bytes) => bytes.length + 1
  | .lit _ => 1
  | .nil => 1
  | .ptr d => uptoBulk d + 1
  | .slice elems spare => uptoBulkAll elems + uptoBulkAll spare + 1
  | .agg parts => uptoBulkAll parts + 1
  | .iface _ d => uptoBulk d + 1
  | .map entries => uptoBulkEntries entries + 1
  | .held _ => 1
def uptoBulkAll {H : Type} : List (DataW H) → Nat
  | [] => 0
  | d :: r => uptoBulk d + uptoBulkAll r
def uptoBulkEntries {H : Type} : List (Lit × DataW H) → Nat
  | [] => 0
  | x :: r => uptoBulkEntry x + uptoBulkEntries r
def uptoBulkEntry {H : Type} : Lit × DataW H → Nat
  | (.string bytes, d) => bytes.length + uptoBulk d + 1
  | (_, d) => uptoBulk d + 1
 end
def uptoSmall : (H : Type) → List (DataW H) → Bool := fun _ ds => decide (uptoBulkAll ds ≤ 1048576)
def OpenSpec.upto (s : _root_.Go.ChangeSpec) : _root_.Go.OpenSpec := { _root_.Go.OpenSpec.ofChange s with cond := some uptoSmall }

/-- 'partsynclaw30.PacketReturns', WHERE WHAT IT READS IS OF BULK AT MOST 1048576: true; the input reads as it did. -/
def packetReturnsUptoRow : OpenClaim := { program := "ytffdaohmalmkfaagreat", sum := "6bc213a2fedd0821b86bc1ea29d55aebbd7a8489a5a4262a37192d2d1f94f65a", func := "partsync/partsynclaw30.PacketReturns", spec := "packetReturns", inPlace := ["internal/bytealg.abigen_runtime_cmpstring"], unfollowed := true, recurses := true, apart := false, narrowed := true }
def PacketReturnsUptoSaid : Prop := packetReturnsUptoRow.holds Tryz.pinned (OpenSpec.upto packetReturnsSpec)

/-- 'partsynclaw30.PacketBounds', WHERE WHAT IT READS IS OF BULK AT MOST 1048576: true; the input reads as it did. -/
def packetBoundsUptoRow : OpenClaim := { program := "ytffdaohmalmkfaagreat", sum := "6bc213a2fedd0821b86bc1ea29d55aebbd7a8489a5a4262a37192d2d1f94f65a", func := "partsync/partsynclaw30.PacketBounds", spec := "packetBounds", inPlace := ["internal/bytealg.abigen_runtime_cmpstring"], unfollowed := true, recurses := true, apart := false, narrowed := true }
def PacketBoundsUptoSaid : Prop := packetBoundsUptoRow.holds Tryz.pinned (OpenSpec.upto packetBoundsSpec)

/-- 'partsynclaw30.PacketSmall', WHERE WHAT IT READS IS OF BULK AT MOST 1048576: true; the input reads as it did. -/
def packetSmallUptoRow : OpenClaim := { program := "ytffdaohmalmkfaagreat", sum := "6bc213a2fedd0821b86bc1ea29d55aebbd7a8489a5a4262a37192d2d1f94f65a", func := "partsync/partsynclaw30.PacketSmall", spec := "packetSmall", inPlace := ["internal/bytealg.MakeNoZero", "internal/bytealg.abigen_runtime_cmpstring"], unfollowed := true, recurses := true, apart := false, narrowed := true }
def PacketSmallUptoSaid : Prop := packetSmallUptoRow.holds Tryz.pinned (OpenSpec.upto packetSmallSpec)

/-- 'partsynclaw30.PacketOwns', WHERE WHAT IT READS IS OF BULK AT MOST 1048576: true; the input reads as it did. -/
def packetOwnsUptoRow : OpenClaim := { program := "ytffdaohmalmkfaagreat", sum := "6bc213a2fedd0821b86bc1ea29d55aebbd7a8489a5a4262a37192d2d1f94f65a", func := "partsync/partsynclaw30.PacketOwns", spec := "packetOwns", inPlace := ["internal/bytealg.abigen_runtime_cmpstring"], unfollowed := true, recurses := true, apart := false, narrowed := true }
def PacketOwnsUptoSaid : Prop := packetOwnsUptoRow.holds Tryz.pinned (OpenSpec.upto packetOwnsSpec)

end Rows
end Go.Proofs.YtffdaohmalmkfaaGreat
