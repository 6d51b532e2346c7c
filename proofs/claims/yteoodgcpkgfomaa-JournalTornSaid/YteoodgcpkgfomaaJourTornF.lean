/-
  JournalTorn: the walk, at the argument's own bounds.
-/
import Derived.Test.YteoodgcpkgfomaaJourTorn
namespace Go.Proofs.Yteoodgcpkgfomaa
open Go.RowKit
set_option linter.unusedVariables false

theorem torn_final (v : Value) (p : List Value × List (List UInt8)) (at_ : Int) (w : World) (hr : LsR w v p.1 p.2 ∧ p.2.length ≤ maxLen ∧ ∀ b ∈ p.2, b.length ≤ maxLen) (h : (Lit.int .u16 at_).wf = true) :
    Calls Try.prog 5 #[v, .int .u16 at_] w (RetNew (.bool true) w) := by
  have hx : 0 ≤ at_ ∧ at_ ≤ 65535 := by simpa [Lit.wf, IntKind.min, IntKind.max, IntKind.signed, IntKind.bits] using h
  exact torn_walk v p at_ w hr hx.1 hx.2

end Go.Proofs.Yteoodgcpkgfomaa
