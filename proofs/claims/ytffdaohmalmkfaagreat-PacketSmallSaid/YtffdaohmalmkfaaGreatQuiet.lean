/-
  Steps of a region that only reads, laid by hand where the walk's own step is slow: a slice expression, a conversion. No program in sight.
-/
import Derived.Test.YtffdaohmalmkfaaGreatBase3
import Derived.Deep.QuietTactic
import Derived.BigQuiet
import Derived.Laws.Slices
import Derived.WalkSpells
namespace Go.Proofs.YtffdaohmalmkfaaGreat
open Go.RowKit
set_option linter.unusedVariables false

section
variable {P : Program} {ops : Array Oper} {C : World → Prop} {Q : Act → Prop} {a : Act} {o : Oper} {rest : List Oper}
theorem quiet_run (v : Value) (hw : Region.wanted o (yielded ops a.tmps) = true) (h : ∀ w, C w → (execOp a.eval o).run P w = .ok (.value v) w) (hk : wpQuiet P ops C Q rest (a.put o.dst v)) : wpQuiet P ops C Q (o :: rest) a :=
  BigFrame.wpQuiet_want hw fun K hK => ⟨v, fun w hC => by unfold Oper.quietAt; rw [h w hC]; exact ⟨rfl, rfl⟩, hK _ hk⟩
theorem quiet_slice (v : Value) (t : TypeId) (x : Operand) (lo hi : Option Operand) (ho : o.op = .slice t x lo hi none) (ht : P.underlying t = some (.slice (P.elem t))) (hw : Region.wanted o (yielded ops a.tmps) = true)
    (x0 : Value) (l0 h0 : Option Value) (hx : a.eval x = x0) (hl : lo.map a.eval = l0) (hh : hi.map a.eval = h0)
    (h : ∀ w, C w → (Instr.slice t x0 l0 h0 none).run P w = .ok v w) (hk : wpQuiet P ops C Q rest (a.put o.dst v)) : wpQuiet P ops C Q (o :: rest) a :=
  quiet_run v hw (fun w hC => by
    unfold execOp
    simp only [ho, Sem.run_bind, Option.map_none]
    rw [hx, hl, hh, run_sliceAt_slice w t x0 l0 h0 none ht, h w hC]
    rfl) hk
theorem quiet_convert (v : Value) (s t : TypeId) (x : Operand) (ho : o.op = .convert s t x) (hw : Region.wanted o (yielded ops a.tmps) = true)
    (x0 : Value) (hx : a.eval x = x0) (h : ∀ w, C w → (convert s t x0).run P w = .ok v w) (hk : wpQuiet P ops C Q rest (a.put o.dst v)) : wpQuiet P ops C Q (o :: rest) a :=
  quiet_run v hw (fun w hC => by
    unfold execOp
    simp only [ho, Sem.run_bind]
    rw [hx, h w hC]
    rfl) hk
end

/-- 's[lo:hi]' of a slice of bytes: the run. -/
theorem run_slice_nat {P : Program} (w : World) (t : TypeId) (ht : P.underlying t = some (.slice (P.elem t))) (hsz : ∀ w, (sizeOf (P.elem t)).run P w = .ok 1 w) (A : Option Addr) (n cap lo hi : Nat) (h1 : lo ≤ hi) (h2 : hi ≤ cap) :
    (Instr.slice t (.slice A n cap) (some (.int .i64 (lo : Int))) (some (.int .i64 (hi : Int))) none).run P w = .ok (sliced A lo hi cap 1) w := by
  rw [run_slice_lh w t _ _ _ ht .i64 .i64 (lo : Int) (hi : Int) (Int.natCast_nonneg lo) (by omega) (by omega), hsz]
  simp only [Result.andThen, Int.toNat_natCast]
end Go.Proofs.YtffdaohmalmkfaaGreat
