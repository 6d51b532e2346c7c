/-
  Codec: begin; Uint with its deferred closure.
-/
import Derived.Test.YtffdaohmalmkfaaGreatCodecD
namespace Go.Proofs.YtffdaohmalmkfaaGreat
open Go.RowKit
set_option linter.unusedVariables false

set_option maxHeartbeats 400000 in
theorem begin_bad (v : Value) (l : List UInt8) (n : Int) (w : World) (hb : Bs w v l) (hn : n < 0 ∨ (l.length : Int) < n) :
    Calls Tryz.prog 189 #[v, .int .i64 n] w fun e w' => e = Pan 1 ∧ w = w' := by
  obtain ⟨A, cap, rfl, -⟩ := hb
  by_cases h0 : n < 0
  · go_enter Tryz.func189, Tryz.ntmps189
    go_wp2
    exact ⟨rfl, rfl, rfl⟩
  · have h1 : (l.length : Int) < n := by omega
    go_enter Tryz.func189, Tryz.ntmps189
    go_wp2
    exact ⟨rfl, rfl, rfl⟩

set_option maxHeartbeats 400000 in
theorem begin_ok (v : Value) (l : List UInt8) (n : Nat) (w : World) (hb : Bs w v l) (hn : n ≤ l.length) :
    Calls Tryz.prog 189 #[v, .int .i64 n] w fun e w' => e = .returned (.pointer (some ⟨w.heap.size, 0, none⟩)) ∧ w' = w.alloc (.cells #[v, .int .i64 n] 269) := by
  obtain ⟨A, cap, rfl, -⟩ := hb
  have h0 : ¬ (n : Int) < 0 := by omega
  have h1 : ¬ (l.length : Int) < (n : Int) := by omega
  go_enter Tryz.func189, Tryz.ntmps189
  go_wp2
  go_ret
  exact ⟨rfl, rfl⟩

theorem errno_zero (w : World) : (zeroValue 40).run Tryz.prog w = .ok (.int .i64 0) w := by
  have h : (Tryz.prog.info? 40).map (·.zero) = some (some (.int .i64 0)) := by kernel_rfl
  obtain ⟨i, hi, hz⟩ := Option.map_eq_some_iff.1 h
  simp [zeroValue, typeInfo, hi, hz]
theorem assert_is (c : Int) (w : World) : (Instr.typeAssert (.iface 40 (.int .i64 c)) 20 40 true).run Tryz.prog w = .ok (.tuple #[.int .i64 c, .bool true]) w := by
  simp [Instr.typeAssert, run_underlying Tryz.underlying40, go_sem, Result.andThen]
theorem assert_nil (w : World) : (Instr.typeAssert .nilIface 20 40 true).run Tryz.prog w = .ok (.tuple #[.int .i64 0, .bool false]) w := by
  simp [Instr.typeAssert, run_underlying Tryz.underlying40, errno_zero, go_sem, Result.andThen]

set_option maxHeartbeats 1000000 in
theorem uintD_panicking (p q r : Addr) (x y z c : Int) (older : List PanicEntry) (w : World) (h1 : w.cell? p = some (.int .u64 x)) (f1 : w.frozen? p = false) (h2 : w.cell? q = some (.int .i64 y)) (f2 : w.frozen? q = false) (h3 : w.cell? r = some (.int .i64 z)) (f3 : w.frozen? r = false) (hpq : p.block ≠ q.block) (hpr : p.block ≠ r.block) (hqr : q.block ≠ r.block) :
    CallsD Tryz.prog 296 #[.pointer (some p), .pointer (some q), .pointer (some r)] (.panicking ({ v := .iface 40 (.int .i64 c), recovered := false } :: older)) w fun e u' w' =>
      e = .returned (.tuple #[]) ∧ u' = .panicking ({ v := .iface 40 (.int .i64 c), recovered := true } :: older) ∧ w' = ((w.setCell p (.int .u64 0)).setCell q (.int .i64 0)).setCell r (.int .i64 c) := by
  have g2 : (w.setCell p (.int .u64 0)).cell? q = some (.int .i64 y) := (World.cell?_setCell_far _ _ _ _ hpq).trans h2
  have g3 : ((w.setCell p (.int .u64 0)).setCell q (.int .i64 0)).cell? r = some (.int .i64 z) := (World.cell?_setCell_far _ _ _ _ hqr).trans ((World.cell?_setCell_far _ _ _ _ hpr).trans h3)
  have k2 : (w.setCell p (.int .u64 0)).frozen? q = false := (World.frozen?_setCell _ _ _ _).trans f2
  have k3 : ((w.setCell p (.int .u64 0)).setCell q (.int .i64 0)).frozen? r = false := (World.frozen?_setCell _ _ _ _).trans ((World.frozen?_setCell _ _ _ _).trans f3)
  refine callsD_of_wpS Tryz.func296 rfl fun c₀ cs hu => ?_
  apply wpS_seq
  apply wpS_region
  simp [wpOpsS, go_sem, recoverD, hu, Tryz.ntmps296, Exit.thenS, assert_is]
  apply wpS_seq
  apply wpS_region
  simp [wpOpsS, go_sem, Exit.thenS]
  refine wpS_cond (t := true) (by simp [Act.eval, Array.replicate]) ?_
  simp only [if_true]
  apply wpS_region
  simp [wpOpsS, go_sem, h1, f1, g2, g3, k2, k3, bodyPostS, results, Tryz.results296]

set_option maxHeartbeats 1000000 in
theorem uintD_idle (p q r : Addr) (w : World) :
    CallsD Tryz.prog 296 #[.pointer (some p), .pointer (some q), .pointer (some r)] .returning w fun e u' w' => e = .returned (.tuple #[]) ∧ u' = .returning ∧ w' = w := by
  refine callsD_of_wpS Tryz.func296 rfl fun c₀ cs hu => ?_
  apply wpS_seq
  apply wpS_region
  simp [wpOpsS, go_sem, recoverD, hu, Tryz.ntmps296, Exit.thenS, assert_nil]
  apply wpS_seq
  apply wpS_region
  simp [wpOpsS, go_sem, Exit.thenS]
  refine wpS_cond (t := false) (by simp [Act.eval, Array.replicate]) ?_
  simp only [Bool.false_eq_true, if_false]
  refine wpS_of_wp (wp_skip ?_)
  cases c₀
  simp_all [bodyPostS, results, Tryz.results296]

end Go.Proofs.YtffdaohmalmkfaaGreat
