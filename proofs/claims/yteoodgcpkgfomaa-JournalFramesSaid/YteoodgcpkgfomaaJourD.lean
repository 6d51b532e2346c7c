/-
  Journal: load: the records of a file gathered by a range over the frames; the panic that ends it recovered.
-/
import Derived.Test.YteoodgcpkgfomaaJourC
import Derived.RecoverIn
namespace Go.Proofs.Yteoodgcpkgfomaa
open Go.RowKit Go.Shelf
attribute [local go_sem] Oper.semAt_some
set_option linter.unusedVariables false

theorem stop_zero (w : World) : (zeroValue 102).run Try.prog w = .ok (.agg #[.int .i64 0, .bool false]) w := by
  have h : (Try.prog.info? 102).map (·.zero) = some (some (.agg #[.int .i64 0, .bool false])) := by kernel_rfl
  obtain ⟨i, hi, hz⟩ := Option.map_eq_some_iff.1 h
  simp [zeroValue, typeInfo, hi, hz]
theorem assert_stop (v : Value) (w : World) : (Instr.typeAssert (.iface 102 v) 20 102 true).run Try.prog w = .ok (.tuple #[v, .bool true]) w := by
  simp [Instr.typeAssert, run_underlying Try.underlying102, go_sem, Result.andThen]

set_option maxRecDepth 100000 in
set_option maxHeartbeats 400000 in
theorem loadD_idle (n : Nat) (p q : Addr) (w : World) :
    CallsDIn Fence.wide n Try.prog 78 #[.pointer (some p), .pointer (some q)] .returning w fun e u' w' => e = .returned (.tuple #[]) ∧ u' = .returning ∧ w' = w := by
  refine callsDIn_of_wpSIn Try.func78 rfl trivial fun c₀ cs hu => ?_
  apply wpSIn_seq
  apply wpSIn_region
  simp [wpOpsSIn, go_sem, recoverD, hu, Try.ntmps78, Exit.thenS]
  apply wpSIn_seq
  apply wpSIn_region
  simp [wpOpsSIn, go_sem, Exit.thenS]
  refine wpSIn_cond (t := false) (by simp [Act.eval, Array.replicate]) ?_
  simp only [Bool.false_eq_true, if_false]
  refine wpSIn_of_wpIn rfl (wpIn_wide.2 (wp_skip ?_))
  cases c₀
  simp_all [bodyPostS, results, Try.results78]

/-- What the deferred function leaves where it has caught a stop. -/
def Caught (P Q : Nat) (tp tq : TypeId) (n : Nat) (t : Bool) (w : World) (w' : World) : Prop :=
  Blk w' P tp #[.int .i64 (n : Int)] ∧ Blk w' Q tq #[.bool t] ∧ Kept (fun k => k = P ∨ k = Q) w w'

def CaughtQ (P Q n : Nat) (t : Bool) (w : World) (e : Exit) (a : Act) (w' : World) : Prop := (e = .normal ∨ e = .ret) ∧ a.defers = [] ∧ Caught P Q 3 4 n t w w'

set_option maxRecDepth 100000 in
set_option maxHeartbeats 1000000 in
theorem loadD_panicking (m P Q n : Nat) (t : Bool) (x : Int) (y : Bool) (older : List PanicEntry) (w : World) (hP : Blk w P 3 #[.int .i64 x]) (hQ : Blk w Q 4 #[.bool y]) (hne : P ≠ Q) :
    CallsDIn Fence.wide m Try.prog 78 #[.pointer (some ⟨P, 0, none⟩), .pointer (some ⟨Q, 0, none⟩)] (.panicking ({ v := .iface 102 (.agg #[.int .i64 (n : Int), .bool t]), recovered := false } :: older)) w fun e u' w' =>
      e = .returned (.tuple #[]) ∧ u' = .panicking ({ v := .iface 102 (.agg #[.int .i64 (n : Int), .bool t]), recovered := true } :: older) ∧ Caught P Q 3 4 n t w w' := by
  have has := assert_stop (.agg #[.int .i64 (n : Int), .bool t])
  refine callsDIn_of_wpSIn Try.func78 rfl trivial fun c₀ cs hu => ?_
  apply wpSIn_seq
  apply wpSIn_region
  simp [wpOpsSIn, go_sem, recoverD, hu, Try.ntmps78, Exit.thenS]
  apply wpSIn_seq
  apply wpSIn_region
  simp [wpOpsSIn, go_sem, Exit.thenS]
  refine wpSIn_cond (t := true) (by simp [Act.eval, Array.replicate]) ?_
  simp only [if_true]
  refine wpSIn_of_wpIn rfl (wpIn_wide.2 ?_)
  refine wp_mono (Q := CaughtQ P Q n t w) ?_ ?_
  · clear hu
    have c1 := hP.cell 0
    have c2 := hQ.cell 0
    have g1 := hP.frozen 0
    have g2 := hQ.frozen 0
    have l1 := hP.lt
    have l2 := hQ.lt
    have hnw1 : P ≠ w.heap.size := by omega
    have hnw2 : Q ≠ w.heap.size := by omega
    simp only [List.getElem?_toArray, List.getElem?_cons_zero] at c1 c2
    have HP := Lib.hid hP
    have HQ := Lib.hid hQ
    clear hP hQ
    change Code.wp _ _ _ { tmps := #[.pointer (some ⟨P, 0, none⟩), .pointer (some ⟨Q, 0, none⟩), .iface 102 (.agg #[.int .i64 (n : Int), .bool t]), undef, undef, .iface 102 (.agg #[.int .i64 (n : Int), .bool t]), .iface 102 (.agg #[.int .i64 (n : Int), .bool t]), .bool true, undef, undef, undef, undef, undef, undef, undef, undef, undef, undef, undef, undef], defers := [] } w
    go_wp2_with fail
    have HP1 := Lib.hid (HP.out.alloc (.cells #[.int .i64 (n : Int), .bool t] 102))
    have HQ1 := Lib.hid (HQ.out.alloc (.cells #[.int .i64 (n : Int), .bool t] 102))
    have HN1 := Lib.hid (Blk.new w 102 #[.int .i64 (n : Int), .bool t])
    have HK1 := Lib.hid ((Kept.refl (fun k => k = P ∨ k = Q) w).alloc (.cells #[.int .i64 (n : Int), .bool t] 102))
    generalize w.alloc (.cells #[.int .i64 (n : Int), .bool t] 102) = w1 at HP1 HQ1 HN1 HK1 ⊢
    generalize hN : w.heap.size = N at HN1 hnw1 hnw2 ⊢
    clear c1 c2 g1 g2 l1 l2 HP HQ has hN
    have c1 : w1.cell? ⟨P, 0, none⟩ = some (.int .i64 x) := HP1.out.cell 0
    have c2 : w1.cell? ⟨Q, 0, none⟩ = some (.bool y) := HQ1.out.cell 0
    have c3 : w1.cell? ⟨N, 0, none⟩ = some (.int .i64 (n : Int)) := HN1.out.cell 0
    have c4 : w1.cell? ⟨N, 0 + 1, none⟩ = some (.bool t) := HN1.out.cell 1
    have c5 : w1.cell? ⟨N, 1, none⟩ = some (.bool t) := HN1.out.cell 1
    have g1 := HP1.out.frozen 0
    have g2 := HQ1.out.frozen 0
    go_region
    all_goals
      refine ⟨.inl rfl, rfl, ?_, ?_, ?_⟩
      · first
          | exact ((HP1.out.drew.set_ 0 (.int .i64 n)).far (p := ⟨Q, 0, none⟩) hne _)
          | exact ((HP1.out.drew.far (p := ⟨Q, 0, none⟩) hne _).set_ 0 (.int .i64 n))
      · first
          | exact ((HQ1.out.drew.far (p := ⟨P, 0, none⟩) (Ne.symm hne) _).set_ 0 (.bool t))
          | exact ((HQ1.out.drew.set_ 0 (.bool t)).far (p := ⟨P, 0, none⟩) (Ne.symm hne) _)
      · first
          | exact ((HK1.out.drew).setIn (p := ⟨P, 0, none⟩) (.inl rfl) _).setIn (p := ⟨Q, 0, none⟩) (.inr rfl) _
          | exact ((HK1.out.drew).setIn (p := ⟨Q, 0, none⟩) (.inr rfl) _).setIn (p := ⟨P, 0, none⟩) (.inl rfl) _
  · rintro e a' w' ⟨he, hdf, hc⟩
    have hr : (results Try.f78 a'.tmps).run Try.prog w' = .ok (.tuple #[]) w' := by
      simp [results, Try.results78, go_sem]
    rcases he with rfl | rfl
    · exact ⟨hdf, _, rfl, _, hr, rfl, rfl, hc⟩
    · exact ⟨hdf, _, rfl, _, hr, rfl, rfl, hc⟩

end Go.Proofs.Yteoodgcpkgfomaa
