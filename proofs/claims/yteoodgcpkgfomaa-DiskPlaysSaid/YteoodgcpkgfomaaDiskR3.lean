/-
  The reference's disk: Used.
-/
import Derived.Test.YteoodgcpkgfomaaDiskR2
namespace Go.Proofs.Yteoodgcpkgfomaa
open Go.RowKit
set_option linter.unusedVariables false

theorem ret_int1 {k : IntKind} {a b : Int} (h : a = b) : Ending.returned (.int k a) = .returned (.int k b) := by rw [h]
/-- Eight values, one by one. -/
theorem list8 {α : Type} (l : List α) (h : l.length = 8) : ∃ a0 a1 a2 a3 a4 a5 a6 a7, l = [a0, a1, a2, a3, a4, a5, a6, a7] := by
  match l, h with
  | [a0, a1, a2, a3, a4, a5, a6, a7], _ => exact ⟨a0, a1, a2, a3, a4, a5, a6, a7, rfl⟩

set_option maxRecDepth 100000 in
set_option maxHeartbeats 2000000 in
theorem rused_any {w : World} {base B : Nat} {vs : List Value} {a : Ab} (h : RIs w base B vs a) :
    Calls Try.prog 18 #[.pointer (some ⟨B, 0, none⟩)] w fun e w' => e = .returned (.int .i64 a.used) ∧ w = w' := by
  have hc : ∀ i v, vs[i]? = some v → w.cell? ⟨B, 1 + i, none⟩ = some v := fun i v hv => h.c_file hv
  have hfits := h.fits
  have hroom := h.room1
  have hform : ∀ (i : Nat) (v : Value) (p : List UInt8 × Nat), vs[i]? = some v → a.fs[i]? = some p → ∃ A cap, v = .slice A p.1.length cap := fun i v p hv hp => own_form (h.files i v p hv hp).1
  obtain ⟨v0, v1, v2, v3, v4, v5, v6, v7, rfl⟩ := list8 vs h.vlen
  obtain ⟨room, afs, off, plan⟩ := a
  obtain ⟨p0, p1, p2, p3, p4, p5, p6, p7, rfl⟩ := list8 afs h.len
  obtain ⟨A0, k0, rfl⟩ := hform 0 v0 p0 rfl rfl
  obtain ⟨A1, k1, rfl⟩ := hform 1 v1 p1 rfl rfl
  obtain ⟨A2, k2, rfl⟩ := hform 2 v2 p2 rfl rfl
  obtain ⟨A3, k3, rfl⟩ := hform 3 v3 p3 rfl rfl
  obtain ⟨A4, k4, rfl⟩ := hform 4 v4 p4 rfl rfl
  obtain ⟨A5, k5, rfl⟩ := hform 5 v5 p5 rfl rfl
  obtain ⟨A6, k6, rfl⟩ := hform 6 v6 p6 rfl rfl
  obtain ⟨A7, k7, rfl⟩ := hform 7 v7 p7 rfl rfl
  have c0 := hc 0 _ rfl
  have c1 := hc 1 _ rfl
  have c2 := hc 2 _ rfl
  have c3 := hc 3 _ rfl
  have c4 := hc 4 _ rfl
  have c5 := hc 5 _ rfl
  have c6 := hc 6 _ rfl
  have c7 := hc 7 _ rfl
  simp only [Nat.reduceAdd] at c0 c1 c2 c3 c4 c5 c6 c7
  simp only [Ab.used, List.map_cons, List.map_nil, List.sum_cons, List.sum_nil] at hfits ⊢
  generalize p0.1.length = n0 at *
  generalize p1.1.length = n1 at *
  generalize p2.1.length = n2 at *
  generalize p3.1.length = n3 at *
  generalize p4.1.length = n4 at *
  generalize p5.1.length = n5 at *
  generalize p6.1.length = n6 at *
  generalize p7.1.length = n7 at *
  clear h hc hform
  go_enter Try.func18, Try.ntmps18
  have x0 : ∀ w, (Instr.index 76 (.agg #[.slice A0 n0 k0, .slice A1 n1 k1, .slice A2 n2 k2, .slice A3 n3 k3, .slice A4 n4 k4, .slice A5 n5 k5, .slice A6 n6 k6, .slice A7 n7 k7]) (.int .i64 0)).run Try.prog w = .ok (.slice A0 n0 k0) w := fun _ => by kernel_rfl
  have x1 : ∀ w, (Instr.index 76 (.agg #[.slice A0 n0 k0, .slice A1 n1 k1, .slice A2 n2 k2, .slice A3 n3 k3, .slice A4 n4 k4, .slice A5 n5 k5, .slice A6 n6 k6, .slice A7 n7 k7]) (.int .i64 1)).run Try.prog w = .ok (.slice A1 n1 k1) w := fun _ => by kernel_rfl
  have x2 : ∀ w, (Instr.index 76 (.agg #[.slice A0 n0 k0, .slice A1 n1 k1, .slice A2 n2 k2, .slice A3 n3 k3, .slice A4 n4 k4, .slice A5 n5 k5, .slice A6 n6 k6, .slice A7 n7 k7]) (.int .i64 2)).run Try.prog w = .ok (.slice A2 n2 k2) w := fun _ => by kernel_rfl
  have x3 : ∀ w, (Instr.index 76 (.agg #[.slice A0 n0 k0, .slice A1 n1 k1, .slice A2 n2 k2, .slice A3 n3 k3, .slice A4 n4 k4, .slice A5 n5 k5, .slice A6 n6 k6, .slice A7 n7 k7]) (.int .i64 3)).run Try.prog w = .ok (.slice A3 n3 k3) w := fun _ => by kernel_rfl
  have x4 : ∀ w, (Instr.index 76 (.agg #[.slice A0 n0 k0, .slice A1 n1 k1, .slice A2 n2 k2, .slice A3 n3 k3, .slice A4 n4 k4, .slice A5 n5 k5, .slice A6 n6 k6, .slice A7 n7 k7]) (.int .i64 4)).run Try.prog w = .ok (.slice A4 n4 k4) w := fun _ => by kernel_rfl
  have x5 : ∀ w, (Instr.index 76 (.agg #[.slice A0 n0 k0, .slice A1 n1 k1, .slice A2 n2 k2, .slice A3 n3 k3, .slice A4 n4 k4, .slice A5 n5 k5, .slice A6 n6 k6, .slice A7 n7 k7]) (.int .i64 5)).run Try.prog w = .ok (.slice A5 n5 k5) w := fun _ => by kernel_rfl
  have x6 : ∀ w, (Instr.index 76 (.agg #[.slice A0 n0 k0, .slice A1 n1 k1, .slice A2 n2 k2, .slice A3 n3 k3, .slice A4 n4 k4, .slice A5 n5 k5, .slice A6 n6 k6, .slice A7 n7 k7]) (.int .i64 6)).run Try.prog w = .ok (.slice A6 n6 k6) w := fun _ => by kernel_rfl
  have x7 : ∀ w, (Instr.index 76 (.agg #[.slice A0 n0 k0, .slice A1 n1 k1, .slice A2 n2 k2, .slice A3 n3 k3, .slice A4 n4 k4, .slice A5 n5 k5, .slice A6 n6 k6, .slice A7 n7 k7]) (.int .i64 7)).run Try.prog w = .ok (.slice A7 n7 k7) w := fun _ => by kernel_rfl
  go_wp2_with fail
  go_loop [3, 10] (fun n i => (i = .int .i64 0 ∧ n = .int .i64 (0)) ∨ (i = .int .i64 1 ∧ n = .int .i64 ((n0 : Int))) ∨ (i = .int .i64 2 ∧ n = .int .i64 ((n0 : Int) + (n1 : Int))) ∨ (i = .int .i64 3 ∧ n = .int .i64 ((n0 : Int) + (n1 : Int) + (n2 : Int))) ∨ (i = .int .i64 4 ∧ n = .int .i64 ((n0 : Int) + (n1 : Int) + (n2 : Int) + (n3 : Int))) ∨ (i = .int .i64 5 ∧ n = .int .i64 ((n0 : Int) + (n1 : Int) + (n2 : Int) + (n3 : Int) + (n4 : Int))) ∨ (i = .int .i64 6 ∧ n = .int .i64 ((n0 : Int) + (n1 : Int) + (n2 : Int) + (n3 : Int) + (n4 : Int) + (n5 : Int))) ∨ (i = .int .i64 7 ∧ n = .int .i64 ((n0 : Int) + (n1 : Int) + (n2 : Int) + (n3 : Int) + (n4 : Int) + (n5 : Int) + (n6 : Int))) ∨ (i = .int .i64 8 ∧ n = .int .i64 ((n0 : Int) + (n1 : Int) + (n2 : Int) + (n3 : Int) + (n4 : Int) + (n5 : Int) + (n6 : Int) + (n7 : Int)))) (fun _ i => 8 - (intOf i).toNat)
  case atStart => exact .inl ⟨rfl, rfl⟩
  case round =>
    rcases hrel with ⟨rfl, rfl⟩ | ⟨rfl, rfl⟩ | ⟨rfl, rfl⟩ | ⟨rfl, rfl⟩ | ⟨rfl, rfl⟩ | ⟨rfl, rfl⟩ | ⟨rfl, rfl⟩ | ⟨rfl, rfl⟩ | ⟨rfl, rfl⟩
    · go_wp2
      exact ⟨.inr (.inl ⟨rfl, rfl⟩), by decide⟩
    · go_wp2
      exact ⟨.inr (.inr (.inl ⟨rfl, rfl⟩)), by decide⟩
    · go_wp2
      exact ⟨.inr (.inr (.inr (.inl ⟨rfl, rfl⟩))), by decide⟩
    · go_wp2
      exact ⟨.inr (.inr (.inr (.inr (.inl ⟨rfl, rfl⟩)))), by decide⟩
    · go_wp2
      exact ⟨.inr (.inr (.inr (.inr (.inr (.inl ⟨rfl, rfl⟩))))), by decide⟩
    · go_wp2
      exact ⟨.inr (.inr (.inr (.inr (.inr (.inr (.inl ⟨rfl, rfl⟩)))))), by decide⟩
    · go_wp2
      exact ⟨.inr (.inr (.inr (.inr (.inr (.inr (.inr (.inl ⟨rfl, rfl⟩))))))), by decide⟩
    · go_wp2
      exact ⟨.inr (.inr (.inr (.inr (.inr (.inr (.inr (.inr (⟨rfl, rfl⟩)))))))), by decide⟩
    · go_wp2
      go_ret
      exact ⟨ret_int1 (by omega), rfl⟩

end Go.Proofs.Yteoodgcpkgfomaa
