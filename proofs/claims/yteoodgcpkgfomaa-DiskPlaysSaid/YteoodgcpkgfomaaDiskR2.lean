/-
  The reference's disk: fails, Fail, Used.
-/
import Derived.Test.YteoodgcpkgfomaaDiskR1
namespace Go.Proofs.Yteoodgcpkgfomaa
open Go.RowKit
set_option linter.unusedVariables false

/-- What a change finds: does the power fail at it, and what is left of the plan. -/
def failsTo (a : Ab) : Ab := if a.plan = 0 then a else ⟨a.room, a.fs, decide (a.plan = 1), a.plan - 1⟩

set_option maxHeartbeats 800000 in
theorem rfails_any {w : World} {base B : Nat} {vs : List Value} {a : Ab} (h : RIs w base B vs a) (hoff : a.off = false) :
    Calls Try.prog 71 #[.pointer (some ⟨B, 0, none⟩)] w fun e w' => e = .returned (.bool (decide (a.plan = 1))) ∧ RIs w' base B vs (failsTo a) ∧ Kept (Kone B) w w' := by
  have H := Lib.hid h
  have c0 := h.c_plan
  have c1 := h.c_down
  have f0 := h.blk.frozen 17
  have f1 := h.blk.frozen 18
  have p0 := h.plan0
  have p1 := h.plan1
  rw [hoff] at c1
  by_cases hp : a.plan = 0
  · have e1 : decide (a.plan = 1) = false := by simp; omega
    have e2 : failsTo a = a := by unfold failsTo; rw [if_pos hp]
    rw [e1, e2]
    have q : ¬ (0 : Int) < a.plan := by omega
    generalize a.plan = plan at c0 q p0 p1
    clear h e1 e2 hp
    go_enter Try.func71, Try.ntmps71
    go_wp2
    go_ret
    exact ⟨rfl, H.out, Kept.refl _ _⟩
  · have e2 : failsTo a = ⟨a.room, a.fs, decide (a.plan = 1), a.plan - 1⟩ := by unfold failsTo; rw [if_neg hp]
    rw [e2]
    have q : (0 : Int) < a.plan := by omega
    have hs : RIs ((w.setCell ⟨B, 17, none⟩ (.int .i64 (a.plan - 1))).setCell ⟨B, 18, none⟩ (.bool (decide (a.plan = 1)))) base B vs ⟨a.room, a.fs, decide (a.plan = 1), a.plan - 1⟩ := h.set_pd _ _ (by omega) (by omega)
    have hk : Kept (Kone B) w ((w.setCell ⟨B, 17, none⟩ (.int .i64 (a.plan - 1))).setCell ⟨B, 18, none⟩ (.bool (decide (a.plan = 1)))) := Kept.setIn (S := Kone B) (Kept.setIn (S := Kone B) (Kept.refl _ _) (p := ⟨B, 17, none⟩) (Eq.refl _) _) (p := ⟨B, 18, none⟩) (Eq.refl _) _
    have HS := Lib.hid hs
    have HK := Lib.hid hk
    have q2 : (a.plan - 1 == 0) = decide (a.plan = 1) := by
      rw [Bool.eq_iff_iff]; simp; omega
    generalize hd : decide (a.plan = 1) = d at q2 HS HK ⊢
    generalize a.plan = plan at c0 q p0 p1 q2 HS HK ⊢
    clear h e2 hp hs hk hd H
    go_enter Try.func71, Try.ntmps71
    go_wp2
    go_ret
    exact ⟨rfl, HS.out, HK.out⟩

theorem set_one (L : List Value) (n : Nat) (hL : L.length = n) (p d p' : Value) : (L ++ [p, d]).set n p' = L ++ [p', d] := by
  subst hL
  rw [List.set_append_right _ _ (Nat.le_refl _), Nat.sub_self]
  rfl
theorem RIs.set_p {w : World} {base B : Nat} {vs : List Value} {a : Ab} (h : RIs w base B vs a) (plan : Int) (h0 : 0 ≤ plan) (h1 : plan ≤ 9223372036854775807) :
    RIs (w.setCell ⟨B, 17, none⟩ (.int .i64 plan)) base B vs ⟨a.room, a.fs, a.off, plan⟩ := by
  have hl := h.vlen
  have hl2 := h.len
  have hk : Kept (Kone B) w (w.setCell ⟨B, 17, none⟩ (.int .i64 plan)) := Kept.setIn (S := Kone B) (Kept.refl _ _) (p := ⟨B, 17, none⟩) (Eq.refl _) _
  refine ⟨h.low, ?_, h.vlen, h.len, fun i v p hv hp => ⟨own_kept (h.files i v p hv hp).1 hk (fun k hk' e => ?_), (h.files i v p hv hp).2⟩, h.fits, h.room0, h.room1, h0, h1⟩
  · have h2 := h.blk.set_ 17 (.int .i64 plan)
    have e : (rCells a.room vs (a.fs.map (·.2)) a.plan a.off).toArray.setIfInBounds 17 (.int .i64 plan) = (rCells a.room vs (a.fs.map (·.2)) plan a.off).toArray := by
      rw [List.setIfInBounds_toArray]
      congr 1
      simp only [rCells, show 17 = 16 + 1 from rfl, List.set_cons_succ]
      rw [← List.append_assoc, ← List.append_assoc, set_one _ 16 (by simp [hl, hl2])]
    rw [e] at h2
    exact h2
  · unfold Kone at e
    subst e
    exact h.own_B (List.mem_of_getElem? hv) hk'

set_option maxHeartbeats 800000 in
theorem rfail_any (n : Int) {w : World} {base B : Nat} {vs : List Value} {a : Ab} (h : RIs w base B vs a) (hn : n ≤ 9223372036854775807) :
    Calls Try.prog 37 #[.pointer (some ⟨B, 0, none⟩), .int .i64 n] w fun e w' => e = .returned (.tuple #[]) ∧ RTurn base B vs (a.fail n) w w' := by
  have H := Lib.hid h
  have c0 := h.c_plan
  have c1 := h.c_down
  have f0 := h.blk.frozen 17
  unfold Ab.fail
  cases ho : a.off with
  | true =>
    rw [ho] at c1
    rw [if_pos rfl]
    clear h
    go_enter Try.func37, Try.ntmps37
    go_wp2
    go_end0
    exact ⟨rfl, ⟨vs, H.out, VsFrom.refl _ _⟩, Kept.refl _ _⟩
  | false =>
    rw [ho] at c1
    rw [if_neg (by simp)]
    have hn3 : n < 0 ∨ n = 0 ∨ 0 < n := by omega
    have HS : Hid (∀ m, 0 ≤ m → m ≤ 9223372036854775807 → RTurn base B vs ⟨a.room, a.fs, false, m⟩ w (w.setCell ⟨B, 17, none⟩ (.int .i64 m))) := Lib.hid (fun m h0 h1 => by
      have h9 := H.out.set_p m h0 h1
      rw [ho] at h9
      exact ⟨⟨vs, h9, VsFrom.refl _ _⟩, Kept.setIn (S := Kone B) (Kept.refl _ _) (p := ⟨B, 17, none⟩) (Eq.refl _) _⟩)
    clear h ho H
    rcases hn3 with hn3 | rfl | hn3
    · rw [if_neg (by omega)]
      go_enter Try.func37, Try.ntmps37
      go_wp2
      go_end0
      exact ⟨rfl, HS.out 0 (by omega) (by omega)⟩
    · rw [if_neg (by omega)]
      go_enter Try.func37, Try.ntmps37
      go_wp2
      go_end0
      exact ⟨rfl, HS.out 0 (by omega) (by omega)⟩
    · rw [if_pos hn3]
      have h0 : ¬ n < 0 := by omega
      go_enter Try.func37, Try.ntmps37
      go_wp2
      go_end0
      exact ⟨rfl, HS.out n (by omega) hn⟩

end Go.Proofs.Yteoodgcpkgfomaa
