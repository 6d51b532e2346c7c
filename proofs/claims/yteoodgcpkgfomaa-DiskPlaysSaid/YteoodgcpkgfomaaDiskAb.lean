/-
  Disk: plain laws of the document's disk. No program in sight.
-/
import Derived.Test.YteoodgcpkgfomaaDiskPlay
namespace Go.Proofs.Yteoodgcpkgfomaa
set_option linter.unusedVariables false

theorem gate_room (a : Ab) (t : Bool) (i : Nat) (x : List UInt8 × Nat) : (gateOf a t i x).1.room = a.room := by
  unfold gateOf; split
  · rfl
  · split <;> rfl
theorem gate_code (a : Ab) (t : Bool) (i : Nat) (x : List UInt8 × Nat) : (gateOf a t i x).2 = 0 ∨ (gateOf a t i x).2 = 220 := by
  unfold gateOf; split
  · exact .inl rfl
  · split
    · exact .inr rfl
    · exact .inl rfl
theorem check_code (off : Bool) (i : Int) : checkOf off i = 0 ∨ checkOf off i = 1 ∨ checkOf off i = 220 := by
  unfold checkOf; split
  · exact .inr (.inr rfl)
  · split
    · exact .inr (.inl rfl)
    · exact .inl rfl

theorem append_room (a : Ab) (i : Int) (l : List UInt8) : (a.append i l).1.room = a.room := by
  unfold Ab.append; split
  · rfl
  · split
    · rfl
    · exact gate_room _ _ _ _
theorem trunc_room (a : Ab) (i n : Int) : (a.trunc i n).1.room = a.room := by
  unfold Ab.trunc; split
  · rfl
  · split
    · rfl
    · exact gate_room _ _ _ _
theorem replace_room (a : Ab) (i : Int) (l : List UInt8) : (a.replace i l).1.room = a.room := by
  unfold Ab.replace; split
  · rfl
  · split
    · rfl
    · exact gate_room _ _ _ _
theorem sync_room (a : Ab) (i : Int) : (a.sync i).1.room = a.room := by
  unfold Ab.sync; split
  · rfl
  · exact gate_room _ _ _ _
theorem fail_room (a : Ab) (n : Int) : (a.fail n).room = a.room := by unfold Ab.fail; split <;> rfl
theorem play_room (a : Ab) (c : CallD) : (a.play c).1.room = a.room := by
  unfold Ab.play
  split; · exact append_room _ _ _
  split; · exact trunc_room _ _ _
  split; · exact replace_room _ _ _
  split; · exact sync_room _ _
  split; · exact fail_room _ _
  split <;> rfl

/-- A call that is refused for its room changes nothing, and would have exceeded it. -/
theorem play_full (a : Ab) (c : CallD) (h : (a.play c).2 = 221) : (a.play c).1 = a ∧
    ((c.kind = 1 ∧ a.room < a.used + (c.l.take 2000).length) ∨ (c.kind = 3 ∧ 0 ≤ c.file ∧ c.file < 8 ∧ a.room < a.used + (c.l.take 2000).length - (a.file c.file.toNat).1.length)) := by
  unfold Ab.play at h ⊢
  by_cases k1 : c.kind = 1
  · simp only [k1, if_true] at h ⊢
    unfold Ab.append at h ⊢
    by_cases h1 : checkOf a.off c.file ≠ 0
    · rw [if_pos h1] at h
      have := check_code a.off c.file
      simp only at h
      omega
    · rw [if_neg h1] at h ⊢
      by_cases h2 : a.room - (a.used : Int) < (c.l.take 2000).length
      · rw [if_pos h2]
        exact ⟨rfl, .inl ⟨trivial, by omega⟩⟩
      · rw [if_neg h2] at h
        have := gate_code a true c.file.toNat ((a.file c.file.toNat).1 ++ c.l.take 2000, (a.file c.file.toNat).2)
        omega
  · rw [if_neg k1] at h ⊢
    by_cases k2 : c.kind = 2
    · rw [if_pos k2] at h
      unfold Ab.trunc at h
      split at h
      · have := check_code a.off c.file
        simp only at h
        omega
      · split at h
        · simp at h
        · have := gate_code a false c.file.toNat ((a.file c.file.toNat).1.take c.n.toNat, c.n.toNat)
          omega
    · rw [if_neg k2] at h ⊢
      by_cases k3 : c.kind = 3
      · rw [if_pos k3] at h ⊢
        unfold Ab.replace at h ⊢
        by_cases h1 : checkOf a.off c.file ≠ 0
        · rw [if_pos h1] at h
          have := check_code a.off c.file
          simp only at h
          omega
        · rw [if_neg h1] at h ⊢
          obtain ⟨-, r1, r2⟩ := check_range h1
          by_cases h2 : a.room - ((a.used : Int) - (a.file c.file.toNat).1.length) < (c.l.take 2000).length
          · rw [if_pos h2]
            exact ⟨rfl, .inr ⟨k3, r1, r2, by omega⟩⟩
          · rw [if_neg h2] at h
            have := gate_code a false c.file.toNat (c.l.take 2000, (c.l.take 2000).length)
            omega
      · rw [if_neg k3] at h ⊢
        split at h
        · unfold Ab.sync at h
          split at h
          · have := check_code a.off c.file
            simp only at h
            omega
          · have := gate_code a false c.file.toNat ((a.file c.file.toNat).1, (a.file c.file.toNat).1.length)
            omega
        · split at h
          · simp at h
          · split at h <;> simp at h
end Go.Proofs.Yteoodgcpkgfomaa
