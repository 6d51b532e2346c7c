/-
  The reference's disk: Append.
-/
import Derived.Test.YteoodgcpkgfomaaDiskR3
namespace Go.Proofs.Yteoodgcpkgfomaa
open Go.RowKit
set_option linter.unusedVariables false

section
variable {w w' : World} {base B : Nat} {vs : List Value} {a : Ab}
theorem RIs.no_byte (h : RIs w base B vs a) {p : Addr} {x : Int} (hc : w.cell? p = some (.int .u8 x)) : p.block ≠ B := by
  obtain ⟨g, o, spot⟩ := p
  rintro rfl
  have hs := World.cell?_spot hc
  simp only at hs
  subst hs
  rw [h.blk.cell] at hc
  have hm := List.mem_of_getElem? (by simpa using hc : (rCells a.room vs (a.fs.map (·.2)) a.plan a.off)[o]? = some (.int .u8 x))
  simp only [rCells, List.mem_cons, List.mem_append, List.mem_map, List.not_mem_nil, or_false] at hm
  rcases hm with hm | hm | ⟨s, -, hm⟩ | hm | hm
  · cases hm
  · obtain ⟨i, hi⟩ := List.mem_iff_getElem?.1 hm
    have hl := h.vlen
    have hl2 := h.len
    have hlt : i < vs.length := (List.getElem?_eq_some_iff.1 hi).1
    obtain ⟨A, cap, hv⟩ := own_form (h.files i _ _ hi (List.getElem?_eq_getElem (by omega))).1
    cases hv
  · cases hm
  · cases hm
  · cases hm
theorem RIs.bs (h : RIs w base B vs a) {v : Value} {l : List UInt8} (hb : Bs w v l) (w1 : World) (hk : Kept (Kone B) w w1) : Bs w1 v l := by
  obtain ⟨A, cap, rfl, h1, h2, h3, h4⟩ := hb
  refine ⟨A, cap, rfl, h1, h2, h3, fun ad hA j u hj => ?_⟩
  have hc := h4 ad hA j u hj
  rw [List.getElem?_map] at hj
  cases hq : l[j]? with
  | none => rw [hq] at hj; cases hj
  | some c =>
    rw [hq] at hj
    simp only [Option.map_some, Option.some.injEq] at hj
    subst hj
    exact hk.cell_some hc (fun e => h.no_byte hc e)
theorem sum_set_le (l : List (List UInt8 × Nat)) (i : Nat) (p q : List UInt8 × Nat) (h : l[i]? = some p) : ((l.set i q).map fun p => p.1.length).sum + p.1.length = (l.map fun p => p.1.length).sum + q.1.length := by
  induction l generalizing i with
  | nil => simp at h
  | cons x l ih =>
    cases i with
    | zero => simp at h; subst h; simp only [List.set_cons_zero, List.map_cons, List.sum_cons]; omega
    | succ i => have := ih i (by simpa using h); simp only [List.set_cons_succ, List.map_cons, List.sum_cons]; omega
/-- A file's slice set anew (its row new), and how much of it is synced. -/
theorem RIs.set_file (h : RIs w base B vs a) {w1 : World} (hk : Kept Kno w w1) {i : Nat} {p : List UInt8 × Nat} (hp : a.fs[i]? = some p) (v : Value) (l : List UInt8) (ho : OwnB w1 base 5 v l) (hs : p.2 ≤ l.length)
    (hfit : (a.used : Int) + l.length - p.1.length ≤ a.room) : RIs (w1.setCell ⟨B, 1 + i, none⟩ v) base B (vs.set i v) ⟨a.room, a.fs.set i (l, p.2), a.off, a.plan⟩ ∧ Kept (Kone B) w (w1.setCell ⟨B, 1 + i, none⟩ v) := by
  have hl := h.vlen
  have hl2 := h.len
  have hi : i < 8 := by have := (List.getElem?_eq_some_iff.1 hp).1; omega
  have h1 := h.kept0 hk
  have hk2 : Kept (Kone B) w1 (w1.setCell ⟨B, 1 + i, none⟩ v) := Kept.setIn (S := Kone B) (Kept.refl _ _) (p := ⟨B, 1 + i, none⟩) (Eq.refl _) _
  refine ⟨⟨h.low, ?_, by rw [List.length_set]; exact hl, by simp only [List.length_set]; exact hl2, fun j u q hu hq => ?_, ?_, h.room0, h.room1, h.plan0, h.plan1⟩, (hk.mono (T := Kone B) (fun _ _ e => e.elim)).trans hk2 (fun _ _ e => e)⟩
  · have h2 := h1.blk.set_ (1 + i) v
    have e : (rCells a.room vs (a.fs.map (·.2)) a.plan a.off).toArray.setIfInBounds (1 + i) v = (rCells a.room (vs.set i v) ((a.fs.set i (l, p.2)).map (·.2)) a.plan a.off).toArray := by
      rw [List.setIfInBounds_toArray, show 1 + i = i + 1 from by omega]
      congr 1
      simp only [rCells, List.set_cons_succ]
      rw [List.set_append_left _ _ (by omega), List.map_set]
      have e2 : (a.fs.map (·.2)).set i p.2 = a.fs.map (·.2) := by
        apply List.ext_getElem?
        intro j
        rw [List.getElem?_set]
        split
        · rename_i hj
          subst hj
          rw [if_pos (by simp; omega), List.getElem?_map, hp]
          rfl
        · rfl
      rw [e2]
    rw [e] at h2
    exact h2
  · rw [List.getElem?_set] at hu
    simp only at hq
    rw [List.getElem?_set] at hq
    by_cases hj : i = j
    · subst hj
      rw [if_pos rfl, if_pos (by omega)] at hu hq
      cases hu
      cases hq
      exact ⟨own_kept ho hk2 (fun k hk' e => by unfold Kone at e; subst e; exact own_blk_ne ho h1.blk (by decide) hk'), hs⟩
    · rw [if_neg hj] at hu hq
      have h9 := h1.files j u q hu hq
      exact ⟨own_kept h9.1 hk2 (fun k hk' e => by unfold Kone at e; subst e; exact h1.own_B (List.mem_of_getElem? hu) hk'), h9.2⟩
  · have := sum_set_le a.fs i p (l, p.2) hp
    simp only [Ab.used] at hfit this ⊢
    omega
end

end Go.Proofs.Yteoodgcpkgfomaa
