/-
  The reference's disk: what it is in memory; begin, fails, Off, Fail, Used.
-/
import Derived.Test.YteoodgcpkgfomaaDiskJ
import Derived.Test.YteoodgcpkgfomaaQuiet
namespace Go.Proofs.Yteoodgcpkgfomaa
open Go.RowKit
set_option linter.unusedVariables false

def rCells (room : Int) (vs : List Value) (ss : List Nat) (plan : Int) (down : Bool) : List Value :=
  .int .i64 room :: (vs ++ ((ss.map fun (s : Nat) => Value.int .i64 (s : Int)) ++ [.int .i64 plan, .bool down]))

/-- Block B is the reference's disk a; vs are its files' slices. -/
structure RIs (w : World) (base B : Nat) (vs : List Value) (a : Ab) : Prop where
  low : base ≤ B
  blk : Blk w B 79 (rCells a.room vs (a.fs.map (·.2)) a.plan a.off).toArray
  vlen : vs.length = 8
  len : a.fs.length = 8
  files : ∀ (i : Nat) (v : Value) (p : List UInt8 × Nat), vs[i]? = some v → a.fs[i]? = some p → OwnB w base 5 v p.1 ∧ p.2 ≤ p.1.length
  fits : (a.used : Int) ≤ a.room
  room0 : 0 ≤ a.room
  room1 : a.room ≤ 16777216
  plan0 : 0 ≤ a.plan
  plan1 : a.plan ≤ 9223372036854775807

section
variable {w w' : World} {base B : Nat} {vs : List Value} {a : Ab}
theorem RIs.kept {S : Nat → Prop} (h : RIs w base B vs a) (hk : Kept S w w') (hB : ¬ S B) (hf : ∀ v ∈ vs, ∀ k, v.ownBlock = some k → ¬ S k) : RIs w' base B vs a :=
  ⟨h.low, h.blk.kept hk hB, h.vlen, h.len, fun i v p hv hp => ⟨own_kept (h.files i v p hv hp).1 hk (hf v (List.mem_of_getElem? hv)), (h.files i v p hv hp).2⟩, h.fits, h.room0, h.room1, h.plan0, h.plan1⟩
theorem RIs.kept0 (h : RIs w base B vs a) (hk : Kept Kno w w') : RIs w' base B vs a := h.kept hk (fun h => h) (fun _ _ _ _ h => h)
theorem RIs.c_room (h : RIs w base B vs a) : w.cell? ⟨B, 0, none⟩ = some (.int .i64 a.room) := h.blk.cell 0
theorem RIs.c_file (h : RIs w base B vs a) {i : Nat} {v : Value} (hv : vs[i]? = some v) : w.cell? ⟨B, 1 + i, none⟩ = some v := by
  have hi : i < vs.length := (List.getElem?_eq_some_iff.1 hv).1
  rw [h.blk.cell, show 1 + i = i + 1 from by omega]
  simp only [rCells, List.getElem?_toArray, List.getElem?_cons_succ]
  rw [List.getElem?_append_left hi, hv]
theorem RIs.c_sync (h : RIs w base B vs a) {i : Nat} {p : List UInt8 × Nat} (hp : a.fs[i]? = some p) : w.cell? ⟨B, 9 + i, none⟩ = some (.int .i64 p.2) := by
  have hi : i < a.fs.length := (List.getElem?_eq_some_iff.1 hp).1
  have hl := h.vlen
  rw [h.blk.cell, show 9 + i = (8 + i) + 1 from by omega]
  simp only [rCells, List.getElem?_toArray, List.getElem?_cons_succ]
  rw [List.getElem?_append_right (by omega), hl, show 8 + i - 8 = i by omega, List.getElem?_append_left (by simp; omega), List.map_map, List.getElem?_map, hp]
  rfl
theorem RIs.c_plan (h : RIs w base B vs a) : w.cell? ⟨B, 17, none⟩ = some (.int .i64 a.plan) := by
  have hl := h.vlen
  have hl2 := h.len
  rw [h.blk.cell, show 17 = 16 + 1 from rfl]
  simp only [rCells, List.getElem?_toArray, List.getElem?_cons_succ]
  rw [List.getElem?_append_right (by omega), hl, List.getElem?_append_right (by simp; omega)]
  simp [hl2]
theorem RIs.c_down (h : RIs w base B vs a) : w.cell? ⟨B, 18, none⟩ = some (.bool a.off) := by
  have hl := h.vlen
  have hl2 := h.len
  rw [h.blk.cell, show 18 = 17 + 1 from rfl]
  simp only [rCells, List.getElem?_toArray, List.getElem?_cons_succ]
  rw [List.getElem?_append_right (by omega), hl, List.getElem?_append_right (by simp; omega)]
  simp [hl2]
theorem RIs.own_B (h : RIs w base B vs a) {v : Value} (hv : v ∈ vs) : v.ownBlock ≠ some B := by
  obtain ⟨i, hi⟩ := List.mem_iff_getElem?.1 hv
  have hl := h.vlen
  have hl2 := h.len
  have hlt : i < vs.length := (List.getElem?_eq_some_iff.1 hi).1
  exact own_blk_ne (h.files i v _ hi (List.getElem?_eq_getElem (by omega))).1 h.blk (by decide)
end

/-- The blocks that a call of the reference may change: its own. -/
def VsFrom (vs vs' : List Value) (n : Nat) : Prop := ∀ v ∈ vs', ∀ k, v.ownBlock = some k → (∃ u ∈ vs, u.ownBlock = some k) ∨ n ≤ k
theorem VsFrom.refl (vs : List Value) (n : Nat) : VsFrom vs vs n := fun v hv k hk => .inl ⟨v, hv, hk⟩
theorem VsFrom.trans {us vs ws : List Value} {n m : Nat} (h : VsFrom us vs n) (h2 : VsFrom vs ws m) (hnm : n ≤ m) : VsFrom us ws n := fun v hv k hk => by
  rcases h2 v hv k hk with ⟨u, hu, he⟩ | h3
  · exact h u hu k he
  · exact .inr (Nat.le_trans hnm h3)
theorem VsFrom.low {us vs : List Value} {n m : Nat} (h : VsFrom us vs n) (hnm : m ≤ n) : VsFrom us vs m := fun v hv k hk => by
  rcases h v hv k hk with h3 | h3
  · exact .inl h3
  · exact .inr (Nat.le_trans hnm h3)
theorem VsFrom.set (vs : List Value) (i : Nat) (v : Value) {n : Nat} (h : ∀ k, v.ownBlock = some k → n ≤ k) : VsFrom vs (vs.set i v) n := fun u hu k hk => by
  rcases List.mem_or_eq_of_mem_set hu with h1 | rfl
  · exact .inl ⟨u, h1, hk⟩
  · exact .inr (h k hk)
def RTurn (base B : Nat) (vs : List Value) (a : Ab) (w w' : World) : Prop := (∃ vs', RIs w' base B vs' a ∧ VsFrom vs vs' w.heap.size) ∧ Kept (Kone B) w w'

set_option maxHeartbeats 400000 in
theorem rbegin_any (i : Int) {w : World} {base B : Nat} {vs : List Value} {a : Ab} (h : RIs w base B vs a) :
    Calls Try.prog 61 #[.pointer (some ⟨B, 0, none⟩), .int .i64 i] w fun e w' => e = .returned (.int .i64 (checkOf a.off i)) ∧ w = w' := by
  have c1 := h.c_down
  clear h
  obtain ⟨room, afs, off, plan⟩ := a
  simp only at c1 ⊢
  cases off with
  | true =>
    have hx : checkOf true i = 220 := rfl
    rw [hx]
    go_enter Try.func61, Try.ntmps61
    go_wp2
    go_ret
    exact ⟨rfl, rfl⟩
  | false =>
    by_cases hi : i < 0 ∨ 8 ≤ i
    · have hx : checkOf false i = 1 := by simp [checkOf, hi]
      rw [hx]
      clear hx
      by_cases h0 : i < 0
      · go_enter Try.func61, Try.ntmps61
        go_wp2
        go_ret
        exact ⟨rfl, rfl⟩
      · have h8 : 8 ≤ i := by omega
        clear hi
        go_enter Try.func61, Try.ntmps61
        go_wp2
        go_ret
        exact ⟨rfl, rfl⟩
    · have hx : checkOf false i = 0 := by simp [checkOf, hi]
      rw [hx]
      have h0 : ¬ i < 0 := by omega
      have h8 : ¬ 8 ≤ i := by omega
      clear hx hi
      go_enter Try.func61, Try.ntmps61
      go_wp2
      go_ret
      exact ⟨rfl, rfl⟩

set_option maxHeartbeats 400000 in
theorem roff_any {w : World} {base B : Nat} {vs : List Value} {a : Ab} (h : RIs w base B vs a) :
    Calls Try.prog 16 #[.pointer (some ⟨B, 0, none⟩)] w fun e w' => e = .returned (.bool a.off) ∧ w = w' := by
  have c1 := h.c_down
  clear h
  go_enter Try.func16, Try.ntmps16
  go_wp2
  go_ret
  exact ⟨rfl, rfl⟩

theorem set_two (L : List Value) (n : Nat) (hL : L.length = n) (p d p' d' : Value) : ((L ++ [p, d]).set n p').set (n + 1) d' = L ++ [p', d'] := by
  subst hL
  rw [List.set_append_right _ _ (Nat.le_refl _), Nat.sub_self, List.set_append_right _ _ (by omega), show L.length + 1 - L.length = 1 by omega]
  rfl
/-- The plan and the power set anew. -/
theorem RIs.set_pd {w : World} {base B : Nat} {vs : List Value} {a : Ab} (h : RIs w base B vs a) (plan : Int) (down : Bool) (h0 : 0 ≤ plan) (h1 : plan ≤ 9223372036854775807) :
    RIs ((w.setCell ⟨B, 17, none⟩ (.int .i64 plan)).setCell ⟨B, 18, none⟩ (.bool down)) base B vs ⟨a.room, a.fs, down, plan⟩ := by
  have hl := h.vlen
  have hl2 := h.len
  have hk : Kept (Kone B) w ((w.setCell ⟨B, 17, none⟩ (.int .i64 plan)).setCell ⟨B, 18, none⟩ (.bool down)) := Kept.setIn (S := Kone B) (Kept.setIn (S := Kone B) (Kept.refl _ _) (p := ⟨B, 17, none⟩) (Eq.refl _) _) (p := ⟨B, 18, none⟩) (Eq.refl _) _
  refine ⟨h.low, ?_, h.vlen, h.len, fun i v p hv hp => ⟨own_kept (h.files i v p hv hp).1 hk (fun k hk' e => ?_), (h.files i v p hv hp).2⟩, h.fits, h.room0, h.room1, h0, h1⟩
  · have h2 := (h.blk.set_ 17 (.int .i64 plan)).set_ 18 (.bool down)
    have e : ((rCells a.room vs (a.fs.map (·.2)) a.plan a.off).toArray.setIfInBounds 17 (.int .i64 plan)).setIfInBounds 18 (.bool down) = (rCells a.room vs (a.fs.map (·.2)) plan down).toArray := by
      rw [List.setIfInBounds_toArray, List.setIfInBounds_toArray]
      congr 1
      simp only [rCells, show 17 = 16 + 1 from rfl, show 18 = 17 + 1 from rfl, List.set_cons_succ]
      rw [← List.append_assoc, ← List.append_assoc, set_two _ 16 (by simp [hl, hl2])]
    rw [e] at h2
    exact h2
  · unfold Kone at e
    subst e
    exact h.own_B (List.mem_of_getElem? hv) hk'

end Go.Proofs.Yteoodgcpkgfomaa
