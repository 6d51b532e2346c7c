/-
  Disk: gate at a whole disk; the abstract steps; Append, Truncate, Replace, Sync.
-/
import Derived.Test.YteoodgcpkgfomaaDiskC2
import Derived.Test.YteoodgcpkgfomaaDiskC3
namespace Go.Proofs.Yteoodgcpkgfomaa
open Go.RowKit
set_option linter.unusedVariables false

/-- A change through the gate. -/
def gateOf (a : Ab) (torn : Bool) (i : Nat) (new : List UInt8 × Nat) : Ab × Int :=
  if a.plan = 0 then (⟨a.room, a.fs.set i new, a.off, 0⟩, 0)
  else if a.plan = 1 then (⟨a.room, if torn then a.fs.set i new else a.fs, true, 0⟩, 220)
  else (⟨a.room, a.fs.set i new, a.off, a.plan - 1⟩, 0)

theorem Turn.before {base B : Nat} {fs : List File} {ab : Ab} {w w1 w' : World} (h : Turn base B fs ab w1 w') (hk : Kept (Kone B) w w1) : Turn base B fs ab w w' := by
  obtain ⟨fs', h1, h2, h3, h4⟩ := h
  refine ⟨fs', h1, h2, (hk.mono (T := DK B fs) (fun k _ e => .inl e)).trans h3 (fun _ _ e => e), fun k hk' => ?_⟩
  rcases h4 k hk' with e | e
  · exact .inl e
  · exact .inr (Nat.le_trans hk.size e)
theorem Turn.before0 {base B : Nat} {fs : List File} {ab : Ab} {w w1 w' : World} (h : Turn base B fs ab w1 w') (hk : Kept Kno w w1) : Turn base B fs ab w w' := h.before (hk.mono (fun _ _ e => e.elim))
theorem Dsk.turn0 {w w' : World} {base B : Nat} {room plan : Int} {fs : List File} {off : Bool} (h : Dsk w' base B room fs off plan) (hk : Kept (Kone B) w w') : Turn base B fs ⟨room, fs.map File.ab, off, plan⟩ w w' :=
  ⟨fs, h, rfl, hk.mono (fun k _ e => .inl e), fun k e => .inl e⟩

theorem gate_dsk (base B K i : Nat) (caps : Array Value) (torn : Bool) (room plan : Int) (fs : List File) (new : List UInt8 × Nat) (w : World) (h : Dsk w base B room fs false plan) (hK : Ent K)
    (hk : ∀ w1 off' plan', Kept (Kone B) w w1 → Dsk w1 base B room fs off' plan' → Calls Try.prog K caps w1 fun e w' => e = .returned (.tuple #[]) ∧ Turn base B fs ⟨room, (fs.map File.ab).set i new, off', plan'⟩ w1 w') :
    Calls Try.prog 68 #[.pointer (some ⟨B, 0, none⟩), .bool torn, .func (.func K) #[] caps] w fun e w' =>
      e = .returned (.int .i64 (gateOf ⟨room, fs.map File.ab, false, plan⟩ torn i new).2) ∧ Turn base B fs (gateOf ⟨room, fs.map File.ab, false, plan⟩ torn i new).1 w w' := by
  have h0 := h.plan0
  have h1 := h.plan1
  have c1 := h.c_plan
  have f1 := h.blk.frozen 18
  have c2 := h.c_off
  have f2 := h.blk.frozen 17
  by_cases e0 : plan = 0
  · subst e0
    simp only [gateOf, if_true]
    exact gate_free B K caps torn w _ hK c1 (hk w false 0 (Kept.refl _ _) h)
  · by_cases e1 : plan = 1
    · subst e1
      have hs := (h.set_plan (p := 0) (by omega) (by omega)).set_off true
      have hkk : Kept (Kone B) w ((w.setCell ⟨B, 18, none⟩ (.int .i64 0)).setCell ⟨B, 17, none⟩ (.bool true)) := Kept.setIn (S := Kone B) (Kept.setIn (S := Kone B) (Kept.refl _ _) (p := ⟨B, 18, none⟩) (Eq.refl B) _) (p := ⟨B, 17, none⟩) (Eq.refl B) _
      cases torn with
      | true =>
        simp only [gateOf, if_true, if_neg e0]
        exact gate_torn B K caps w _ hK c1 f1 c2 f2 ((hk _ true 0 hkk hs).mono fun e w' ⟨a, b⟩ => ⟨a, b.before hkk⟩)
      | false =>
        simp only [gateOf, if_true, if_neg e0]
        refine (gate_down B K caps w c1 f1 c2 f2).mono ?_
        rintro e w' ⟨rfl, rfl⟩
        exact ⟨rfl, hs.turn0 hkk⟩
    · simp only [gateOf, if_neg e0, if_neg e1]
      have hs := h.set_plan (p := plan - 1) (by omega) (by omega)
      have hkk : Kept (Kone B) w (w.setCell ⟨B, 18, none⟩ (.int .i64 (plan - 1))) := Kept.setIn (S := Kone B) (Kept.refl _ _) (p := ⟨B, 18, none⟩) (Eq.refl B) _
      exact gate_more B K caps torn plan w _ hK c1 f1 (by omega) h1 ((hk _ false (plan - 1) hkk hs).mono fun e w' ⟨a, b⟩ => ⟨a, b.before hkk⟩)

end Go.Proofs.Yteoodgcpkgfomaa
