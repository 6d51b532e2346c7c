/-
  Disk: the contract of the change that Replace makes.
-/
import Derived.Test.YteoodgcpkgfomaaDiskC
namespace Go.Proofs.Yteoodgcpkgfomaa
open Go.RowKit
set_option linter.unusedVariables false

set_option maxHeartbeats 800000 in
theorem replaceK (base B F X i : Nat) (room plan : Int) (fs : List File) (off : Bool) (f : File) (b : Value) (lb : List UInt8) (w : World) (h : Dsk w base B room fs off plan) (hf : fs[i]? = some f)
    (hF : w.cell? ⟨F, 0, none⟩ = some (.pointer (some ⟨B, 1 + i * 2, none⟩))) (hX : w.cell? ⟨X, 0, none⟩ = some b) (hb : Bs w b lb) (hfit : (used fs : Int) + lb.length - f.l.length ≤ room) (hFB : F ≠ B) (hXB : X ≠ B) :
    Calls Try.prog 70 #[.pointer (some ⟨X, 0, none⟩), .pointer (some ⟨F, 0, none⟩)] w fun e w' => e = .returned (.tuple #[]) ∧ Turn base B fs ⟨room, (fs.map File.ab).set i (lb, lb.length), off, plan⟩ w w' := by
  have HD := Lib.hid h
  have HF := Lib.hid hf
  obtain ⟨c1, c2⟩ := h.c_file hf
  have c0 := h.blk.frozen (1 + i * 2)
  have c3 := h.blk.frozen (1 + i * 2 + 1)
  have hm := List.mem_of_getElem? hf
  have hu := used_le hm
  have hr := h.room1
  have lB := h.blk.lt
  have hlb : lb.length ≤ 140737488355328 := by omega
  have hbase : base ≤ w.heap.size := Nat.le_trans h.low (Nat.le_of_lt h.blk.lt)
  have HB := Lib.hid hb
  obtain ⟨Ab, capb, rfl, -⟩ := hb
  clear h hf hm
  go_enter Try.func70, Try.ntmps70
  go_region_held3 (fun w' => w'.cell? ⟨F, 0, none⟩ = some (.pointer (some ⟨B, 1 + i * 2, none⟩)) ∧ w'.cell? ⟨X, 0, none⟩ = some (.slice Ab lb.length capb)) (first | go_keep | (exact ⟨q5, q6⟩) | (exact ⟨(World.cell?_setCell_far _ _ _ _ hFB.symm).trans q5, (World.cell?_setCell_far _ _ _ _ hXB.symm).trans q6⟩) | (exact ⟨(World.cell?_setCell_far _ _ _ _ hFB.symm).trans ((World.cell?_setCell_far _ _ _ _ hFB.symm).trans q5), (World.cell?_setCell_far _ _ _ _ hXB.symm).trans ((World.cell?_setCell_far _ _ _ _ hXB.symm).trans q6)⟩))
    (first | (go_at_call 60; refine (sclone_any _ lb _ ?_ hlb).mono ?_; (exact HB.out); rintro e w1 ⟨A1, cap1, rfl, hown, hk'⟩; have hk : Kept Kno w w1 := Kept.then0 (Kept.drew (Kept.refl _ w)) hk'; clear hk'; have q1 := hk.cell_some c1 (fun h => h); have q2 := hk.cell_some c2 (fun h => h); have q3 := hk.frozen_no c0 lB (fun h => h); have q4 := hk.frozen_no c3 lB (fun h => h); have q5 := hk.cell_some hF (fun h => h); have q6 := hk.cell_some hX (fun h => h)))
  go_wp2
  go_end0
  exact ⟨rfl, close_vs HD.out HF.out (Nat.le_refl _) hk (own_rebase hown (fun k hk' => by have := (own_base hown hk').1; simp at this; omega)) (fun k hk' => .inr (by have := (own_base hown hk').1; simpa using this)) hfit⟩

end Go.Proofs.Yteoodgcpkgfomaa
