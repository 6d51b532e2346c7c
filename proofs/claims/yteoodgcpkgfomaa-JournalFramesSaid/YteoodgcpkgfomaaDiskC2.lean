/-
  Disk: the contract of the change that Truncate makes.
-/
import Derived.Test.YteoodgcpkgfomaaDiskC
namespace Go.Proofs.Yteoodgcpkgfomaa
open Go.RowKit
set_option linter.unusedVariables false

set_option maxHeartbeats 800000 in
theorem truncK (base B F X i n : Nat) (room plan : Int) (fs : List File) (off : Bool) (f : File) (w : World) (h : Dsk w base B room fs off plan) (hf : fs[i]? = some f) (hn : n ≤ f.l.length)
    (hF : w.cell? ⟨F, 0, none⟩ = some (.pointer (some ⟨B, 1 + i * 2, none⟩))) (hX : w.cell? ⟨X, 0, none⟩ = some (.int .i64 n)) (hFB : F ≠ B) (hXB : X ≠ B) :
    Calls Try.prog 76 #[.pointer (some ⟨F, 0, none⟩), .pointer (some ⟨X, 0, none⟩)] w fun e w' => e = .returned (.tuple #[]) ∧ Turn base B fs ⟨room, (fs.map File.ab).set i (f.l.take n, n), off, plan⟩ w w' := by
  have HD := Lib.hid h
  have HF := Lib.hid hf
  obtain ⟨c1, c2⟩ := h.c_file hf
  have c0 := h.blk.frozen (1 + i * 2)
  have c3 := h.blk.frozen (1 + i * 2 + 1)
  have hm := List.mem_of_getElem? hf
  have hown := (h.files f hm).1
  have hu := used_le hm
  have hr := h.room1
  have hfi := h.fits
  obtain ⟨A, cap, hv⟩ := own_form hown
  have HV := Lib.hid hv
  have hcap := own_cap hown hv
  rw [hv] at c1
  have hx : Turn base B fs ⟨room, (fs.map File.ab).set i (f.l.take n, n), off, plan⟩ w (((w.drewN 1).setCell ⟨B, 1 + i * 2, none⟩ (.slice A n cap)).setCell ⟨B, 1 + i * 2 + 1, none⟩ (.int .i64 n)) :=
    close_vs h hf (by rw [List.length_take]; omega) (Kept.drewN (Kept.refl _ w) 1) (own_cut (by have h9 : OwnB w base 5 f.v f.l := hown; rw [hv] at h9; exact h9) hn) (fun k he => .inl (by rw [hv]; cases A <;> exact he)) (by rw [List.length_take]; omega)
  have HX := Lib.hid hx
  have hn0 : (n : Int) ≤ f.l.length := by omega
  have hn1 : (n : Int) ≤ cap := by omega
  have hn2 : n ≤ cap := by omega
  clear h hf hown hv hx hm
  go_enter Try.func76, Try.ntmps76
  go_region
  all_goals
    go_wp2
    go_end0
    exact ⟨rfl, HX.out⟩

end Go.Proofs.Yteoodgcpkgfomaa
