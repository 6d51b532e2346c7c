/-
  Disk: Read, Size, Fail.
-/
import Derived.Test.YteoodgcpkgfomaaDiskF
namespace Go.Proofs.Yteoodgcpkgfomaa
open Go.RowKit
set_option linter.unusedVariables false

/-- Bytes in new memory, and OK. -/
def RetRead (l : List UInt8) (c : Int) (w : World) (e : Ending) (w' : World) : Prop :=
  ∃ A cap, e = .returned (.tuple #[.slice A l.length cap, .int .i64 c]) ∧ OwnB w' w.heap.size 5 (.slice A l.length cap) l ∧ Kept Kno w w'

set_option maxHeartbeats 800000 in
theorem read_yes (base B i : Nat) (room plan : Int) (fs : List File) (f : File) (w : World) (h : Dsk w base B room fs false plan) (hi : i < 8) (hf : fs[i]? = some f) :
    Calls Try.prog 19 #[.pointer (some ⟨B, 0, none⟩), .int .i64 i] w (RetRead f.l 0 w) := by
  have HD := Lib.hid h
  have HF := Lib.hid hf
  have HC := Lib.hid (checkOf_ok hi)
  have hi1 : (i : Int) < 8 := by omega
  obtain ⟨c1, -⟩ := h.c_file hf
  have hown := (h.files f (List.mem_of_getElem? hf)).1
  have hu := used_le (List.mem_of_getElem? hf)
  have hr := h.room1
  have hfi := h.fits
  obtain ⟨A, cap, hv⟩ := own_form hown
  have HB : Hid (Bs w (.slice A f.l.length cap) f.l) := Lib.hid (by have := OwnB.bs hown; rwa [hv] at this)
  rw [hv] at c1
  have hl : f.l.length ≤ 140737488355328 := by omega
  clear h hf hown hv
  go_enter Try.func19, Try.ntmps19
  go_wp2_with fail
  refine (check_any B false i _ HD.out.c_off).mono ?_
  rintro e w1 ⟨rfl, rfl⟩
  rw [HC.out]
  go_wp2_with fail
  refine (sclone_any _ f.l _ HB.out hl).mono ?_
  rintro e w1 ⟨A1, cap1, rfl, hown1, hk1⟩
  go_wp2
  go_ret2
  exact ⟨A1, cap1, rfl, hown1, hk1⟩

set_option maxHeartbeats 800000 in
theorem size_no (base B : Nat) (room plan : Int) (fs : List File) (off : Bool) (i c : Int) (w : World) (h : Dsk w base B room fs off plan) (hc : checkOf off i = c) (hc0 : c ≠ 0) :
    Calls Try.prog 21 #[.pointer (some ⟨B, 0, none⟩), .int .i64 i] w fun e w' => e = .returned (.tuple #[.int .i64 0, .int .i64 c]) ∧ w = w' := by
  have HD := Lib.hid h
  have HC := Lib.hid hc
  clear h hc
  go_enter Try.func21, Try.ntmps21
  go_wp2_with fail
  refine (check_any B off i _ HD.out.c_off).mono ?_
  rintro e w1 ⟨rfl, rfl⟩
  rw [HC.out]
  go_wp2
  go_ret2
  exact ⟨rfl, rfl⟩

set_option maxHeartbeats 800000 in
theorem size_yes (base B i : Nat) (room plan : Int) (fs : List File) (f : File) (w : World) (h : Dsk w base B room fs false plan) (hi : i < 8) (hf : fs[i]? = some f) :
    Calls Try.prog 21 #[.pointer (some ⟨B, 0, none⟩), .int .i64 i] w fun e w' => e = .returned (.tuple #[.int .i64 f.l.length, .int .i64 0]) ∧ w = w' := by
  have HD := Lib.hid h
  have HC := Lib.hid (checkOf_ok hi)
  have hi1 : (i : Int) < 8 := by omega
  obtain ⟨c1, -⟩ := h.c_file hf
  obtain ⟨A, cap, hv⟩ := own_form (h.files f (List.mem_of_getElem? hf)).1
  rw [hv] at c1
  clear h hf hv
  go_enter Try.func21, Try.ntmps21
  go_wp2_with fail
  refine (check_any B false i _ HD.out.c_off).mono ?_
  rintro e w1 ⟨rfl, rfl⟩
  rw [HC.out]
  go_wp2
  go_ret2
  exact ⟨rfl, rfl⟩

set_option maxHeartbeats 800000 in
theorem fail_off (B : Nat) (n : Int) (w : World) (h : w.cell? ⟨B, 17, none⟩ = some (.bool true)) :
    Calls Try.prog 36 #[.pointer (some ⟨B, 0, none⟩), .int .i64 n] w fun e w' => e = .returned (.tuple #[]) ∧ w = w' := by
  go_enter Try.func36, Try.ntmps36
  go_wp2
  go_end0
  exact ⟨rfl, rfl⟩

set_option maxHeartbeats 800000 in
theorem fail_on (B : Nat) (n p : Int) (w : World) (h : w.cell? ⟨B, 17, none⟩ = some (.bool false)) (h2 : w.cell? ⟨B, 18, none⟩ = some (.int .i64 p)) (hf : w.frozen? ⟨B, 18, none⟩ = false) :
    Calls Try.prog 36 #[.pointer (some ⟨B, 0, none⟩), .int .i64 n] w fun e w' => e = .returned (.tuple #[]) ∧ w' = w.setCell ⟨B, 18, none⟩ (.int .i64 (if 0 < n then n else 0)) := by
  by_cases hn : 0 < n
  · rw [if_pos hn]
    go_enter Try.func36, Try.ntmps36
    go_wp2
    go_end0
    exact ⟨rfl, rfl⟩
  · rw [if_neg hn]
    go_enter Try.func36, Try.ntmps36
    go_wp2
    all_goals
      go_end0
      first | exact ⟨rfl, rfl⟩ | (obtain rfl : n = 0 := by omega
                                  exact ⟨rfl, rfl⟩)

end Go.Proofs.Yteoodgcpkgfomaa
