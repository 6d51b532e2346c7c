/-
  DiskRooms: the walk: for every room the law returns true, and changes nothing that was there.
-/
import Derived.Test.YtpkpinkjjknbdaaDiskK
import Derived.LoopTactic
namespace Go.Proofs.Ytpkpinkjjknbdaa
open Go.RowKit
set_option linter.unusedVariables false

set_option maxHeartbeats 400000 in
theorem newref_ok (room : Int) (w : World) (h1 : 0 ≤ room) (h2 : room ≤ 16777216) :
    Calls Try.prog 12 #[.int .i64 room] w fun e w' =>
      e = .returned (.tuple #[.pointer (some ⟨w.heap.size, 0, none⟩), .int .i64 0]) ∧ w' = w.alloc (.cells #[.int .i64 room, .slice none 0 0, .slice none 0 0, .slice none 0 0, .slice none 0 0, .slice none 0 0, .slice none 0 0, .slice none 0 0, .slice none 0 0, .int .i64 0, .int .i64 0, .int .i64 0, .int .i64 0, .int .i64 0, .int .i64 0, .int .i64 0, .int .i64 0, .int .i64 0, .bool false] 68) := by
  go_enter Try.func12, Try.ntmps12
  go_wp2
  go_ret2
  exact ⟨rfl, rfl⟩

set_option maxHeartbeats 400000 in
theorem newref_no (room : Int) (w : World) (h : room < 0 ∨ 16777216 < room) :
    Calls Try.prog 12 #[.int .i64 room] w fun e w' => e = .returned (.tuple #[.pointer none, .int .i64 1]) ∧ w = w' := by
  rcases h with h | h
  · go_enter Try.func12, Try.ntmps12
    go_wp2
    go_ret2
    exact ⟨rfl, rfl⟩
  · have h' : ¬ room < 0 := by omega
    go_enter Try.func12, Try.ntmps12
    go_wp2
    go_ret2
    exact ⟨rfl, rfl⟩

def roomsOf (room : Int) : List Int := [room, 0, -1, 16777216, 16777217]
def roomAt (room : Int) (k : Nat) : Int := (roomsOf room).getD k 0

def RoomsRel (room : Int) (w : World) (i : Value) (wr : World) : Prop :=
  ∃ k : Nat, k ≤ 5 ∧ i = .int .i64 k ∧ Kept Kno w wr ∧ Blk wr w.heap.size 3 #[.int .i64 room, .int .i64 0, .int .i64 (-1), .int .i64 16777216, .int .i64 16777217]

set_option maxHeartbeats 2000000 in
theorem rooms_walk (room : Int) (w : World) : Calls Try.prog 3 #[.int .i64 room] w (RetNew (.bool true) w) := by
  go_enter Try.func3, Try.ntmps3
  go_wp2_with fail
  go_loopw [12] (fun i wr => RoomsRel room w i wr) (fun i _ => 5 - (intOf i).toNat)
  case atStart => exact ⟨0, by omega, rfl, (Kept.refl _ _).alloc _, Blk.new _ _ _⟩
  case round =>
    obtain ⟨k, hk, rfl, hkept, hblk⟩ := hrel
    by_cases hlt : k < 5
    · have hc : wr.cell? ⟨w.heap.size, k, none⟩ = some (.int .i64 (roomAt room k)) := by
        rw [hblk.cell]
        rcases k with _ | _ | _ | _ | _ | k
        all_goals first | rfl | omega
      have HB := Lib.hid hblk
      clear hblk
      have hk1 : (0 : Int) ≤ (k : Int) := Int.natCast_nonneg _
      have hk2 : (k : Int) < 5 := by omega
      generalize roomAt room k = x at hc
      by_cases hx : 0 ≤ x ∧ x ≤ 16777216
      · obtain ⟨hx1, hx2⟩ := hx
        go_wp2_with fail
        refine (new_ok x _ hx1 hx2).mono ?_
        rintro e w1 ⟨rfl, hw1⟩
        have hk3 : Kept Kno w w1 := by rw [hw1]; exact hkept.alloc _
        have hb3 : Blk w1 w.heap.size 3 #[.int .i64 room, .int .i64 0, .int .i64 (-1), .int .i64 16777216, .int .i64 16777217] := by rw [hw1]; exact HB.out.alloc _
        have hd3 : Dsk w1 wr.heap.size wr.heap.size x (List.replicate 8 noFile) false 0 := by rw [hw1]; exact dsk_new wr _ x (Nat.le_refl _) hx1 hx2
        have HB3 := Lib.hid hb3
        have HD3 := Lib.hid hd3
        clear hw1 HB hb3 hd3
        go_wp2_with fail
        refine (newref_ok x _ hx1 hx2).mono ?_
        rintro e w2 ⟨rfl, hw2⟩
        have hk4 : Kept Kno w w2 := by rw [hw2]; exact hk3.alloc _
        have hb4 : Blk w2 w.heap.size 3 #[.int .i64 room, .int .i64 0, .int .i64 (-1), .int .i64 16777216, .int .i64 16777217] := by rw [hw2]; exact HB3.out.alloc _
        have hd4 : Dsk w2 wr.heap.size wr.heap.size x (List.replicate 8 noFile) false 0 := by rw [hw2]; exact HD3.out.kept0 ((Kept.refl _ _).alloc _)
        have HB4 := Lib.hid hb4
        have HD4 := Lib.hid hd4
        have hu : used (List.replicate 8 noFile) = 0 := by decide
        have HU := Lib.hid hu
        clear hw2 HB3 hb4 hd4 HD3 hu
        go_wp2_with fail
        refine (used_any _ _ _ _ _ _ _ HD4.out).mono ?_
        rw [HU.out]
        rintro e w3 ⟨rfl, rfl⟩
        go_wp2_with fail
        refine (off_any _ false _ HD4.out.c_off).mono ?_
        rintro e w3 ⟨rfl, rfl⟩
        go_wp2
        go_roundw
        case rel => exact ⟨k + 1, by omega, by go_num, hk4, HB4.out⟩
        case measure => simp [intOf]; omega
      · have hx' : x < 0 ∨ 16777216 < x := by omega
        go_wp2_with fail
        refine (new_no x _ hx').mono ?_
        rintro e w1 ⟨rfl, rfl⟩
        go_wp2_with fail
        refine (newref_no x _ hx').mono ?_
        rintro e w1 ⟨rfl, rfl⟩
        go_wp2
        go_roundw
        case rel => exact ⟨k + 1, by omega, by go_num, hkept, HB.out⟩
        case measure => simp [intOf]; omega
    · have hk6 : ¬ (k : Int) < 5 := by omega
      go_wp2_with fail
      refine (begun_any _).mono ?_
      rintro e w1 ⟨rfl, hk1⟩
      go_wp2
      go_ret
      exact ⟨rfl, hkept.then0 hk1⟩

theorem rooms_final (room : Int) (w : World) (_ : (Lit.int .i64 room).wf = true) : Calls Try.prog 3 #[.int .i64 room] w (RetNew (.bool true) w) := rooms_walk room w
end Go.Proofs.Ytpkpinkjjknbdaa
