/-
  NetworkRooms: for every room the law returns true, and changes nothing that was there.
-/
import Derived.Test.YtcpidgpjifmimaaNetD
import Derived.Test.YtcpidgpjifmimaaFrame
import Derived.LoopTactic
namespace Go.Proofs.Ytcpidgpjifmimaa
open Go.RowKit Go.ChangeShapes Go.WideShapes Go.ChangeAt
set_option linter.unusedVariables false

set_option maxHeartbeats 400000 in
theorem newref_ok (room : Int) (w : World) (h1 : 1 ≤ room) (h2 : room ≤ 256) :
    Calls Try.prog 9 #[.int .i64 room] w fun e w' =>
      e = .returned (.tuple #[.pointer (some ⟨w.heap.size, 0, none⟩), .int .i64 0]) ∧ w' = w.alloc (.cells #[.int .i64 room, .slice none 0 0, .int .i64 0] 52) := by
  go_enter Try.func9, Try.ntmps9
  go_wp2
  go_ret2
  exact ⟨rfl, rfl⟩

set_option maxHeartbeats 400000 in
theorem newref_no (room : Int) (w : World) (h : room < 1 ∨ 256 < room) :
    Calls Try.prog 9 #[.int .i64 room] w fun e w' => e = .returned (.tuple #[.pointer none, .int .i64 1]) ∧ w = w' := by
  rcases h with h | h
  · go_enter Try.func9, Try.ntmps9
    go_wp2
    go_ret2
    exact ⟨rfl, rfl⟩
  · have h' : ¬ room < 1 := by omega
    go_enter Try.func9, Try.ntmps9
    go_wp2
    go_ret2
    exact ⟨rfl, rfl⟩

def roomsOf (room : Int) : List Int := [room, 0, 1, 256, 257, -1]
def roomAt (room : Int) (k : Nat) : Int := (roomsOf room).getD k 0

def RoomsRel (room : Int) (w : World) (i : Value) (wr : World) : Prop :=
  ∃ k : Nat, k ≤ 6 ∧ i = .int .i64 k ∧ Kept Kno w wr ∧ Blk wr w.heap.size 3 #[.int .i64 room, .int .i64 0, .int .i64 1, .int .i64 256, .int .i64 257, .int .i64 (-1)]

set_option maxHeartbeats 2000000 in
theorem rooms_walk (room : Int) (w : World) : Calls Try.prog 3 #[.int .i64 room] w (RetNew (.bool true) w) := by
  go_enter Try.func3, Try.ntmps3
  go_wp2_with fail
  go_loopw [12] (fun i wr => RoomsRel room w i wr) (fun i _ => 6 - (intOf i).toNat)
  case atStart => exact ⟨0, by omega, rfl, (Kept.refl _ _).alloc _, Blk.new _ _ _⟩
  case round =>
    obtain ⟨k, hk, rfl, hkept, hblk⟩ := hrel
    by_cases hlt : k < 6
    · have hc : wr.cell? ⟨w.heap.size, k, none⟩ = some (.int .i64 (roomAt room k)) := by
        rw [hblk.cell]
        rcases k with _ | _ | _ | _ | _ | _ | k
        all_goals first | rfl | omega
      have HB := Lib.hid hblk
      clear hblk
      have hk1 : (0 : Int) ≤ (k : Int) := Int.natCast_nonneg _
      have hk2 : (k : Int) < 6 := by omega
      generalize roomAt room k = x at hc
      by_cases hx : 1 ≤ x ∧ x ≤ 256
      · obtain ⟨hx1, hx2⟩ := hx
        go_wp2_with fail
        refine (new_ok x _ hx1 hx2).mono ?_
        rintro e w1 ⟨rfl, hw1⟩
        have hk3 : Kept Kno w w1 := by rw [hw1]; exact hkept.alloc _
        have hb3 : Blk w1 w.heap.size 3 #[.int .i64 room, .int .i64 0, .int .i64 1, .int .i64 256, .int .i64 257, .int .i64 (-1)] := by rw [hw1]; exact HB.out.alloc _
        have c0 : w1.cell? ⟨wr.heap.size, 0, none⟩ = some (.slice none 0 0) := by rw [hw1]; exact (Blk.new _ _ _).cell 0
        have c1 : w1.cell? ⟨wr.heap.size, 1, none⟩ = some (.int .i64 0) := by rw [hw1]; exact (Blk.new _ _ _).cell 1
        have HB3 := Lib.hid hb3
        clear hw1 HB hb3
        go_wp2_with fail
        refine (newref_ok x _ hx1 hx2).mono ?_
        rintro e w2 ⟨rfl, hw2⟩
        have hk4 : Kept Kno w w2 := by rw [hw2]; exact hk3.alloc _
        have hb4 : Blk w2 w.heap.size 3 #[.int .i64 room, .int .i64 0, .int .i64 1, .int .i64 256, .int .i64 257, .int .i64 (-1)] := by rw [hw2]; exact HB3.out.alloc _
        have d0 : w2.cell? ⟨wr.heap.size, 0, none⟩ = some (.slice none 0 0) := by rw [hw2]; exact (Kept.alloc (Kept.refl Kno w1) _).cell_some c0 (fun h => h)
        have d1 : w2.cell? ⟨wr.heap.size, 1, none⟩ = some (.int .i64 0) := by rw [hw2]; exact (Kept.alloc (Kept.refl Kno w1) _).cell_some c1 (fun h => h)
        have HB4 := Lib.hid hb4
        clear hw2 HB3 hb4 c0 c1
        go_wp2_with fail
        refine (len_any _ _ 0 0 none _ d0).mono ?_
        rintro e w3 ⟨rfl, rfl⟩
        go_wp2_with fail
        refine (lost_any _ 0 _ d1).mono ?_
        rintro e w3 ⟨rfl, rfl⟩
        go_wp2
        go_roundw
        case rel => exact ⟨k + 1, by omega, by go_num, hk4, HB4.out⟩
        case measure => simp [intOf]; omega
      · have hx' : x < 1 ∨ 256 < x := by omega
        go_wp2_with fail
        refine (new_no x _ hx').mono ?_
        rintro e w1 ⟨rfl, rfl⟩
        go_wp2_with fail
        refine (newref_no x _ hx').mono ?_
        rintro e w1 ⟨rfl, rfl⟩
        go_wp2
        go_roundw
        case rel => exact ⟨k + 1, by omega, by go_num, hkept, HB.out⟩
        case measure => simp [intOf]; omega
    · have hk6 : ¬ (k : Int) < 6 := by omega
      go_wp2_with fail
      refine (begun_any _).mono ?_
      rintro e w1 ⟨rfl, hk1⟩
      go_wp2
      go_ret
      exact ⟨rfl, hkept.then0 hk1⟩

namespace networkRooms
set_option maxRecDepth 100000 in
theorem lifted (os : Os) (started : os.Started) (H : Type) (enc : TypeId × Value → H) :
    ReturnsInHanded {} Try.checked os 3 .any (Rows.networkRoomsSpec.pre6 enc Try.prog Try.f3 Rows.networkRoomsRow.domain false) (Rows.networkRoomsSpec.post enc Try.prog Try.f3 false true false false) := by
  refine returnsInHanded_of_change (C := Try.checked) law_own started (by kernel_rfl) Try.func3
    (ChangeSpec.witness6 (enc := enc) (C := Try.checked) false ⟨#[], #[.int .i64 0], []⟩ 8 (by kernel_rfl) (by kernel_rfl) (by kernel_rfl) (by kernel_rfl)) ?_
  intro W base args ds gs before hval0 hW hcnd _
  have hval : ∀ (j : Nat) t v, Try.f3.params[j]? = some t → args[j]? = some v → Value.okWide Try.prog W .any base t v := hval0
  have hW' := hW
  obtain ⟨p, q, hA, hV, rfl, hfz, hnd⟩ := hW
  rw [Try.params3] at hA hval
  obtain ⟨v0, vs0, d0, ds0, p0, q0, hargs, rfl, rfl, h0, r0⟩ := ChangeShapes.trodAll_cons hA
  obtain ⟨rfl, rfl, rfl⟩ := ChangeShapes.trodAll_nil r0
  obtain rfl : args = #[v0] := by cases args; simp_all
  obtain ⟨a0, rfl, rfl, rfl, w0⟩ := open_int Try.underlying3 (hval 0 3 v0 rfl rfl) h0
  refine (rooms_walk a0 W).mono fun e W' ⟨he, hk⟩ => ?_
  subst he
  exact ⟨_, rfl, post_law law_laid (by kernel_rfl) rfl Try.underlying4 rfl rfl hW' hk.to_below⟩

theorem over : Rows.networkRoomsRow.holds Try.pinned (OpenSpec.ofChange Rows.networkRoomsSpec) :=
  OpenClaim.holds_of_wide 3 Try.f3 rfl rfl rfl rfl rfl rfl rfl ⟨rfl, rfl, rfl, rfl, rfl⟩ rfl rfl rfl rfl rfl (by kernel_rfl) Try.func3 (by kernel_rfl)
    (of_decide_eq_true (by kernel_rfl)) (by unfold Func.isWrapper; first | (rw [if_pos (by decide +kernel)]; kernel_rfl) | (rw [if_neg (by decide +kernel)]; exact ⟨rfl, rfl⟩))
    (fun os started H enc _ => lifted os started H enc)

theorem proved : Rows.NetworkRoomsSaid := over
#print axioms proved
end networkRooms
end Go.Proofs.Ytcpidgpjifmimaa
