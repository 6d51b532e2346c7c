/-
  Network: begun, and the law NetworkRooms.
-/
import Derived.Test.YtcpidgpjifmimaaNetC
import Derived.Lib.SlBytesConst
namespace Go.Proofs.Ytcpidgpjifmimaa
open Go.RowKit
set_option linter.unusedVariables false

theorem net_new (w : World) (base : Nat) (room : Int) (hb : base ≤ w.heap.size) : Net (w.alloc (.cells #[.slice none 0 0, .int .i64 0, .int .i64 room] 35)) base w.heap.size (.slice none 0 0) [] 0 room :=
  ⟨hb, Blk.new _ _ _, World.ownsRow_nil _ _ _ _, fun p hp => by cases hp⟩

theorem bs_marked (w : World) (c : UInt8) (fr : Nat × Nat) (t : TypeId) : Bs (w.alloc (.cells #[.int .u8 c.toNat] t fr)) (.slice (some ⟨w.heap.size, 0, none⟩) 1 1) [c] := by
  refine ⟨_, _, rfl, by simp, rfl, (fun h => by cases h), fun ad hA j u hj => ?_⟩
  cases hA
  rw [add_lit0, Nat.zero_add, cell_of_row _ w.heap.size j #[.int .u8 c.toNat] t fr (heap_alloc_new w _)]
  simpa [bv] using hj

/-- What a network of the call's own may change is new. -/
theorem kept_net {w w1 w2 : World} {base B : Nat} {v : Value} {ps : List Pk} {lost room : Int} (hk : Kept Kno w w1) (h : Net w1 base B v ps lost room) (hb : w.heap.size ≤ base) (hk2 : Kept (NK B v) w1 w2) : Kept Kno w w2 :=
  hk.trans hk2 (fun i hi hN => by
    rcases hN with e | e
    · have := h.1; omega
    · have := (own_base h.2.2.1 e).1; omega)
theorem kept_one {w w1 w2 : World} {B : Nat} (hk : Kept Kno w w1) (hb : w.heap.size ≤ B) (hk2 : Kept (Kone B) w1 w2) : Kept Kno w w2 :=
  hk.trans hk2 (fun i hi e => by unfold Kone at e; omega)

set_option maxHeartbeats 1000000 in
theorem begun_any (w : World) : Calls Try.prog 12 #[] w (RetNew (.bool true) w) := by
  have kc := fun (w : World) (C : Array Value) (n c : Nat) => Lib.run_convert_bytes_const (P := Try.prog) w 39 5 C n c Try.underlying39 Try.underlying5
  go_enter Try.func12, Try.ntmps12
  go_wp2_with fail
  refine (new_ok 1 _ (by omega) (by omega)).mono ?_
  rintro e w1 ⟨rfl, hw1⟩
  have hk1 : Kept Kno w w1 := by rw [hw1]; exact (Kept.refl _ _).alloc _
  have hn1 : Net w1 w.heap.size w.heap.size (.slice none 0 0) [] 0 1 := by rw [hw1]; exact net_new w _ 1 (Nat.le_refl _)
  have hs1 : w.heap.size < w1.heap.size := by rw [hw1]; simp
  have HN1 := Lib.hid hn1
  clear hw1 hn1
  go_wp2_with fail
  refine (send_yes w.heap.size w.heap.size _ _ [] 0 1 0 [97] _ (HN1.out.kept0 ((Kept.refl _ _).alloc _)) (bs_marked w1 97 _ _) (by simp) ?_ (by simp) (by simp)).mono ?_
  · simp; omega
  rintro e w2 ⟨rfl, v2, p, hp1, hp2, hn2, hkk, -, -⟩
  have hk2 : Kept Kno w w2 := kept_net (hk1.alloc _) (HN1.out.kept0 ((Kept.refl _ _).alloc _)) (Nat.le_refl _) hkk
  have HN2 := Lib.hid hn2
  clear hn2 hkk HN1 hs1 hp1 hp2
  go_wp2_with fail
  refine (send_no w.heap.size w.heap.size _ _ _ 0 1 1 _ (HN2.out.kept0 ((Kept.refl _ _).alloc _)) (by simp) (by simp) (by simp)).mono ?_
  rintro e w3 ⟨rfl, hn3, hkk⟩
  have hk3 : Kept Kno w w3 := kept_one (hk2.alloc _) (Nat.le_refl _) hkk
  have c1 : w3.cell? ⟨w.heap.size, 1, none⟩ = some (.int .i64 1) := hn3.2.1.cell 1
  have HN3 := Lib.hid hn3
  clear hn3 hkk HN2
  go_wp2_with fail
  refine (lost_any _ 1 _ c1).mono ?_
  rintro e w4 ⟨rfl, rfl⟩
  go_wp2_with fail
  refine (double_full w.heap.size w.heap.size 0 _ _ p _ 1 _ HN3.out rfl (by simp) (by simp)).mono ?_
  rintro e w4 ⟨rfl, hkk⟩
  obtain ⟨A, cap, hv⟩ := own_form HN3.out.2.2.1
  have c2 : w4.cell? ⟨w.heap.size, 0, none⟩ = some (.slice A 1 cap) := ((HN3.out.kept0 hkk).2.1.cell 0).trans (by rw [hv]; rfl)
  clear hv
  go_wp2_with fail
  refine (len_any _ _ 1 cap A _ c2).mono ?_
  rintro e w5 ⟨rfl, rfl⟩
  go_wp2
  go_ret
  exact ⟨rfl, hk3.then0 hkk⟩

end Go.Proofs.Ytcpidgpjifmimaa
