/-
  Disk: begun.
-/
import Derived.Test.YteoodgcpkgfomaaDiskJ
import Derived.Lib.SlBytesConst
namespace Go.Proofs.Yteoodgcpkgfomaa
open Go.RowKit
set_option linter.unusedVariables false

def ab0 (room : Int) : Ab := ⟨room, List.replicate 8 ([], 0), false, 0⟩
theorem is_new (w : World) (base : Nat) (room : Int) (hb : base ≤ w.heap.size) (h0 : 0 ≤ room) (h1 : room ≤ 16777216) :
    Is (w.alloc (.cells (dCells room (List.replicate 8 noFile) false 0).toArray 87)) base w.heap.size (List.replicate 8 noFile) (ab0 room) :=
  ⟨dsk_new w base room hb h0 h1, by simp [ab0, noFile, File.ab]⟩

theorem bs_lit (w : World) (l : List UInt8) (fr : Nat × Nat) (t : TypeId) : Bs (w.alloc (.cells (l.map bv).toArray t fr)) (.slice (some ⟨w.heap.size, 0, none⟩) l.length l.length) l := by
  refine ⟨_, _, rfl, by simp, by simp, (fun h => by cases h), fun ad hA j u hj => ?_⟩
  cases hA
  rw [add_lit0, Nat.zero_add, cell_of_row _ w.heap.size j (l.map bv).toArray t fr (heap_alloc_new w _)]
  simpa using hj
theorem keep_nil (w : World) : KeepIn w (.slice none 0 0) [] := ⟨none, 0, rfl, by simp, by simp, fun h => by simp at h⟩

set_option maxHeartbeats 2000000 in
theorem begun_any (w : World) : Calls Try.prog 24 #[] w (RetNew (.bool true) w) := by
  have kc := fun (w : World) (C : Array Value) (n c : Nat) => Lib.run_convert_bytes_const (P := Try.prog) w 30 5 C n c Try.underlying30 Try.underlying5
  go_enter Try.func24, Try.ntmps24
  go_wp2_with fail
  refine (new_ok 3 _ (by omega) (by omega)).mono ?_
  rintro e w1 ⟨rfl, hw1⟩
  have hk1 : Kept Kno w w1 := by rw [hw1]; exact (Kept.refl _ _).alloc _
  have hn1 : Is w1 w.heap.size w.heap.size (List.replicate 8 noFile) (ab0 3) := by rw [hw1]; exact is_new w _ 3 (Nat.le_refl _) (by omega) (by omega)
  have HN1 := Lib.hid hn1
  clear hw1 hn1
  go_wp2_with fail
  refine (append_any 0 _ [97, 98] (HN1.out.kept0 ((Kept.refl _ _).alloc _)) (bs_lit w1 [97, 98] _ _)).mono ?_
  rintro e w2 ⟨he, ht⟩
  obtain ⟨fs2, hi2, hkk2, -⟩ := ht.is
  have hk2 : Kept Kno w w2 := (HN1.out.kept0 ((Kept.refl _ _).alloc _)).kept (hk1.alloc _) (Nat.le_refl _) hkk2
  have HI2 := Lib.hid hi2
  have ec : ((ab0 3).append 0 [97, 98]).2 = 0 := by decide
  rw [ec] at he
  subst he
  clear ht hi2 hkk2 HN1 ec
  go_wp2_with fail
  refine (sync_any 0 HI2.out).mono ?_
  rintro e w3 ⟨he, ht⟩
  obtain ⟨fs3, hi3, hkk3, -⟩ := ht.is
  have hk3 : Kept Kno w w3 := HI2.out.kept hk2 (Nat.le_refl _) hkk3
  have HI3 := Lib.hid hi3
  have ec : (((ab0 3).append 0 [97, 98]).1.sync 0).2 = 0 := by decide
  rw [ec] at he
  subst he
  clear ht hi3 hkk3 HI2 ec
  go_wp2_with fail
  refine (append_any 0 _ [99] (HI3.out.kept0 ((Kept.refl _ _).alloc _)) (bs_lit w3 [99] _ _)).mono ?_
  rintro e w4 ⟨he, ht⟩
  obtain ⟨fs4, hi4, hkk4, -⟩ := ht.is
  have hk4 : Kept Kno w w4 := (HI3.out.kept0 ((Kept.refl _ _).alloc _)).kept (hk3.alloc _) (Nat.le_refl _) hkk4
  have HI4 := Lib.hid hi4
  have ec : ((((ab0 3).append 0 [97, 98]).1.sync 0).1.append 0 [99]).2 = 0 := by decide
  rw [ec] at he
  subst he
  clear ht hi4 hkk4 HI3 ec
  go_wp2_with fail
  refine (append_any 1 _ [100] (HI4.out.kept0 ((Kept.refl _ _).alloc _)) (bs_lit w4 [100] _ _)).mono ?_
  rintro e w5 ⟨he, ht⟩
  obtain ⟨fs5, hi5, hkk5, -⟩ := ht.is
  have hk5 : Kept Kno w w5 := (HI4.out.kept0 ((Kept.refl _ _).alloc _)).kept (hk4.alloc _) (Nat.le_refl _) hkk5
  have HI5 := Lib.hid hi5
  have ec : (((((ab0 3).append 0 [97, 98]).1.sync 0).1.append 0 [99]).1.append 1 [100]).2 = 221 := by decide
  rw [ec] at he
  subst he
  clear ht hi5 hkk5 HI4 ec
  go_wp2_with fail
  refine (crash_any _ [] HI5.out (fun w1 _ => keep_nil w1)).mono ?_
  rintro e w6 ⟨rfl, ht⟩
  obtain ⟨fs6, hi6, hkk6, -⟩ := ht.is
  have hk6 : Kept Kno w w6 := HI5.out.kept hk5 (Nat.le_refl _) hkk6
  have HI6 := Lib.hid hi6
  clear ht hi6 hkk6 HI5
  go_wp2_with fail
  refine (read_any 0 HI6.out).mono ?_
  have ec : (((((((ab0 3).append 0 [97, 98]).1.sync 0).1.append 0 [99]).1.append 1 [100]).1.crash []).read 0) = ([97, 98], 0) := by decide
  rw [ec]
  rintro e w7 ⟨A, cap, rfl, hown, hk7⟩
  have t1 := run_string_bs (P := Try.prog) 30 9 5 hown.bs Try.underlying30 Try.underlying5 Try.underlying9
  simp only [List.length_cons, List.length_nil, Nat.zero_add, Nat.reduceAdd] at t1
  clear hown ec HI6
  go_wp2
  go_ret
  exact ⟨rfl, hk6.then0 hk7⟩

end Go.Proofs.Yteoodgcpkgfomaa
