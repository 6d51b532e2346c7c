/-
  Codec: begun.
-/
import Derived.Test.YtdpbpmokmlnleaaCodecH
namespace Go.Proofs.Ytdpbpmokmlnleaa
open Go.RowKit
set_option linter.unusedVariables false

theorem bs_lit (w : World) (l : List UInt8) (fr : Nat × Nat) (t : TypeId) : Bs (w.alloc (.cells (l.map bv).toArray t fr)) (.slice (some ⟨w.heap.size, 0, none⟩) l.length l.length) l := by
  refine ⟨_, _, rfl, by simp, by simp, (fun h => by cases h), fun ad hA j u hj => ?_⟩
  cases hA
  rw [add_lit0, Nat.zero_add, cell_of_row _ w.heap.size j (l.map bv).toArray t fr (heap_alloc_new w _)]
  simpa using hj
theorem bs_nil (w : World) : Bs w (.slice none 0 0) [] := ⟨none, 0, rfl, Nat.le_refl _, rfl, fun _ => ⟨rfl, rfl⟩, fun ad h => by cases h⟩

def row0 : List Val := [⟨3, 1, ⟨#[]⟩⟩, ⟨5, 0, ⟨#[97]⟩⟩]
theorem row0_in (w : World) : RowIn (w.alloc (.cells #[.int .i64 3, .int .i64 1, .string ⟨#[]⟩, .int .i64 5, .int .i64 0, .string ⟨#[97]⟩] 41)) (.slice (some ⟨w.heap.size, 0, none⟩) 2 2) row0 := by
  have hb := Blk.new w 41 #[.int .i64 3, .int .i64 1, .string ⟨#[]⟩, .int .i64 5, .int .i64 0, .string ⟨#[97]⟩]
  refine ⟨_, 2, rfl, by decide, by decide, fun _ => ⟨w.heap.size, 0, rfl, fun i x hx => ?_⟩, ?_⟩
  · rcases i with _ | _ | i
    · simp [row0] at hx; subst hx; exact ⟨hb.cell 0, hb.cell 1, hb.cell 2⟩
    · simp [row0] at hx; subst hx; exact ⟨hb.cell 3, hb.cell 4, hb.cell 5⟩
    · simp [row0] at hx
  · intro x hx
    simp only [row0, List.mem_cons, List.not_mem_nil, or_false] at hx
    rcases hx with rfl | rfl
    · exact ⟨by decide, by decide, by decide⟩
    · exact ⟨by decide, by decide, by decide⟩
theorem row0_res : rowRes [] row0 = ([2, 3, 1, 5, 1, 97], 0) := by kernel_rfl
theorem uint0_res : uintRes [128, 0] 0 = (0, 0, 21) := by decide
theorem leb300 : leb 300 = [172, 2] := by decide
theorem leb_m1 : leb (zz (-1)) = [1] := by decide

set_option maxHeartbeats 2000000 in
theorem begun_any (w : World) : Calls Try.prog 12 #[] w (RetNew (.bool true) w) := by
  go_enter Try.func12, Try.ntmps12
  go_wp2_with fail
  refine (appendRow_any _ _ [] row0 _ (bs_nil _) (row0_in w) (by simp)).mono ?_
  rw [row0_res]
  rintro e w1 ⟨A1, cap1, rfl, hown1, hk1⟩
  have HO1 := Lib.hid hown1
  have hkw1 : Kept Kno w w1 := ((Kept.refl _ _).alloc _).then0 hk1
  clear hown1 hk1
  simp only [List.length_cons, List.length_nil, Nat.zero_add, Nat.reduceAdd] at HO1 ⊢
  go_wp2_with fail
  refine (uintF_any _ [128, 0] 0 _ (bs_lit w1 [128, 0] _ _) (by simp)).mono ?_
  rw [uint0_res]
  rintro e w2 ⟨rfl, hk2⟩
  have hkk2 : Kept Kno w1 w2 := ((Kept.refl _ _).alloc _).then0 hk2
  have HO2 : Hid (Bs w2 (.slice A1 6 cap1) [2, 3, 1, 5, 1, 97]) := Lib.hid (Rd.kept0 (OwnB.bs HO1.out) hkk2)
  have hkw2 : Kept Kno w w2 := hkw1.then0 hkk2
  clear hk2 hkk2 HO1
  go_wp2_with fail
  refine (same_any _ _ [2, 3, 1, 5, 1, 97] [2, 3, 1, 5, 1, 97] _ (Rd.alloc HO2.out _) (bs_lit w2 [2, 3, 1, 5, 1, 97] _ _)).mono ?_
  rw [decide_eq_true rfl]
  rintro e w3 ⟨rfl, hw3⟩
  have hkw3 : Kept Kno w w3 := by rw [← hw3]; exact hkw2.alloc _
  clear hw3
  go_wp2_with fail
  refine (appendUint_any _ [] 300 _ (bs_nil _) (by omega) (by simp)).mono ?_
  rw [List.nil_append, leb300]
  rintro e w4 ⟨A4, cap4, rfl, hown4, hk4⟩
  have HO4 := Lib.hid hown4
  have hkw4 : Kept Kno w w4 := hkw3.then0 hk4
  clear hown4 hk4
  simp only [List.length_cons, List.length_nil, Nat.zero_add, Nat.reduceAdd] at HO4 ⊢
  go_wp2_with fail
  refine (same_any _ _ [172, 2] [172, 2] _ (Rd.alloc (OwnB.bs HO4.out) _) (bs_lit w4 [172, 2] _ _)).mono ?_
  rw [decide_eq_true rfl]
  rintro e w5 ⟨rfl, hw5⟩
  have hkw5 : Kept Kno w w5 := by rw [← hw5]; exact hkw4.alloc _
  clear hw5 HO4
  go_wp2_with fail
  refine (appendInt_any _ [] (-1) _ (bs_nil _) (by omega) (by omega) (by simp)).mono ?_
  rw [List.nil_append, leb_m1]
  rintro e w6 ⟨A6, cap6, rfl, hown6, hk6⟩
  have HO6 := Lib.hid hown6
  have hkw6 : Kept Kno w w6 := hkw5.then0 hk6
  clear hown6 hk6
  simp only [List.length_cons, List.length_nil, Nat.zero_add, Nat.reduceAdd] at HO6 ⊢
  go_wp2_with fail
  refine (same_any _ _ [1] [1] _ (Rd.alloc (OwnB.bs HO6.out) _) (bs_lit w6 [1] _ _)).mono ?_
  rw [decide_eq_true rfl]
  rintro e w7 ⟨rfl, hw7⟩
  have hkw7 : Kept Kno w w7 := by rw [← hw7]; exact hkw6.alloc _
  clear hw7 HO6
  go_wp2
  go_ret
  exact ⟨rfl, hkw7⟩

end Go.Proofs.Ytdpbpmokmlnleaa
