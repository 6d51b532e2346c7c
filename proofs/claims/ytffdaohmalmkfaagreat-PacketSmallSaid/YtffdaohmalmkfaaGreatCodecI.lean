/-
  Codec: begun.
-/
import Derived.Test.YtffdaohmalmkfaaGreatCodecH
namespace Go.Proofs.YtffdaohmalmkfaaGreat
open Go.RowKit
set_option linter.unusedVariables false

theorem bs_lit (w : World) (l : List UInt8) (fr : Nat × Nat) (t : TypeId) : Bs (w.alloc (.cells (l.map bv).toArray t fr)) (.slice (some ⟨w.heap.size, 0, none⟩) l.length l.length) l := by
  refine ⟨_, _, rfl, by simp, by simp, (fun h => by cases h), fun ad hA j u hj => ?_⟩
  cases hA
  rw [add_lit0, Nat.zero_add, cell_of_row _ w.heap.size j (l.map bv).toArray t fr (heap_alloc_new w _)]
  simpa using hj
theorem bs_nil (w : World) : Bs w (.slice none 0 0) [] := ⟨none, 0, rfl, Nat.le_refl _, rfl, fun _ => ⟨rfl, rfl⟩, fun ad h => by cases h⟩

def row0 : List Val := [⟨3, 1, ⟨#[]⟩⟩, ⟨5, 0, ⟨#[97]⟩⟩]
theorem row0_in (w : World) : RowIn (w.alloc (.cells #[.int .i64 3, .int .i64 1, .string ⟨#[]⟩, .int .i64 5, .int .i64 0, .string ⟨#[97]⟩] 49)) (.slice (some ⟨w.heap.size, 0, none⟩) 2 2) row0 := by
  have hb := Blk.new w 49 #[.int .i64 3, .int .i64 1, .string ⟨#[]⟩, .int .i64 5, .int .i64 0, .string ⟨#[97]⟩]
  refine ⟨_, 2, rfl, by decide, by decide, fun _ => ⟨w.heap.size, 0, rfl, fun i x hx => ?_⟩, ?_⟩
  · rcases i with _ | _ | i
    · simp [row0] at hx; subst hx; exact ⟨hb.cell 0, hb.cell 1, hb.cell 2⟩
    · simp [row0] at hx; subst hx; exact ⟨hb.cell 3, hb.cell 4, hb.cell 5⟩
    · simp [row0] at hx
  · intro x hx
    simp only [row0, List.mem_cons, List.not_mem_nil, or_false] at hx
    rcases hx with rfl | rfl
    · exact ⟨by decide, by decide, by decide⟩
    · exact ⟨by decide, by decide, by decide⟩
theorem row0_res : rowRes [] row0 = ([2, 3, 1, 5, 1, 97], 0) := by kernel_rfl
theorem uint0_res : uintRes [128, 0] 0 = (0, 0, 21) := by decide
theorem leb300 : leb 300 = [172, 2] := by decide
theorem leb_m1 : leb (zz (-1)) = [1] := by decide

end Go.Proofs.YtffdaohmalmkfaaGreat
