/-
  Network: contracts of New, NewNetwork, Len, Lost, bytes.Clone, duplicate.
-/
import Derived.Test.YtcpidgpjifmimaaBase
import Derived.Test.YtcpidgpjifmimaaChecked
import Derived.Tactics
import Derived.Tactics2
import Derived.WalkKit
import Derived.WalkSpells
import Derived.WalkLawsBesides
import Derived.Deep.QuietTactic
import Derived.BigQuiet
import Derived.Deep.RegionHeld3
import Derived.Deep.DeepCutAuto
import Derived.Deep.DrawnRows
import Derived.Lib.Hide
import Derived.Outline
import Derived.KernelRfl
namespace Go.Proofs.Ytcpidgpjifmimaa
open Go.RowKit
set_option linter.unusedVariables false

set_option maxHeartbeats 400000 in
theorem new_ok (room : Int) (w : World) (h1 : 1 ≤ room) (h2 : room ≤ 256) :
    Calls Try.prog 8 #[.int .i64 room] w fun e w' =>
      e = .returned (.tuple #[.pointer (some ⟨w.heap.size, 0, none⟩), .int .i64 0]) ∧ w' = w.alloc (.cells #[.slice none 0 0, .int .i64 0, .int .i64 room] 35) := by
  go_enter Try.func8, Try.ntmps8
  go_wp2
  go_ret2
  exact ⟨rfl, rfl⟩

set_option maxHeartbeats 400000 in
theorem new_no (room : Int) (w : World) (h : room < 1 ∨ 256 < room) :
    Calls Try.prog 8 #[.int .i64 room] w fun e w' => e = .returned (.tuple #[.pointer none, .int .i64 1]) ∧ w = w' := by
  rcases h with h | h
  · go_enter Try.func8, Try.ntmps8
    go_wp2
    go_ret2
    exact ⟨rfl, rfl⟩
  · have h' : ¬ room < 1 := by omega
    go_enter Try.func8, Try.ntmps8
    go_wp2
    go_ret2
    exact ⟨rfl, rfl⟩

theorem info_byte : (Try.prog.info? 5).map (fun i => (i.zero, i.size, i.bytes)) = some (some (.int .u8 0), 1, 1) := by kernel_rfl

/-- A new slice in new memory that reads as l. -/
def RetB (l : List UInt8) (w : World) (e : Ending) (w' : World) : Prop :=
  ∃ A cap, e = .returned (.slice A l.length cap) ∧ OwnB w' w.heap.size 5 (.slice A l.length cap) l ∧ Kept Kno w w'

set_option maxHeartbeats 400000 in
theorem clone_any (v : Value) (l : List UInt8) (w : World) (h : Bs w v l) (hl : l.length ≤ 140737488355328) :
    Calls Try.prog 27 #[v] w (RetB l w) := by
  obtain ⟨i0, hi, hz0, hz1, hz2⟩ := info_parts info_byte
  have H := Lib.hid h
  obtain ⟨A, cap, rfl, hlc, hx, hn, hc⟩ := h
  have e1 := fun (w : World) => Lib.run_eql_slice_nil (P := Try.prog) w 39 5 A l.length cap 0 0 Try.underlying39
  clear hx hn hc
  rcases A with _ | ad
  · simp only [Option.isNone] at e1
    go_enter Try.func27, Try.ntmps27
    go_wp2
    go_ret
    obtain ⟨A, cap, hv, h1, h2, h3, h4⟩ := H.out
    cases hv
    obtain ⟨h5, rfl⟩ := h3 rfl
    have h6 : l = [] := List.eq_nil_of_length_eq_zero h5
    subst h6
    exact ⟨none, 0, rfl, World.ownsRow_nil _ _ _ _, Kept.refl _ _⟩
  · simp only [Option.isNone] at e1
    go_enter Try.func27, Try.ntmps27
    have r1 := Rd.alloc H.out (.cells #[] 5)
    have r2 : 0 + l.length ≤ maxLen := by simp only [maxLen]; omega
    go_wp2_with (at_builtin; go_must (refine wpList_append_rd _ rfl _ _ 39 rfl w.heap.size 5 i0 _ 1 1 Try.underlying39 hi hz0 hz1 hz2 rfl (by decide) _ 0 [] rfl (World.ownsRow_made w #[] 0 (Nat.le_refl _) (by decide) (by rfl)) _ l.length (l.map bv) rfl r1 (bvs_one l) r2 (by omega) (by simp) ?_); intro A1 cap1 w1 hown hg hat)
    go_ret
    simp only [Nat.zero_add, List.nil_append] at hown hat ⊢
    exact ⟨A1, cap1, rfl, hown, ((Kept.refl _ _).alloc _).grown hg (by intro k hk e; cases e; exact absurd hk (Nat.lt_irrefl _))⟩

def RetP (dst : Int) (l : List UInt8) (w : World) (e : Ending) (w' : World) : Prop :=
  ∃ A cap, e = .returned (.agg #[.int .i64 dst, .slice A l.length cap]) ∧ OwnB w' w.heap.size 5 (.slice A l.length cap) l ∧ Kept Kno w w'

set_option maxHeartbeats 800000 in
theorem duplicate_any (dst : Int) (v : Value) (l : List UInt8) (w : World) (h : Bs w v l) (hl : l.length ≤ 140737488355328) :
    Calls Try.prog 25 #[.agg #[.int .i64 dst, v]] w (RetP dst l w) := by
  have H := Lib.hid h
  obtain ⟨A, cap, rfl, hlc, hx, hn, hc⟩ := h
  clear hx hn hc
  go_enter Try.func25, Try.ntmps25
  go_wp2_with fail
  go_region_held3 (fun w' => w'.cell? ⟨w.heap.size, 0, none⟩ = some (.int .i64 dst) ∧ w'.cell? ⟨w.heap.size, 1, none⟩ = some (.slice A l.length cap)) (first | go_keep | (exact ⟨hk.cell_some (by go_simp) (fun h => h), hk.cell_some (by go_simp) (fun h => h)⟩))
    (first | (go_at_call 27; refine (clone_any _ l _ ?_ hl).mono ?_; (exact (Rd.alloc (Rd.alloc H.out _) _)); rintro e w1 ⟨A1, cap1, rfl, hown, hk⟩; have q0 : w1.cell? ⟨w.heap.size + 1, 0, none⟩ = some (.int .i64 0) := hk.cell_some (by go_simp) (fun h => h); have q1 : w1.cell? ⟨w.heap.size + 1, 1, none⟩ = some (.slice none 0 0) := hk.cell_some (by go_simp) (fun h => h); have q2 : w1.frozen? ⟨w.heap.size + 1, 0, none⟩ = false := hk.frozen_no (by go_simp) (by simp) (fun h => h); have q3 : w1.frozen? ⟨w.heap.size + 1, 1, none⟩ = false := hk.frozen_no (by go_simp) (by simp) (fun h => h)))
  go_wp2
  have hsz := hk.size
  simp at hsz
  refine bodyPost_ret (v := .agg #[.int .i64 dst, .slice A1 l.length cap1]) (by simp [results, Try.results25, go_sem, q0, q1]) rfl ⟨A1, cap1, rfl, ?_, ?_⟩
  · have hb : ∀ k, (Value.slice A1 l.length cap1).ownBlock = some k → w.heap.size + 2 ≤ k := fun k hk => by have := (own_base hown hk).1; simp at this; omega
    refine own_rebase (own_far (own_far hown ?_ _) ?_ _) (fun k hk => by have := hb k hk; omega)
    · intro e; have := hb _ e; simp at this
    · intro e; have := hb _ e; simp at this
  · exact ((Kept.then0 (Kept.drew (Kept.alloc (Kept.alloc (Kept.refl _ _) _) _)) hk).setNew (by simp) _).setNew (by simp) _

end Go.Proofs.Ytcpidgpjifmimaa
