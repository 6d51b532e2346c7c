/-
  Disk: Truncate.
-/
import Derived.Test.YteoodgcpkgfomaaDiskE
namespace Go.Proofs.Yteoodgcpkgfomaa
open Go.RowKit
set_option linter.unusedVariables false

set_option maxHeartbeats 800000 in
theorem trunc_no (base B : Nat) (room plan : Int) (fs : List File) (off : Bool) (i c n : Int) (w : World) (h : Dsk w base B room fs off plan) (hc : checkOf off i = c) (hc0 : c ≠ 0) :
    Calls Try.prog 52 #[.pointer (some ⟨B, 0, none⟩), .int .i64 i, .int .i64 n] w fun e w' => e = .returned (.int .i64 c) ∧ Kept Kno w w' := by
  have HD := Lib.hid h
  have HC := Lib.hid hc
  clear h hc
  go_enter Try.func52, Try.ntmps52
  go_wp2_with fail
  refine (check_any B off i _ ((HD.out.kept0 ((Kept.refl _ w).alloc _)).c_off)).mono ?_
  rintro e w1 ⟨rfl, rfl⟩
  rw [HC.out]
  go_wp2
  go_ret
  exact ⟨rfl, (Kept.refl _ w).alloc _⟩

set_option maxHeartbeats 1600000 in
theorem trunc_bad (base B i : Nat) (room plan : Int) (fs : List File) (f : File) (n : Int) (w : World) (h : Dsk w base B room fs false plan) (hi : i < 8) (hf : fs[i]? = some f) (hn : n < 0 ∨ (f.l.length : Int) < n) :
    Calls Try.prog 52 #[.pointer (some ⟨B, 0, none⟩), .int .i64 i, .int .i64 n] w fun e w' => e = .returned (.int .i64 1) ∧ Kept Kno w w' := by
  have HD := Lib.hid h
  have HC := Lib.hid (checkOf_ok hi)
  have hB := h.blk.lt
  have hi1 : (i : Int) < 8 := by omega
  obtain ⟨c1, -⟩ := h.c_file hf
  obtain ⟨A, cap, hv⟩ := own_form (h.files f (List.mem_of_getElem? hf)).1
  rw [hv] at c1
  clear h hf hv
  by_cases hn0 : n < 0
  · clear hn
    go_enter Try.func52, Try.ntmps52
    go_wp2_with fail
    refine (check_any B false i _ ((HD.out.kept0 ((Kept.refl _ w).alloc _)).c_off)).mono ?_
    rintro e w1 ⟨rfl, rfl⟩
    rw [HC.out]
    go_wp2_with fail
    go_quiet (fail)
    go_wp2
    go_ret
    exact ⟨rfl, (((Kept.refl _ w).alloc _).alloc _).drewN _⟩
  · have hn1 : (f.l.length : Int) < n := by omega
    have hn2 : ¬ (n : Int) ≤ (f.l.length : Int) := by omega
    clear hn
    go_enter Try.func52, Try.ntmps52
    go_wp2_with fail
    refine (check_any B false i _ ((HD.out.kept0 ((Kept.refl _ w).alloc _)).c_off)).mono ?_
    rintro e w1 ⟨rfl, rfl⟩
    rw [HC.out]
    go_wp2_with fail
    go_quiet (fail)
    go_wp2
    go_ret
    exact ⟨rfl, (((Kept.refl _ w).alloc _).alloc _).drewN _⟩

set_option maxHeartbeats 1600000 in
theorem trunc_yes (base B i n : Nat) (room plan : Int) (fs : List File) (f : File) (w : World) (h : Dsk w base B room fs false plan) (hi : i < 8) (hf : fs[i]? = some f) (hn : n ≤ f.l.length) :
    Calls Try.prog 52 #[.pointer (some ⟨B, 0, none⟩), .int .i64 i, .int .i64 n] w fun e w' =>
      e = .returned (.int .i64 (gateOf ⟨room, fs.map File.ab, false, plan⟩ false i (f.l.take n, n)).2) ∧ Turn base B fs (gateOf ⟨room, fs.map File.ab, false, plan⟩ false i (f.l.take n, n)).1 w w' := by
  have HD := Lib.hid h
  have HF := Lib.hid hf
  have HC := Lib.hid (checkOf_ok hi)
  have hB := h.blk.lt
  have hi1 : (i : Int) < 8 := by omega
  obtain ⟨c1, -⟩ := h.c_file hf
  obtain ⟨A, cap, hv⟩ := own_form (h.files f (List.mem_of_getElem? hf)).1
  rw [hv] at c1
  have hn1 : ¬ (f.l.length : Int) < (n : Int) := by omega
  have hn0 : ¬ (n : Int) < 0 := by omega
  clear h hf hv
  go_enter Try.func52, Try.ntmps52
  go_wp2_with fail
  refine (check_any B false i _ ((HD.out.kept0 ((Kept.refl _ w).alloc _)).c_off)).mono ?_
  rintro e w1 ⟨rfl, rfl⟩
  rw [HC.out]
  go_wp2_with fail
  go_quiet (fail)
  have hmf : ∀ (fn : Fn) (first cap : Array Value) (w : World), (Instr.makeFunc fn first cap).run Try.prog w = .ok (.func fn first cap) w := fun _ _ _ _ => rfl
  go_wp2_with fail
  have hk : Kept Kno w (((w.alloc (.cells #[.int .i64 n] 3)).alloc (.cells #[.pointer (some ⟨B, 1 + i * 2, none⟩)] 96)).drewN nq) := (((Kept.refl _ w).alloc _).alloc _).drewN _
  have hX : (((w.alloc (.cells #[.int .i64 n] 3)).alloc (.cells #[.pointer (some ⟨B, 1 + i * 2, none⟩)] 96)).drewN nq).cell? ⟨w.heap.size, 0, none⟩ = some (.int .i64 n) := by go_simp
  have hF : (((w.alloc (.cells #[.int .i64 n] 3)).alloc (.cells #[.pointer (some ⟨B, 1 + i * 2, none⟩)] 96)).drewN nq).cell? ⟨w.heap.size + 1, 0, none⟩ = some (.pointer (some ⟨B, 1 + i * 2, none⟩)) := by go_simp
  generalize (((w.alloc (.cells #[.int .i64 n] 3)).alloc (.cells #[.pointer (some ⟨B, 1 + i * 2, none⟩)] 96)).drewN nq) = wg at hk hX hF ⊢
  refine (gate_dsk base B 76 i _ false room plan fs (f.l.take n, n) wg (HD.out.kept0 hk) Try.call76 ?_).mono ?_
  · intro w1 off' plan' hk1 hd1
    refine truncK base B (w.heap.size + 1) w.heap.size i n room plan' fs off' f w1 hd1 HF.out hn (hk1.cell_some hF ?_) (hk1.cell_some hX ?_) (by omega) (by omega)
    · intro e; unfold Kone at e; simp at e; omega
    · intro e; unfold Kone at e; simp at e; omega
  · rintro e w2 ⟨rfl, ht⟩
    go_wp2
    go_ret
    exact ⟨rfl, ht.before0 hk⟩

end Go.Proofs.Yteoodgcpkgfomaa
