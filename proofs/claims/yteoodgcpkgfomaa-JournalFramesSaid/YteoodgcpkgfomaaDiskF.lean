/-
  Disk: Sync, Read, Size.
-/
import Derived.Test.YteoodgcpkgfomaaDiskE
namespace Go.Proofs.Yteoodgcpkgfomaa
open Go.RowKit
set_option linter.unusedVariables false

set_option maxHeartbeats 800000 in
theorem sync_no (base B : Nat) (room plan : Int) (fs : List File) (off : Bool) (i c : Int) (w : World) (h : Dsk w base B room fs off plan) (hc : checkOf off i = c) (hc0 : c ≠ 0) :
    Calls Try.prog 53 #[.pointer (some ⟨B, 0, none⟩), .int .i64 i] w fun e w' => e = .returned (.int .i64 c) ∧ w = w' := by
  have HD := Lib.hid h
  have HC := Lib.hid hc
  clear h hc
  go_enter Try.func53, Try.ntmps53
  go_wp2_with fail
  refine (check_any B off i _ HD.out.c_off).mono ?_
  rintro e w1 ⟨rfl, rfl⟩
  rw [HC.out]
  go_wp2
  go_ret
  exact ⟨rfl, rfl⟩

set_option maxHeartbeats 800000 in
theorem sync_yes (base B i : Nat) (room plan : Int) (fs : List File) (f : File) (w : World) (h : Dsk w base B room fs false plan) (hi : i < 8) (hf : fs[i]? = some f) :
    Calls Try.prog 53 #[.pointer (some ⟨B, 0, none⟩), .int .i64 i] w fun e w' =>
      e = .returned (.int .i64 (gateOf ⟨room, fs.map File.ab, false, plan⟩ false i (f.l, f.l.length)).2) ∧ Turn base B fs (gateOf ⟨room, fs.map File.ab, false, plan⟩ false i (f.l, f.l.length)).1 w w' := by
  have HD := Lib.hid h
  have HF := Lib.hid hf
  have HC := Lib.hid (checkOf_ok hi)
  have hB := h.blk.lt
  have hi1 : (i : Int) < 8 := by omega
  clear h hf
  go_enter Try.func53, Try.ntmps53
  go_wp2_with fail
  refine (check_any B false i _ HD.out.c_off).mono ?_
  rintro e w1 ⟨rfl, rfl⟩
  rw [HC.out]
  have hmf : ∀ (fn : Fn) (first cap : Array Value) (w : World), (Instr.makeFunc fn first cap).run Try.prog w = .ok (.func fn first cap) w := fun _ _ _ _ => rfl
  go_wp2_with fail
  have hk : Kept Kno w (w.alloc (.cells #[.pointer (some ⟨B, 1 + i * 2, none⟩)] 96)) := (Kept.refl _ w).alloc _
  have hF : (w.alloc (.cells #[.pointer (some ⟨B, 1 + i * 2, none⟩)] 96)).cell? ⟨w.heap.size, 0, none⟩ = some (.pointer (some ⟨B, 1 + i * 2, none⟩)) := by go_simp
  generalize (w.alloc (.cells #[.pointer (some ⟨B, 1 + i * 2, none⟩)] 96)) = wg at hk hF ⊢
  refine (gate_dsk base B 77 i _ false room plan fs (f.l, f.l.length) wg (HD.out.kept0 hk) Try.call77 ?_).mono ?_
  · intro w1 off' plan' hk1 hd1
    refine syncK base B w.heap.size i room plan' fs off' f w1 hd1 HF.out (hk1.cell_some hF ?_) (by omega)
    intro e; unfold Kone at e; simp at e; omega
  · rintro e w2 ⟨rfl, ht⟩
    go_wp2
    go_ret
    exact ⟨rfl, ht.before0 hk⟩

set_option maxHeartbeats 800000 in
theorem read_no (base B : Nat) (room plan : Int) (fs : List File) (off : Bool) (i c : Int) (w : World) (h : Dsk w base B room fs off plan) (hc : checkOf off i = c) (hc0 : c ≠ 0) :
    Calls Try.prog 19 #[.pointer (some ⟨B, 0, none⟩), .int .i64 i] w fun e w' => e = .returned (.tuple #[.slice none 0 0, .int .i64 c]) ∧ w = w' := by
  have HD := Lib.hid h
  have HC := Lib.hid hc
  clear h hc
  go_enter Try.func19, Try.ntmps19
  go_wp2_with fail
  refine (check_any B off i _ HD.out.c_off).mono ?_
  rintro e w1 ⟨rfl, rfl⟩
  rw [HC.out]
  go_wp2
  go_ret2
  exact ⟨rfl, rfl⟩

end Go.Proofs.Yteoodgcpkgfomaa
