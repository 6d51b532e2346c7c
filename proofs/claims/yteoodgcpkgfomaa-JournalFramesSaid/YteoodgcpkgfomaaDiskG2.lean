/-
  Disk: Replace.
-/
import Derived.Test.YteoodgcpkgfomaaDiskE
namespace Go.Proofs.Yteoodgcpkgfomaa
open Go.RowKit
set_option linter.unusedVariables false

set_option maxHeartbeats 800000 in
theorem replace_no (base B : Nat) (room plan : Int) (fs : List File) (off : Bool) (i c : Int) (Ab : Option Addr) (n capb : Nat) (w : World) (h : Dsk w base B room fs off plan) (hc : checkOf off i = c) (hc0 : c ≠ 0) :
    Calls Try.prog 34 #[.pointer (some ⟨B, 0, none⟩), .int .i64 i, .slice Ab n capb] w fun e w' => e = .returned (.int .i64 c) ∧ Kept Kno w w' := by
  have HD := Lib.hid h
  have HC := Lib.hid hc
  clear h hc
  go_enter Try.func34, Try.ntmps34
  go_wp2_with fail
  refine (check_any B off i _ ((HD.out.kept0 ((Kept.refl _ w).alloc _)).c_off)).mono ?_
  rintro e w1 ⟨rfl, rfl⟩
  rw [HC.out]
  go_wp2
  go_ret
  exact ⟨rfl, (Kept.refl _ w).alloc _⟩

set_option maxHeartbeats 1600000 in
theorem replace_full (base B i : Nat) (room plan : Int) (fs : List File) (f : File) (Ab : Option Addr) (n capb : Nat) (w : World) (h : Dsk w base B room fs false plan) (hi : i < 8) (hf : fs[i]? = some f) (hn : room - ((used fs : Int) - f.l.length) < n) :
    Calls Try.prog 34 #[.pointer (some ⟨B, 0, none⟩), .int .i64 i, .slice Ab n capb] w fun e w' => e = .returned (.int .i64 221) ∧ Kept Kno w w' := by
  have HD := Lib.hid h
  have HC := Lib.hid (checkOf_ok hi)
  have h0 := h.room0
  have h1 := h.room1
  have h2 := h.fits
  have hB := h.blk.lt
  have c0 := h.c_room
  have hi1 : (i : Int) < 8 := by omega
  obtain ⟨c1, -⟩ := h.c_file hf
  obtain ⟨A, cap, hv⟩ := own_form (h.files f (List.mem_of_getElem? hf)).1
  have hu := used_le (List.mem_of_getElem? hf)
  rw [hv] at c1
  clear h hf hv
  go_enter Try.func34, Try.ntmps34
  go_wp2_with fail
  refine (check_any B false i _ ((HD.out.kept0 ((Kept.refl _ w).alloc _)).c_off)).mono ?_
  rintro e w1 ⟨rfl, rfl⟩
  rw [HC.out]
  go_wp2_with fail
  have s1 : IntKind.i64.wrap ((used fs : Int) - f.l.length) = (used fs : Int) - f.l.length := IntWalk.i64_in _ (by omega)
  have s2 : IntKind.i64.wrap (room - ((used fs : Int) - f.l.length)) = room - ((used fs : Int) - f.l.length) := IntWalk.i64_in _ (by omega)
  go_quiet ((go_at_call 17; exact Calls.quiet_of_same (used_quiet (HD.out.kept0 (((Kept.refl _ w).alloc _).alloc _)) _)))
  clear s1 s2
  go_wp2
  go_ret
  exact ⟨rfl, (((Kept.refl _ w).alloc _).alloc _).drewN _⟩

set_option maxHeartbeats 1600000 in
theorem replace_yes (base B i : Nat) (room plan : Int) (fs : List File) (f : File) (Ab : Option Addr) (lb : List UInt8) (capb : Nat) (w : World) (h : Dsk w base B room fs false plan) (hi : i < 8) (hf : fs[i]? = some f) (hfit : (used fs : Int) + lb.length - f.l.length ≤ room)
    (hbB : ∀ w1, Kept (Kone B) w w1 → Bs w1 (.slice Ab lb.length capb) lb) :
    Calls Try.prog 34 #[.pointer (some ⟨B, 0, none⟩), .int .i64 i, .slice Ab lb.length capb] w fun e w' =>
      e = .returned (.int .i64 (gateOf ⟨room, fs.map File.ab, false, plan⟩ false i (lb, lb.length)).2) ∧ Turn base B fs (gateOf ⟨room, fs.map File.ab, false, plan⟩ false i (lb, lb.length)).1 w w' := by
  have HD := Lib.hid h
  have HB := Lib.hid hbB
  have HF := Lib.hid hf
  have HC := Lib.hid (checkOf_ok hi)
  have h0 := h.room0
  have h1 := h.room1
  have h2 := h.fits
  have hB := h.blk.lt
  have c0 := h.c_room
  have hi1 : (i : Int) < 8 := by omega
  obtain ⟨c1, -⟩ := h.c_file hf
  obtain ⟨A, cap, hv⟩ := own_form (h.files f (List.mem_of_getElem? hf)).1
  have hu := used_le (List.mem_of_getElem? hf)
  rw [hv] at c1
  have hn : ¬ room - ((used fs : Int) - f.l.length) < lb.length := by omega
  clear h hf hv hbB
  go_enter Try.func34, Try.ntmps34
  go_wp2_with fail
  refine (check_any B false i _ ((HD.out.kept0 ((Kept.refl _ w).alloc _)).c_off)).mono ?_
  rintro e w1 ⟨rfl, rfl⟩
  rw [HC.out]
  go_wp2_with fail
  have s1 : IntKind.i64.wrap ((used fs : Int) - f.l.length) = (used fs : Int) - f.l.length := IntWalk.i64_in _ (by omega)
  have s2 : IntKind.i64.wrap (room - ((used fs : Int) - f.l.length)) = room - ((used fs : Int) - f.l.length) := IntWalk.i64_in _ (by omega)
  go_quiet ((go_at_call 17; exact Calls.quiet_of_same (used_quiet (HD.out.kept0 (((Kept.refl _ w).alloc _).alloc _)) _)))
  clear s1 s2
  have hmf : ∀ (fn : Fn) (first cap : Array Value) (w : World), (Instr.makeFunc fn first cap).run Try.prog w = .ok (.func fn first cap) w := fun _ _ _ _ => rfl
  go_wp2_with fail
  have hk : Kept Kno w (((w.alloc (.cells #[.slice Ab lb.length capb] 30)).alloc (.cells #[.pointer (some ⟨B, 1 + i * 2, none⟩)] 96)).drewN nq) := (((Kept.refl _ w).alloc _).alloc _).drewN _
  have hX : (((w.alloc (.cells #[.slice Ab lb.length capb] 30)).alloc (.cells #[.pointer (some ⟨B, 1 + i * 2, none⟩)] 96)).drewN nq).cell? ⟨w.heap.size, 0, none⟩ = some (.slice Ab lb.length capb) := by go_simp
  have hF : (((w.alloc (.cells #[.slice Ab lb.length capb] 30)).alloc (.cells #[.pointer (some ⟨B, 1 + i * 2, none⟩)] 96)).drewN nq).cell? ⟨w.heap.size + 1, 0, none⟩ = some (.pointer (some ⟨B, 1 + i * 2, none⟩)) := by go_simp
  generalize (((w.alloc (.cells #[.slice Ab lb.length capb] 30)).alloc (.cells #[.pointer (some ⟨B, 1 + i * 2, none⟩)] 96)).drewN nq) = wg at hk hX hF ⊢
  refine (gate_dsk base B 70 i _ false room plan fs (lb, lb.length) wg (HD.out.kept0 hk) Try.call70 ?_).mono ?_
  · intro w1 off' plan' hk1 hd1
    have hb1 : Bs w1 (.slice Ab lb.length capb) lb := HB.out w1 ((hk.mono (T := Kone B) (fun _ _ e => e.elim)).trans hk1 (fun _ _ e => e))
    refine replaceK base B (w.heap.size + 1) w.heap.size i room plan' fs off' f _ lb w1 hd1 HF.out (hk1.cell_some hF ?_) (hk1.cell_some hX ?_) hb1 hfit (by omega) (by omega)
    · intro e; unfold Kone at e; simp at e; omega
    · intro e; unfold Kone at e; simp at e; omega
  · rintro e w2 ⟨rfl, ht⟩
    go_wp2
    go_ret
    exact ⟨rfl, ht.before0 hk⟩

end Go.Proofs.Yteoodgcpkgfomaa
