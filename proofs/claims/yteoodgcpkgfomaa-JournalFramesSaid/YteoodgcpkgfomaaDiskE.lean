/-
  Disk: Append.
-/
import Derived.Test.YteoodgcpkgfomaaDiskD
namespace Go.Proofs.Yteoodgcpkgfomaa
open Go.RowKit
set_option linter.unusedVariables false

theorem checkOf_ok {i : Nat} (h : i < 8) : checkOf false (i : Int) = 0 := by simp only [checkOf]; rw [if_neg (by simp), if_neg (by omega)]

set_option maxHeartbeats 800000 in
theorem append_no (base B : Nat) (room plan : Int) (fs : List File) (off : Bool) (i c : Int) (Ab : Option Addr) (n capb : Nat) (w : World) (h : Dsk w base B room fs off plan) (hc : checkOf off i = c) (hc0 : c ≠ 0) :
    Calls Try.prog 33 #[.pointer (some ⟨B, 0, none⟩), .int .i64 i, .slice Ab n capb] w fun e w' => e = .returned (.int .i64 c) ∧ Kept Kno w w' := by
  have HD := Lib.hid h
  have HC := Lib.hid hc
  clear h hc
  go_enter Try.func33, Try.ntmps33
  go_wp2_with fail
  refine (check_any B off i _ ((HD.out.kept0 ((Kept.refl _ w).alloc _)).c_off)).mono ?_
  rintro e w1 ⟨rfl, rfl⟩
  rw [HC.out]
  go_wp2
  go_ret
  exact ⟨rfl, (Kept.refl _ w).alloc _⟩

theorem used_quiet {w : World} {base B : Nat} {room plan : Int} {fs : List File} {off : Bool} (h : Dsk w base B room fs off plan) (n : Nat) :
    Calls Try.prog 17 #[.pointer (some ⟨B, 0, none⟩)] (w.drewN n) fun e w' => e = .returned (.int .i64 (used fs)) ∧ w' = w.drewN n :=
  (used_any base B room plan fs off (w.drewN n) (h.kept0 (Kept.drewN (Kept.refl _ w) n))).mono fun _ _ ⟨a, b⟩ => ⟨a, b.symm⟩

set_option maxHeartbeats 800000 in
theorem append_full (base B i : Nat) (room plan : Int) (fs : List File) (Ab : Option Addr) (n capb : Nat) (w : World) (h : Dsk w base B room fs false plan) (hi : i < 8) (hn : room - (used fs : Int) < n) :
    Calls Try.prog 33 #[.pointer (some ⟨B, 0, none⟩), .int .i64 i, .slice Ab n capb] w fun e w' => e = .returned (.int .i64 221) ∧ Kept Kno w w' := by
  have HD := Lib.hid h
  have HC := Lib.hid (checkOf_ok hi)
  have h0 := h.room0
  have h1 := h.room1
  have h2 := h.fits
  have hB := h.blk.lt
  have c1 := h.c_room
  clear h
  go_enter Try.func33, Try.ntmps33
  go_wp2_with fail
  refine (check_any B false i _ ((HD.out.kept0 ((Kept.refl _ w).alloc _)).c_off)).mono ?_
  rintro e w1 ⟨rfl, rfl⟩
  rw [HC.out]
  go_wp2_with fail
  go_quiet ((go_at_call 17; exact Calls.quiet_of_same (used_quiet (HD.out.kept0 ((Kept.refl _ w).alloc _)) _)))
  go_wp2
  go_ret
  exact ⟨rfl, ((Kept.refl _ w).alloc _).drewN _⟩

set_option maxHeartbeats 800000 in
theorem append_yes (base B i : Nat) (room plan : Int) (fs : List File) (f : File) (Ab : Option Addr) (lb : List UInt8) (capb : Nat) (w : World) (h : Dsk w base B room fs false plan) (hi : i < 8) (hf : fs[i]? = some f) (hfit : (used fs : Int) + lb.length ≤ room)
    (hbB : ∀ w1, Kept (Kone B) w w1 → Bs w1 (.slice Ab lb.length capb) lb) :
    Calls Try.prog 33 #[.pointer (some ⟨B, 0, none⟩), .int .i64 i, .slice Ab lb.length capb] w fun e w' =>
      e = .returned (.int .i64 (gateOf ⟨room, fs.map File.ab, false, plan⟩ true i (f.l ++ lb, f.s)).2) ∧ Turn base B fs (gateOf ⟨room, fs.map File.ab, false, plan⟩ true i (f.l ++ lb, f.s)).1 w w' := by
  have HD := Lib.hid h
  have HB := Lib.hid hbB
  have HF := Lib.hid hf
  have HC := Lib.hid (checkOf_ok hi)
  have h0 := h.room0
  have h1 := h.room1
  have h2 := h.fits
  have hB := h.blk.lt
  have c1 := h.c_room
  have hi1 : (i : Int) < 8 := by omega
  clear h hbB hf
  go_enter Try.func33, Try.ntmps33
  go_wp2_with fail
  refine (check_any B false i _ ((HD.out.kept0 ((Kept.refl _ w).alloc _)).c_off)).mono ?_
  rintro e w1 ⟨rfl, rfl⟩
  rw [HC.out]
  go_wp2_with fail
  go_quiet ((go_at_call 17; exact Calls.quiet_of_same (used_quiet (HD.out.kept0 ((Kept.refl _ w).alloc _)) _)))
  have hmf : ∀ (fn : Fn) (first cap : Array Value) (w : World), (Instr.makeFunc fn first cap).run Try.prog w = .ok (.func fn first cap) w := fun _ _ _ _ => rfl
  go_wp2_with fail
  have hk : Kept Kno w (((w.alloc (.cells #[.slice Ab lb.length capb] 30)).drewN nq).alloc (.cells #[.pointer (some ⟨B, 1 + i * 2, none⟩)] 96)) := (((Kept.refl _ w).alloc _).drewN _).alloc _
  have hX : (((w.alloc (.cells #[.slice Ab lb.length capb] 30)).drewN nq).alloc (.cells #[.pointer (some ⟨B, 1 + i * 2, none⟩)] 96)).cell? ⟨w.heap.size, 0, none⟩ = some (.slice Ab lb.length capb) := by go_simp
  have hF : (((w.alloc (.cells #[.slice Ab lb.length capb] 30)).drewN nq).alloc (.cells #[.pointer (some ⟨B, 1 + i * 2, none⟩)] 96)).cell? ⟨w.heap.size + 1, 0, none⟩ = some (.pointer (some ⟨B, 1 + i * 2, none⟩)) := by go_simp
  have hsz : w.heap.size + 2 ≤ (((w.alloc (.cells #[.slice Ab lb.length capb] 30)).drewN nq).alloc (.cells #[.pointer (some ⟨B, 1 + i * 2, none⟩)] 96)).heap.size := by simp
  generalize (((w.alloc (.cells #[.slice Ab lb.length capb] 30)).drewN nq).alloc (.cells #[.pointer (some ⟨B, 1 + i * 2, none⟩)] 96)) = wg at hk hX hF hsz ⊢
  refine (gate_dsk base B 69 i _ true room plan fs (f.l ++ lb, f.s) wg (HD.out.kept0 hk) Try.call69 ?_).mono ?_
  · intro w1 off' plan' hk1 hd1
    have hb1 : Bs w1 (.slice Ab lb.length capb) lb := HB.out w1 ((hk.mono (T := Kone B) (fun _ _ e => e.elim)).trans hk1 (fun _ _ e => e))
    refine appendK base B (w.heap.size + 1) w.heap.size i room plan' fs off' f _ lb w1 hd1 HF.out (hk1.cell_some hF ?_) (hk1.cell_some hX ?_) hb1 hfit (by omega) (by omega) ?_ (by have := hk1.size; omega)
    · intro e; unfold Kone at e; simp at e; omega
    · intro e; unfold Kone at e; simp at e; omega
    · intro e; have := (own_base (HD.out.files f (List.mem_of_getElem? HF.out)).1 e).2; omega
  · rintro e w2 ⟨rfl, ht⟩
    go_wp2
    go_ret
    exact ⟨rfl, ht.before0 hk⟩

end Go.Proofs.Yteoodgcpkgfomaa
