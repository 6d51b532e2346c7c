/-
  Contracts and plain laws that the claim's theorem rests on, some texts in one file.
-/
import Derived.Test.YteoodgcpkgfomaaM4
import Derived.Deep.WholeRow
/-
  Disk: Read, Size, Fail.
-/
namespace Go.Proofs.Yteoodgcpkgfomaa
open Go.RowKit
set_option linter.unusedVariables false

/-- Bytes in new memory, and OK. -/
def RetRead (l : List UInt8) (c : Int) (w : World) (e : Ending) (w' : World) : Prop :=
  ∃ A cap, e = .returned (.tuple #[.slice A l.length cap, .int .i64 c]) ∧ OwnB w' w.heap.size 5 (.slice A l.length cap) l ∧ Kept Kno w w'

set_option maxHeartbeats 800000 in
theorem read_yes (base B i : Nat) (room plan : Int) (fs : List File) (f : File) (w : World) (h : Dsk w base B room fs false plan) (hi : i < 8) (hf : fs[i]? = some f) :
    Calls Try.prog 19 #[.pointer (some ⟨B, 0, none⟩), .int .i64 i] w (RetRead f.l 0 w) := by
  have HD := Lib.hid h
  have HF := Lib.hid hf
  have HC := Lib.hid (checkOf_ok hi)
  have hi1 : (i : Int) < 8 := by omega
  obtain ⟨c1, -⟩ := h.c_file hf
  have hown := (h.files f (List.mem_of_getElem? hf)).1
  have hu := used_le (List.mem_of_getElem? hf)
  have hr := h.room1
  have hfi := h.fits
  obtain ⟨A, cap, hv⟩ := own_form hown
  have HB : Hid (Bs w (.slice A f.l.length cap) f.l) := Lib.hid (by have := OwnB.bs hown; rwa [hv] at this)
  rw [hv] at c1
  have hl : f.l.length ≤ 140737488355328 := by omega
  clear h hf hown hv
  go_enter Try.func19, Try.ntmps19
  go_wp2_with fail
  refine (check_any B false i _ HD.out.c_off).mono ?_
  rintro e w1 ⟨rfl, rfl⟩
  rw [HC.out]
  go_wp2_with fail
  refine (sclone_any _ f.l _ HB.out hl).mono ?_
  rintro e w1 ⟨A1, cap1, rfl, hown1, hk1⟩
  go_wp2
  go_ret2
  exact ⟨A1, cap1, rfl, hown1, hk1⟩

set_option maxHeartbeats 800000 in
theorem size_no (base B : Nat) (room plan : Int) (fs : List File) (off : Bool) (i c : Int) (w : World) (h : Dsk w base B room fs off plan) (hc : checkOf off i = c) (hc0 : c ≠ 0) :
    Calls Try.prog 21 #[.pointer (some ⟨B, 0, none⟩), .int .i64 i] w fun e w' => e = .returned (.tuple #[.int .i64 0, .int .i64 c]) ∧ w = w' := by
  have HD := Lib.hid h
  have HC := Lib.hid hc
  clear h hc
  go_enter Try.func21, Try.ntmps21
  go_wp2_with fail
  refine (check_any B off i _ HD.out.c_off).mono ?_
  rintro e w1 ⟨rfl, rfl⟩
  rw [HC.out]
  go_wp2
  go_ret2
  exact ⟨rfl, rfl⟩

set_option maxHeartbeats 800000 in
theorem size_yes (base B i : Nat) (room plan : Int) (fs : List File) (f : File) (w : World) (h : Dsk w base B room fs false plan) (hi : i < 8) (hf : fs[i]? = some f) :
    Calls Try.prog 21 #[.pointer (some ⟨B, 0, none⟩), .int .i64 i] w fun e w' => e = .returned (.tuple #[.int .i64 f.l.length, .int .i64 0]) ∧ w = w' := by
  have HD := Lib.hid h
  have HC := Lib.hid (checkOf_ok hi)
  have hi1 : (i : Int) < 8 := by omega
  obtain ⟨c1, -⟩ := h.c_file hf
  obtain ⟨A, cap, hv⟩ := own_form (h.files f (List.mem_of_getElem? hf)).1
  rw [hv] at c1
  clear h hf hv
  go_enter Try.func21, Try.ntmps21
  go_wp2_with fail
  refine (check_any B false i _ HD.out.c_off).mono ?_
  rintro e w1 ⟨rfl, rfl⟩
  rw [HC.out]
  go_wp2
  go_ret2
  exact ⟨rfl, rfl⟩

set_option maxHeartbeats 800000 in
theorem fail_off (B : Nat) (n : Int) (w : World) (h : w.cell? ⟨B, 17, none⟩ = some (.bool true)) :
    Calls Try.prog 36 #[.pointer (some ⟨B, 0, none⟩), .int .i64 n] w fun e w' => e = .returned (.tuple #[]) ∧ w = w' := by
  go_enter Try.func36, Try.ntmps36
  go_wp2
  go_end0
  exact ⟨rfl, rfl⟩

set_option maxHeartbeats 800000 in
theorem fail_on (B : Nat) (n p : Int) (w : World) (h : w.cell? ⟨B, 17, none⟩ = some (.bool false)) (h2 : w.cell? ⟨B, 18, none⟩ = some (.int .i64 p)) (hf : w.frozen? ⟨B, 18, none⟩ = false) :
    Calls Try.prog 36 #[.pointer (some ⟨B, 0, none⟩), .int .i64 n] w fun e w' => e = .returned (.tuple #[]) ∧ w' = w.setCell ⟨B, 18, none⟩ (.int .i64 (if 0 < n then n else 0)) := by
  by_cases hn : 0 < n
  · rw [if_pos hn]
    go_enter Try.func36, Try.ntmps36
    go_wp2
    go_end0
    exact ⟨rfl, rfl⟩
  · rw [if_neg hn]
    go_enter Try.func36, Try.ntmps36
    go_wp2
    all_goals
      go_end0
      first | exact ⟨rfl, rfl⟩ | (obtain rfl : n = 0 := by omega
                                  exact ⟨rfl, rfl⟩)

end Go.Proofs.Yteoodgcpkgfomaa
/-
  Disk: Truncate.
-/
namespace Go.Proofs.Yteoodgcpkgfomaa
open Go.RowKit
set_option linter.unusedVariables false

set_option maxHeartbeats 800000 in
theorem trunc_no (base B : Nat) (room plan : Int) (fs : List File) (off : Bool) (i c n : Int) (w : World) (h : Dsk w base B room fs off plan) (hc : checkOf off i = c) (hc0 : c ≠ 0) :
    Calls Try.prog 52 #[.pointer (some ⟨B, 0, none⟩), .int .i64 i, .int .i64 n] w fun e w' => e = .returned (.int .i64 c) ∧ Kept Kno w w' := by
  have HD := Lib.hid h
  have HC := Lib.hid hc
  clear h hc
  go_enter Try.func52, Try.ntmps52
  go_wp2_with fail
  refine (check_any B off i _ ((HD.out.kept0 ((Kept.refl _ w).alloc _)).c_off)).mono ?_
  rintro e w1 ⟨rfl, rfl⟩
  rw [HC.out]
  go_wp2
  go_ret
  exact ⟨rfl, (Kept.refl _ w).alloc _⟩

set_option maxHeartbeats 1600000 in
theorem trunc_bad (base B i : Nat) (room plan : Int) (fs : List File) (f : File) (n : Int) (w : World) (h : Dsk w base B room fs false plan) (hi : i < 8) (hf : fs[i]? = some f) (hn : n < 0 ∨ (f.l.length : Int) < n) :
    Calls Try.prog 52 #[.pointer (some ⟨B, 0, none⟩), .int .i64 i, .int .i64 n] w fun e w' => e = .returned (.int .i64 1) ∧ Kept Kno w w' := by
  have HD := Lib.hid h
  have HC := Lib.hid (checkOf_ok hi)
  have hB := h.blk.lt
  have hi1 : (i : Int) < 8 := by omega
  obtain ⟨c1, -⟩ := h.c_file hf
  obtain ⟨A, cap, hv⟩ := own_form (h.files f (List.mem_of_getElem? hf)).1
  rw [hv] at c1
  clear h hf hv
  by_cases hn0 : n < 0
  · clear hn
    go_enter Try.func52, Try.ntmps52
    go_wp2_with fail
    refine (check_any B false i _ ((HD.out.kept0 ((Kept.refl _ w).alloc _)).c_off)).mono ?_
    rintro e w1 ⟨rfl, rfl⟩
    rw [HC.out]
    go_wp2_with fail
    go_quiet (fail)
    go_wp2
    go_ret
    exact ⟨rfl, (((Kept.refl _ w).alloc _).alloc _).drewN _⟩
  · have hn1 : (f.l.length : Int) < n := by omega
    have hn2 : ¬ (n : Int) ≤ (f.l.length : Int) := by omega
    clear hn
    go_enter Try.func52, Try.ntmps52
    go_wp2_with fail
    refine (check_any B false i _ ((HD.out.kept0 ((Kept.refl _ w).alloc _)).c_off)).mono ?_
    rintro e w1 ⟨rfl, rfl⟩
    rw [HC.out]
    go_wp2_with fail
    go_quiet (fail)
    go_wp2
    go_ret
    exact ⟨rfl, (((Kept.refl _ w).alloc _).alloc _).drewN _⟩

set_option maxHeartbeats 1600000 in
theorem trunc_yes (base B i n : Nat) (room plan : Int) (fs : List File) (f : File) (w : World) (h : Dsk w base B room fs false plan) (hi : i < 8) (hf : fs[i]? = some f) (hn : n ≤ f.l.length) :
    Calls Try.prog 52 #[.pointer (some ⟨B, 0, none⟩), .int .i64 i, .int .i64 n] w fun e w' =>
      e = .returned (.int .i64 (gateOf ⟨room, fs.map File.ab, false, plan⟩ false i (f.l.take n, n)).2) ∧ Turn base B fs (gateOf ⟨room, fs.map File.ab, false, plan⟩ false i (f.l.take n, n)).1 w w' := by
  have HD := Lib.hid h
  have HF := Lib.hid hf
  have HC := Lib.hid (checkOf_ok hi)
  have hB := h.blk.lt
  have hi1 : (i : Int) < 8 := by omega
  obtain ⟨c1, -⟩ := h.c_file hf
  obtain ⟨A, cap, hv⟩ := own_form (h.files f (List.mem_of_getElem? hf)).1
  rw [hv] at c1
  have hn1 : ¬ (f.l.length : Int) < (n : Int) := by omega
  have hn0 : ¬ (n : Int) < 0 := by omega
  clear h hf hv
  go_enter Try.func52, Try.ntmps52
  go_wp2_with fail
  refine (check_any B false i _ ((HD.out.kept0 ((Kept.refl _ w).alloc _)).c_off)).mono ?_
  rintro e w1 ⟨rfl, rfl⟩
  rw [HC.out]
  go_wp2_with fail
  go_quiet (fail)
  have hmf : ∀ (fn : Fn) (first cap : Array Value) (w : World), (Instr.makeFunc fn first cap).run Try.prog w = .ok (.func fn first cap) w := fun _ _ _ _ => rfl
  go_wp2_with fail
  have hk : Kept Kno w (((w.alloc (.cells #[.int .i64 n] 3)).alloc (.cells #[.pointer (some ⟨B, 1 + i * 2, none⟩)] 96)).drewN nq) := (((Kept.refl _ w).alloc _).alloc _).drewN _
  have hX : (((w.alloc (.cells #[.int .i64 n] 3)).alloc (.cells #[.pointer (some ⟨B, 1 + i * 2, none⟩)] 96)).drewN nq).cell? ⟨w.heap.size, 0, none⟩ = some (.int .i64 n) := by go_simp
  have hF : (((w.alloc (.cells #[.int .i64 n] 3)).alloc (.cells #[.pointer (some ⟨B, 1 + i * 2, none⟩)] 96)).drewN nq).cell? ⟨w.heap.size + 1, 0, none⟩ = some (.pointer (some ⟨B, 1 + i * 2, none⟩)) := by go_simp
  generalize (((w.alloc (.cells #[.int .i64 n] 3)).alloc (.cells #[.pointer (some ⟨B, 1 + i * 2, none⟩)] 96)).drewN nq) = wg at hk hX hF ⊢
  refine (gate_dsk base B 76 i _ false room plan fs (f.l.take n, n) wg (HD.out.kept0 hk) Try.call76 ?_).mono ?_
  · intro w1 off' plan' hk1 hd1
    refine truncK base B (w.heap.size + 1) w.heap.size i n room plan' fs off' f w1 hd1 HF.out hn (hk1.cell_some hF ?_) (hk1.cell_some hX ?_) (by omega) (by omega)
    · intro e; unfold Kone at e; simp at e; omega
    · intro e; unfold Kone at e; simp at e; omega
  · rintro e w2 ⟨rfl, ht⟩
    go_wp2
    go_ret
    exact ⟨rfl, ht.before0 hk⟩

end Go.Proofs.Yteoodgcpkgfomaa
/-
  Disk: Replace.
-/
namespace Go.Proofs.Yteoodgcpkgfomaa
open Go.RowKit
set_option linter.unusedVariables false

set_option maxHeartbeats 800000 in
theorem replace_no (base B : Nat) (room plan : Int) (fs : List File) (off : Bool) (i c : Int) (Ab : Option Addr) (n capb : Nat) (w : World) (h : Dsk w base B room fs off plan) (hc : checkOf off i = c) (hc0 : c ≠ 0) :
    Calls Try.prog 34 #[.pointer (some ⟨B, 0, none⟩), .int .i64 i, .slice Ab n capb] w fun e w' => e = .returned (.int .i64 c) ∧ Kept Kno w w' := by
  have HD := Lib.hid h
  have HC := Lib.hid hc
  clear h hc
  go_enter Try.func34, Try.ntmps34
  go_wp2_with fail
  refine (check_any B off i _ ((HD.out.kept0 ((Kept.refl _ w).alloc _)).c_off)).mono ?_
  rintro e w1 ⟨rfl, rfl⟩
  rw [HC.out]
  go_wp2
  go_ret
  exact ⟨rfl, (Kept.refl _ w).alloc _⟩

set_option maxHeartbeats 1600000 in
theorem replace_full (base B i : Nat) (room plan : Int) (fs : List File) (f : File) (Ab : Option Addr) (n capb : Nat) (w : World) (h : Dsk w base B room fs false plan) (hi : i < 8) (hf : fs[i]? = some f) (hn : room - ((used fs : Int) - f.l.length) < n) :
    Calls Try.prog 34 #[.pointer (some ⟨B, 0, none⟩), .int .i64 i, .slice Ab n capb] w fun e w' => e = .returned (.int .i64 221) ∧ Kept Kno w w' := by
  have HD := Lib.hid h
  have HC := Lib.hid (checkOf_ok hi)
  have h0 := h.room0
  have h1 := h.room1
  have h2 := h.fits
  have hB := h.blk.lt
  have c0 := h.c_room
  have hi1 : (i : Int) < 8 := by omega
  obtain ⟨c1, -⟩ := h.c_file hf
  obtain ⟨A, cap, hv⟩ := own_form (h.files f (List.mem_of_getElem? hf)).1
  have hu := used_le (List.mem_of_getElem? hf)
  rw [hv] at c1
  clear h hf hv
  go_enter Try.func34, Try.ntmps34
  go_wp2_with fail
  refine (check_any B false i _ ((HD.out.kept0 ((Kept.refl _ w).alloc _)).c_off)).mono ?_
  rintro e w1 ⟨rfl, rfl⟩
  rw [HC.out]
  go_wp2_with fail
  have s1 : IntKind.i64.wrap ((used fs : Int) - f.l.length) = (used fs : Int) - f.l.length := IntWalk.i64_in _ (by omega)
  have s2 : IntKind.i64.wrap (room - ((used fs : Int) - f.l.length)) = room - ((used fs : Int) - f.l.length) := IntWalk.i64_in _ (by omega)
  go_quiet ((go_at_call 17; exact Calls.quiet_of_same (used_quiet (HD.out.kept0 (((Kept.refl _ w).alloc _).alloc _)) _)))
  clear s1 s2
  go_wp2
  go_ret
  exact ⟨rfl, (((Kept.refl _ w).alloc _).alloc _).drewN _⟩

set_option maxHeartbeats 1600000 in
theorem replace_yes (base B i : Nat) (room plan : Int) (fs : List File) (f : File) (Ab : Option Addr) (lb : List UInt8) (capb : Nat) (w : World) (h : Dsk w base B room fs false plan) (hi : i < 8) (hf : fs[i]? = some f) (hfit : (used fs : Int) + lb.length - f.l.length ≤ room)
    (hbB : ∀ w1, Kept (Kone B) w w1 → Bs w1 (.slice Ab lb.length capb) lb) :
    Calls Try.prog 34 #[.pointer (some ⟨B, 0, none⟩), .int .i64 i, .slice Ab lb.length capb] w fun e w' =>
      e = .returned (.int .i64 (gateOf ⟨room, fs.map File.ab, false, plan⟩ false i (lb, lb.length)).2) ∧ Turn base B fs (gateOf ⟨room, fs.map File.ab, false, plan⟩ false i (lb, lb.length)).1 w w' := by
  have HD := Lib.hid h
  have HB := Lib.hid hbB
  have HF := Lib.hid hf
  have HC := Lib.hid (checkOf_ok hi)
  have h0 := h.room0
  have h1 := h.room1
  have h2 := h.fits
  have hB := h.blk.lt
  have c0 := h.c_room
  have hi1 : (i : Int) < 8 := by omega
  obtain ⟨c1, -⟩ := h.c_file hf
  obtain ⟨A, cap, hv⟩ := own_form (h.files f (List.mem_of_getElem? hf)).1
  have hu := used_le (List.mem_of_getElem? hf)
  rw [hv] at c1
  have hn : ¬ room - ((used fs : Int) - f.l.length) < lb.length := by omega
  clear h hf hv hbB
  go_enter Try.func34, Try.ntmps34
  go_wp2_with fail
  refine (check_any B false i _ ((HD.out.kept0 ((Kept.refl _ w).alloc _)).c_off)).mono ?_
  rintro e w1 ⟨rfl, rfl⟩
  rw [HC.out]
  go_wp2_with fail
  have s1 : IntKind.i64.wrap ((used fs : Int) - f.l.length) = (used fs : Int) - f.l.length := IntWalk.i64_in _ (by omega)
  have s2 : IntKind.i64.wrap (room - ((used fs : Int) - f.l.length)) = room - ((used fs : Int) - f.l.length) := IntWalk.i64_in _ (by omega)
  go_quiet ((go_at_call 17; exact Calls.quiet_of_same (used_quiet (HD.out.kept0 (((Kept.refl _ w).alloc _).alloc _)) _)))
  clear s1 s2
  have hmf : ∀ (fn : Fn) (first cap : Array Value) (w : World), (Instr.makeFunc fn first cap).run Try.prog w = .ok (.func fn first cap) w := fun _ _ _ _ => rfl
  go_wp2_with fail
  have hk : Kept Kno w (((w.alloc (.cells #[.slice Ab lb.length capb] 30)).alloc (.cells #[.pointer (some ⟨B, 1 + i * 2, none⟩)] 96)).drewN nq) := (((Kept.refl _ w).alloc _).alloc _).drewN _
  have hX : (((w.alloc (.cells #[.slice Ab lb.length capb] 30)).alloc (.cells #[.pointer (some ⟨B, 1 + i * 2, none⟩)] 96)).drewN nq).cell? ⟨w.heap.size, 0, none⟩ = some (.slice Ab lb.length capb) := by go_simp
  have hF : (((w.alloc (.cells #[.slice Ab lb.length capb] 30)).alloc (.cells #[.pointer (some ⟨B, 1 + i * 2, none⟩)] 96)).drewN nq).cell? ⟨w.heap.size + 1, 0, none⟩ = some (.pointer (some ⟨B, 1 + i * 2, none⟩)) := by go_simp
  generalize (((w.alloc (.cells #[.slice Ab lb.length capb] 30)).alloc (.cells #[.pointer (some ⟨B, 1 + i * 2, none⟩)] 96)).drewN nq) = wg at hk hX hF ⊢
  refine (gate_dsk base B 70 i _ false room plan fs (lb, lb.length) wg (HD.out.kept0 hk) Try.call70 ?_).mono ?_
  · intro w1 off' plan' hk1 hd1
    have hb1 : Bs w1 (.slice Ab lb.length capb) lb := HB.out w1 ((hk.mono (T := Kone B) (fun _ _ e => e.elim)).trans hk1 (fun _ _ e => e))
    refine replaceK base B (w.heap.size + 1) w.heap.size i room plan' fs off' f _ lb w1 hd1 HF.out (hk1.cell_some hF ?_) (hk1.cell_some hX ?_) hb1 hfit (by omega) (by omega)
    · intro e; unfold Kone at e; simp at e; omega
    · intro e; unfold Kone at e; simp at e; omega
  · rintro e w2 ⟨rfl, ht⟩
    go_wp2
    go_ret
    exact ⟨rfl, ht.before0 hk⟩

end Go.Proofs.Yteoodgcpkgfomaa
/-
  Disk: Crash.
-/
namespace Go.Proofs.Yteoodgcpkgfomaa
open Go.RowKit
set_option linter.unusedVariables false

/-- The slice value v reads as the numbers ks. -/
def KeepIn (w : World) (v : Value) (ks : List Int) : Prop :=
  ∃ A cap, v = .slice A ks.length cap ∧ ks.length ≤ cap ∧ cap ≤ maxLen ∧ (0 < ks.length → ∃ g o, A = some ⟨g, o, none⟩ ∧ ∀ i x, ks[i]? = some x → w.cell? ⟨g, o + i, none⟩ = some (.int .i64 x))

theorem KeepIn.kept0 {w w' : World} {v : Value} {ks : List Int} (h : KeepIn w v ks) (hk : Kept Kno w w') : KeepIn w' v ks := by
  obtain ⟨A, cap, h1, h2, h3, h4⟩ := h
  refine ⟨A, cap, h1, h2, h3, fun h0 => ?_⟩
  obtain ⟨g, o, hA, hc⟩ := h4 h0
  exact ⟨g, o, hA, fun i x hx => hk.cell_some (hc i x hx) (fun h => h)⟩
theorem KeepIn.kept {w w' : World} {v : Value} {ks : List Int} {S : Nat → Prop} (h : KeepIn w v ks) (hk : Kept S w w') (hS : ∀ k, v.ownBlock = some k → k < w.heap.size → ¬ S k) : KeepIn w' v ks := by
  obtain ⟨A, cap, rfl, h2, h3, h4⟩ := h
  refine ⟨A, cap, rfl, h2, h3, fun h0 => ?_⟩
  obtain ⟨g, o, rfl, hc⟩ := h4 h0
  exact ⟨g, o, rfl, fun i x hx => hk.cell_some (hc i x hx) (hS g rfl (World.block_lt_of_cell? w ⟨g, o + i, none⟩ (hc i x hx)))⟩

def crashN (f : List UInt8 × Nat) (k : Option Int) : Nat :=
  match k with
  | none => f.2
  | some x => f.2 + min x.toNat (f.1.length - f.2)
def crashF (f : List UInt8 × Nat) (k : Option Int) : List UInt8 × Nat := (f.1.take (crashN f k), crashN f k)
def crashTo (m : Nat) (fs : List (List UInt8 × Nat)) (ks : List Int) : List (List UInt8 × Nat) := fs.mapIdx fun i f => if i < m then crashF f ks[i]? else f

theorem crashTo_zero (fs : List (List UInt8 × Nat)) (ks : List Int) : crashTo 0 fs ks = fs := by
  apply List.ext_getElem?
  intro i
  simp only [crashTo, List.getElem?_mapIdx, Nat.not_lt_zero, if_false]
  cases fs[i]? <;> rfl
theorem crashTo_length (m : Nat) (fs : List (List UInt8 × Nat)) (ks : List Int) : (crashTo m fs ks).length = fs.length := by simp [crashTo]
theorem crashTo_at (m : Nat) (fs : List (List UInt8 × Nat)) (ks : List Int) (i : Nat) : (crashTo m fs ks)[i]? = fs[i]?.map fun f => if i < m then crashF f ks[i]? else f := by
  simp only [crashTo, List.getElem?_mapIdx]
theorem crashTo_succ (m : Nat) (fs : List (List UInt8 × Nat)) (ks : List Int) (f : List UInt8 × Nat) (h : fs[m]? = some f) : (crashTo m fs ks).set m (crashF f ks[m]?) = crashTo (m + 1) fs ks := by
  apply List.ext_getElem?
  intro i
  rw [List.getElem?_set, crashTo_at, crashTo_at, crashTo_length]
  by_cases hi : m = i
  · subst hi
    have : m < fs.length := (List.getElem?_eq_some_iff.1 h).1
    rw [if_pos rfl, if_pos this, h]
    simp
  · simp only [if_neg hi]
    congr 1
    funext g
    by_cases h1 : i < m
    · rw [if_pos h1, if_pos (by omega)]
    · rw [if_neg h1, if_neg (by omega)]

theorem Turn.comp {base B : Nat} {fs fs1 : List File} {ab : Ab} {w w1 w2 : World} (hk : Kept (DK B fs) w w1) (hd : ∀ k, DK B fs1 k → DK B fs k ∨ w.heap.size ≤ k) (h : Turn base B fs1 ab w1 w2) : Turn base B fs ab w w2 := by
  obtain ⟨fs', h1, h2, h3, h4⟩ := h
  refine ⟨fs', h1, h2, hk.trans h3 (fun i hi hS => ?_), fun k hk' => ?_⟩
  · rcases hd i hS with h | h
    · exact h
    · omega
  · rcases h4 k hk' with h | h
    · exact hd k h
    · exact .inr (Nat.le_trans hk.size h)

theorem Turn.then0 {base B : Nat} {fs : List File} {ab : Ab} {w w1 w2 : World} (h : Turn base B fs ab w w1) (hk : Kept Kno w1 w2) : Turn base B fs ab w w2 := by
  obtain ⟨fs', h1, h2, h3, h4⟩ := h
  exact ⟨fs', h1.kept0 hk, h2, h3.then0 hk, h4⟩
theorem Turn.drew {base B : Nat} {fs : List File} {ab : Ab} {w w1 : World} (h : Turn base B fs ab w w1) : Turn base B fs ab w w1.drew := h.then0 (Kept.drew (Kept.refl _ _))

def CrashRel (base B : Nat) (room plan : Int) (fs : List File) (off : Bool) (ks : List Int) (w : World) (i : Value) (wr : World) : Prop :=
  ∃ k : Nat, k ≤ 8 ∧ i = .int .i64 k ∧ Kept (Kone B) w wr ∧ Turn base B fs ⟨room, crashTo k (fs.map File.ab) ks, off, plan⟩ w wr

theorem close_crash {base B i n : Nat} {room plan : Int} {fs fs1 : List File} {off : Bool} {f : File} {w wr : World} {A : Option Addr} {cap : Nat} {ks : List Int}
    (hd : Dsk wr base B room fs1 off plan) (habs : fs1.map File.ab = crashTo i (fs.map File.ab) ks) (hk : Kept (DK B fs) w wr) (hdk : ∀ k, DK B fs1 k → DK B fs k ∨ w.heap.size ≤ k) (hf : fs1[i]? = some f) (hv : f.v = .slice A f.l.length cap)
    (hn : n = crashN f.ab ks[i]?) (hle : n ≤ f.l.length) :
    Turn base B fs ⟨room, crashTo (i + 1) (fs.map File.ab) ks, off, plan⟩ w ((wr.setCell ⟨B, 1 + i * 2, none⟩ (.slice A n cap)).setCell ⟨B, 1 + i * 2 + 1, none⟩ (.int .i64 n)) := by
  have hm := List.mem_of_getElem? hf
  have hown := (hd.files f hm).1
  have hfit := hd.fits
  have h1 : (crashTo i (fs.map File.ab) ks)[i]? = some f.ab := by rw [← habs, List.getElem?_map, hf]; rfl
  have h2 : (fs.map File.ab)[i]? = some f.ab := by
    rw [crashTo_at] at h1
    simp only [Nat.lt_irrefl, if_false, Option.map_id'] at h1
    exact h1
  have e : crashTo (i + 1) (fs.map File.ab) ks = (fs1.map File.ab).set i (f.l.take n, n) := by
    rw [habs, ← crashTo_succ i _ ks f.ab h2, hn]
    rfl
  rw [e]
  refine Turn.comp hk hdk (close_vs hd hf (by rw [List.length_take]; omega) (Kept.refl _ wr) (own_cut (by have h9 : OwnB wr base 5 f.v f.l := hown; rw [hv] at h9; exact h9) hle) (fun k he => .inl (by rw [hv]; cases A <;> exact he)) (by rw [List.length_take]; omega))

set_option maxHeartbeats 4000000 in
theorem crash_loop (base B : Nat) (room plan : Int) (fs : List File) (off : Bool) (keep : Value) (ks : List Int) (w : World) (h : Dsk w base B room fs off plan) (hks : ∀ w1, Kept (Kone B) w w1 → KeepIn w1 keep ks) :
    Calls Try.prog 48 #[.pointer (some ⟨B, 0, none⟩), keep] w fun e w' => e = .returned (.tuple #[]) ∧ Turn base B fs ⟨room, crashTo 8 (fs.map File.ab) ks, false, 0⟩ w w' := by
  have HD := Lib.hid h
  have HK := Lib.hid hks
  obtain ⟨Ak, capk, rfl, hk1, hk2, -⟩ := hks w (Kept.refl _ _)
  have hm4 : ks.length ≤ 9223372036854775807 := by simp only [maxLen] at hk2; omega
  have hm5 : capk ≤ 9223372036854775807 := by simp only [maxLen] at hk2; omega
  clear h hks hk2
  go_enter Try.func48, Try.ntmps48
  go_wp2_with fail
  go_loopw [7] (fun i wr => CrashRel base B room plan fs off ks w i wr) (fun i _ => 8 - (intOf i).toNat)
  case atStart => exact ⟨0, by omega, rfl, Kept.refl _ _, by rw [crashTo_zero]; exact HD.out.turn0 (Kept.refl _ _)⟩
  case round =>
    obtain ⟨k, hk, rfl, hkk, fs1, hd1, habs, hkd, hdk⟩ := hrel
    have HD1 := Lib.hid hd1
    have HA := Lib.hid habs
    have HKK := Lib.hid hkk
    have HKD := Lib.hid hkd
    have HDK := Lib.hid hdk
    clear hd1 habs hkk hkd hdk
    by_cases hlt : k < 8
    · obtain ⟨f, hf⟩ : ∃ f, fs1[k]? = some f := ⟨fs1[k]'(by rw [HD1.out.len]; exact hlt), List.getElem?_eq_getElem (by rw [HD1.out.len]; exact hlt)⟩
      obtain ⟨c1, c2⟩ := HD1.out.c_file hf
      have f1 := HD1.out.blk.frozen (1 + k * 2)
      have f2 := HD1.out.blk.frozen (1 + k * 2 + 1)
      obtain ⟨hown, hsl⟩ := HD1.out.files f (List.mem_of_getElem? hf)
      obtain ⟨A, cap, hv⟩ := own_form hown
      have hcap := own_cap hown hv
      have HV := Lib.hid hv
      have HF := Lib.hid hf
      rw [hv] at c1
      have hu := used_le (List.mem_of_getElem? hf)
      have hr := HD1.out.room1
      have hfi := HD1.out.fits
      have hk0 : (0 : Int) ≤ (k : Int) := by omega
      have hk8 : (k : Int) < 8 := by omega
      have hcl : cap ≤ 9223372036854775807 := by have := hcap.2; simp only [maxLen] at this; omega
      have hcl2 := hcap.1
      clear hf hv hown hcap
      by_cases hkl : k < ks.length
      · obtain ⟨x, hx⟩ : ∃ x, ks[k]? = some x := ⟨ks[k], List.getElem?_eq_getElem hkl⟩
        obtain ⟨Ak', capk', hkv, -, -, hkc⟩ := HK.out wr HKK.out
        injection hkv with e1 e2 e3
        subst e1 e3
        obtain ⟨g, o, rfl, hcell⟩ := hkc (by omega)
        have c3 := hcell k x hx
        have HX := Lib.hid hx
        have hkl2 : (k : Int) < (ks.length : Int) := by omega
        clear hkc hcell hx e2
        have hn0 : (f.s : Int) ≤ f.l.length := by omega
        have hn1 : (f.s : Int) ≤ cap := by omega
        have hn2 : f.s ≤ cap := by omega
        have hd1 : IntKind.i64.wrap ((f.l.length : Int) - f.s) = (f.l.length : Int) - f.s := IntWalk.i64_in _ (by omega)
        have hd0 : ¬ ((f.l.length : Int) - f.s < 0) := by omega
        by_cases hx0 : x < 0
        · have hcn : f.s = crashN f.ab (some x) := by
            have : x.toNat = 0 := by omega
            simp [crashN, this, File.ab]
          have HC := Lib.hid (close_crash HD1.out HA.out HKD.out HDK.out HF.out HV.out (n := f.s) (by rw [HX.out]; exact hcn) hsl)
          clear hcn
          go_wp2_with fail
          go_quiet (fail)
          clear hd1
          go_wp2_with fail
          go_region
          all_goals
            go_wp2
            refine ⟨⟨k + 1, by omega, by go_num, ?_, HC.out.then0 ((Kept.refl _ _).drewN (nq + 1))⟩, by simp [intOf]; omega⟩
            exact (((HKK.out.drewN _).setIn (p := ⟨B, 1 + k * 2, none⟩) (Eq.refl B) _).setIn (p := ⟨B, 1 + k * 2 + 1, none⟩) (Eq.refl B) _)
        · obtain ⟨y, rfl⟩ : ∃ y : Nat, x = (y : Int) := ⟨x.toNat, by omega⟩
          obtain ⟨d, hd⟩ : ∃ d : Nat, f.l.length = f.s + d := ⟨f.l.length - f.s, by omega⟩
          have hcn : f.s + min y d = crashN f.ab (some (y : Int)) := by
            have : f.l.length - f.s = d := by omega
            simp [crashN, File.ab, this]
          have HC := Lib.hid (close_crash HD1.out HA.out HKD.out HDK.out HF.out HV.out (n := f.s + min y d) (by rw [HX.out]; exact hcn) (by omega))
          clear hcn
          have hsub : (f.l.length : Int) - f.s = (d : Int) := by omega
          rw [hsub] at hd1 hd0
          by_cases hyd : y ≤ d
          · rw [Nat.min_eq_left hyd] at HC
            have hy1 : ¬ (d : Int) < (y : Int) := by omega
            have hy2 : (y : Int) ≤ (d : Int) := by omega
            obtain ⟨t, ht⟩ : ∃ t : Nat, t = f.s + y := ⟨_, rfl⟩
            rw [← ht] at HC
            have hn3 : (t : Int) ≤ f.l.length := by omega
            have hn4 : (t : Int) ≤ cap := by omega
            have hn5 : t ≤ cap := by omega
            have hs1 : IntKind.i64.wrap ((f.s : Int) + y) = (t : Int) := by rw [IntWalk.i64_in _ (by omega)]; omega
            clear hd ht
            go_wp2_with fail
            go_quiet (fail)
            clear hd1
            go_wp2_with fail
            go_region
            clear hs1
            all_goals
              go_wp2
              refine ⟨⟨k + 1, by omega, by go_num, ?_, HC.out.then0 ((Kept.refl _ _).drewN (nq + 1))⟩, by simp [intOf]; omega⟩
              exact (((HKK.out.drewN _).setIn (p := ⟨B, 1 + k * 2, none⟩) (Eq.refl B) _).setIn (p := ⟨B, 1 + k * 2 + 1, none⟩) (Eq.refl B) _)
          · rw [Nat.min_eq_right (by omega)] at HC
            have hy1 : (d : Int) < (y : Int) := by omega
            have hy2 : ¬ (y : Int) ≤ (d : Int) := by omega
            obtain ⟨t, ht⟩ : ∃ t : Nat, t = f.s + d := ⟨_, rfl⟩
            rw [← ht] at HC
            have hn3 : (t : Int) ≤ f.l.length := by omega
            have hn4 : (t : Int) ≤ cap := by omega
            have hn5 : t ≤ cap := by omega
            have hs1 : IntKind.i64.wrap ((f.s : Int) + d) = (t : Int) := by rw [IntWalk.i64_in _ (by omega)]; omega
            clear hd ht
            go_wp2_with fail
            go_quiet (fail)
            clear hd1
            go_wp2_with fail
            go_region
            clear hs1
            all_goals
              go_wp2
              refine ⟨⟨k + 1, by omega, by go_num, ?_, HC.out.then0 ((Kept.refl _ _).drewN (nq + 1))⟩, by simp [intOf]; omega⟩
              exact (((HKK.out.drewN _).setIn (p := ⟨B, 1 + k * 2, none⟩) (Eq.refl B) _).setIn (p := ⟨B, 1 + k * 2 + 1, none⟩) (Eq.refl B) _)
      · have hkl2 : ¬ (k : Int) < (ks.length : Int) := by omega
        have hn0 : (f.s : Int) ≤ f.l.length := by omega
        have hn1 : (f.s : Int) ≤ cap := by omega
        have hn2 : f.s ≤ cap := by omega
        have HC := Lib.hid (close_crash HD1.out HA.out HKD.out HDK.out HF.out HV.out (n := f.s) (by rw [List.getElem?_eq_none (by omega)]; rfl) hsl)
        go_wp2_with fail
        go_region
        all_goals
          go_wp2
          refine ⟨⟨k + 1, by omega, by go_num, ?_, HC.out.drew⟩, by simp [intOf]; omega⟩
          exact ((HKK.out.setIn (p := ⟨B, 1 + k * 2, none⟩) (Eq.refl B) _).setIn (p := ⟨B, 1 + k * 2 + 1, none⟩) (Eq.refl B) _).drew
    · have hk8 : ¬ (k : Int) < 8 := by omega
      obtain rfl : k = 8 := by omega
      have c1 := HD1.out.c_off
      have c2 := HD1.out.c_plan
      have f1 := HD1.out.blk.frozen 17
      have f2 := HD1.out.blk.frozen 18
      have hs := (HD1.out.set_off false).set_plan (p := 0) (by omega) (by omega)
      have hkk : Kept (Kone B) wr ((wr.setCell ⟨B, 17, none⟩ (.bool false)).setCell ⟨B, 18, none⟩ (.int .i64 0)) := Kept.setIn (S := Kone B) (Kept.setIn (S := Kone B) (Kept.refl _ _) (p := ⟨B, 17, none⟩) (Eq.refl B) _) (p := ⟨B, 18, none⟩) (Eq.refl B) _
      have HT := Lib.hid (Turn.comp HKD.out HDK.out (hs.turn0 hkk))
      clear hs hkk
      go_wp2
      go_end0
      refine ⟨rfl, ?_⟩
      rw [← HA.out]
      exact HT.out

end Go.Proofs.Yteoodgcpkgfomaa
/-
  Disk: Copy.
-/
namespace Go.Proofs.Yteoodgcpkgfomaa
open Go.RowKit
set_option linter.unusedVariables false

def CopyRel (room plan : Int) (fs : List File) (off : Bool) (w : World) (i : Value) (wr : World) : Prop :=
  ∃ (k : Nat) (gs : List File), k ≤ 8 ∧ i = .int .i64 k ∧ gs.length = k ∧ gs.map File.ab = (fs.take k).map File.ab ∧ (∀ g ∈ gs, FileIn wr w.heap.size g) ∧ gs.Pairwise (fun a b => Apart a.v b.v) ∧
    Blk wr w.heap.size 87 (dCells room (gs ++ fs.drop k) off plan).toArray ∧ Kept Kno w wr

def CopyOk (room plan : Int) (fs : List File) (off : Bool) (w : World) (e : Ending) (w' : World) : Prop :=
  ∃ gs, e = .returned (.pointer (some ⟨w.heap.size, 0, none⟩)) ∧ Dsk w' w.heap.size w.heap.size room gs off plan ∧ gs.map File.ab = fs.map File.ab ∧ Kept Kno w w'

theorem used_ab (fs : List File) : used fs = ((fs.map File.ab).map fun p => p.1.length).sum := by simp [used, File.ab, Function.comp_def]

theorem eight {α : Type} {l : List α} (h : l.length = 8) : ∃ a b c d e f g i, l = [a, b, c, d, e, f, g, i] := by
  match l, h with
  | [a, b, c, d, e, f, g, i], _ => exact ⟨a, b, c, d, e, f, g, i, rfl⟩

theorem copy_step {room plan : Int} {fs gs : List File} {off : Bool} {w wr w1 : World} {k : Nat} {f : File} {A : Option Addr} {cap : Nat} (hlen : fs.length = 8) (hk : k < 8) (hf : fs[k]? = some f) (hs : f.s ≤ f.l.length) (hg : gs.length = k) (habs : gs.map File.ab = (fs.take k).map File.ab) (hfi : ∀ g ∈ gs, FileIn wr w.heap.size g) (hap : gs.Pairwise (fun a b => Apart a.v b.v))
    (hb : Blk wr w.heap.size 87 (dCells room (gs ++ fs.drop k) off plan).toArray) (hkk : Kept Kno w wr) (hown : OwnB w1 wr.heap.size 5 (.slice A f.l.length cap) f.l) (hk1 : Kept Kno wr w1) :
    CopyRel room plan fs off w (.int .i64 ((k : Int) + 1)) (w1.setCell ⟨w.heap.size, 1 + k * 2, none⟩ (.slice A f.l.length cap)) := by
  have hsz := hkk.size
  have hbl := hb.lt
  have hdrop : fs.drop k = f :: fs.drop (k + 1) := by
    obtain ⟨h1, h2⟩ := List.getElem?_eq_some_iff.1 hf
    rw [List.drop_eq_getElem_cons h1, h2]
  have hin : (gs ++ fs.drop k)[k]? = some f := by rw [List.getElem?_append_right (by omega), hg, hdrop]; simp
  have hset : (gs ++ fs.drop k).set k ⟨.slice A f.l.length cap, f.l, f.s⟩ = (gs ++ [⟨.slice A f.l.length cap, f.l, f.s⟩]) ++ fs.drop (k + 1) := by
    rw [List.set_append_right _ _ (by omega), hg, hdrop]
    simp
  have hne : (Value.slice A f.l.length cap).ownBlock ≠ some w.heap.size := fun e => by have := (own_base hown e).1; omega
  have hb2 := blk_v (hb.kept hk1 (fun h => h)) hin (.slice A f.l.length cap) f.l
  rw [hset] at hb2
  refine ⟨k + 1, gs ++ [⟨.slice A f.l.length cap, f.l, f.s⟩], by omega, by go_num, by simp [hg], ?_, ?_, ?_, hb2, (hkk.then0 hk1).setNew (Nat.le_refl _) _⟩
  · rw [List.map_append, habs, List.take_add_one, hf]
    simp [File.ab]
  · intro g hgm
    rcases List.mem_append.1 hgm with h | h
    · have h2 := hfi g h
      refine ⟨own_far (own_kept h2.1 hk1 (fun _ _ h => h)) ?_ _, h2.2⟩
      exact own_blk_ne h2.1 hb (by decide)
    · simp only [List.mem_singleton] at h
      subst h
      exact ⟨own_far (own_rebase hown (fun k hk => by have := (own_base hown hk).1; omega)) hne _, hs⟩
  · rw [List.pairwise_append]
    refine ⟨hap, List.pairwise_singleton _ _, ?_⟩
    intro a ha b hb k hka hkb
    simp only [List.mem_singleton] at hb
    subst hb
    have h1 := (own_base (hfi a ha).1 hka).2
    have h2 := (own_base hown hkb).1
    omega

theorem dsize {room plan : Int} {fs : List File} {off : Bool} (h : fs.length = 8) : (dCells room fs off plan).toArray.size = 19 := by
  have := fCells_length fs
  simp only [dCells, List.size_toArray, List.length_cons, List.length_append, List.length_nil]
  omega
theorem info_disk : (Try.prog.info? 87).map (·.size) = some 19 := by kernel_rfl
theorem own_one {w : World} {base : Nat} {e : TypeId} {size n : Nat} {v : Value} {xs : List Value} (h : w.ownsRow base e size v n xs) : v.oneCell' = true := by
  obtain ⟨A, cap, rfl⟩ := own_form h
  rfl
theorem dcells_one {room plan : Int} {fs : List File} {off : Bool} (h : ∀ f ∈ fs, f.v.oneCell' = true) : (dCells room fs off plan).toArray.all (·.oneCell') = true := by
  rw [List.all_toArray, List.all_eq_true]
  intro x hx
  simp only [dCells, fCells, List.mem_cons, List.mem_append, List.mem_flatMap, List.not_mem_nil, or_false] at hx
  rcases hx with rfl | ⟨f, hf, rfl | rfl⟩ | rfl | rfl
  · rfl
  · exact h f hf
  · rfl
  · rfl
  · rfl

set_option maxHeartbeats 4000000 in
theorem copy_any (base B : Nat) (room plan : Int) (fs : List File) (off : Bool) (w : World) (h : Dsk w base B room fs off plan) :
    Calls Try.prog 54 #[.pointer (some ⟨B, 0, none⟩)] w (CopyOk room plan fs off w) := by
  have HD := Lib.hid h
  have HB := Lib.hid h.blk
  have HS : Hid ((Try.prog.info? 87).map (·.size) = some (dCells room fs off plan).toArray.size) := Lib.hid (by rw [dsize h.len]; exact info_disk)
  have H1 := Lib.hid (dcells_one (room := room) (plan := plan) (off := off) (fun f hf => own_one (h.files f hf).1))
  have HZ := Lib.hid (dsize (room := room) (plan := plan) (off := off) h.len)
  clear h
  go_enter Try.func54, Try.ntmps54
  have hst : ∀ (c : Array Value), c.size = 19 → (storeCells ⟨w.heap.size, 0, none⟩ (dCells room fs off plan)).run Try.prog (w.alloc (.cells c 87)) = .ok () (w.alloc (.cells (dCells room fs off plan).toArray 87)) := fun c hc => by
    have := run_storeCells_new (P := Try.prog) w 87 c (dCells room fs off plan).toArray HS.out (by rw [HZ.out, hc]) H1.out
    simpa using this
  have hz19 : (dCells room fs off plan).length = 19 := by have := HZ.out; simpa using this
  go_wp2_with (refine wpList_load_row rfl 87 (.tmp 6) rfl B rfl 87 (dCells room fs off plan).toArray (0, 0) _ HB.out Try.underlying87 rfl HS.out ?_)
  clear hst hz19
  have hb0 : Blk (w.alloc (.cells (dCells room fs off plan).toArray 87)) w.heap.size 87 (dCells room fs off plan).toArray := Blk.new _ _ _
  have hk0 : Kept Kno w (w.alloc (.cells (dCells room fs off plan).toArray 87)) := (Kept.refl _ _).alloc _
  generalize w.alloc (.cells (dCells room fs off plan).toArray 87) = w0 at hb0 hk0 ⊢
  have HB0 := Lib.hid hb0
  have HK0 := Lib.hid hk0
  clear hb0 hk0
  go_loopw [8] (fun i wr => CopyRel room plan fs off w i wr) (fun i _ => 8 - (intOf i).toNat)
  case atStart => exact ⟨0, [], by omega, rfl, rfl, rfl, (fun g h => by cases h), List.Pairwise.nil, HB0.out, HK0.out⟩
  case round =>
    obtain ⟨k, gs, hk, rfl, hgl, habs, hfi, hap, hb, hkk⟩ := hrel
    by_cases hlt : k < 8
    · obtain ⟨f, hf⟩ : ∃ f, fs[k]? = some f := ⟨fs[k]'(by rw [HD.out.len]; exact hlt), List.getElem?_eq_getElem (by rw [HD.out.len]; exact hlt)⟩
      have hdr := HD.out.kept0 hkk
      obtain ⟨c1, -⟩ := hdr.c_file hf
      obtain ⟨hown, hsl⟩ := hdr.files f (List.mem_of_getElem? hf)
      obtain ⟨A, cap, hv⟩ := own_form hown
      have hu := used_le (List.mem_of_getElem? hf)
      have hr := HD.out.room1
      have hfi2 := HD.out.fits
      have hl : f.l.length ≤ 140737488355328 := by omega
      have HBS : Hid (Bs wr (.slice A f.l.length cap) f.l) := Lib.hid (by have := OwnB.bs hown; rwa [hv] at this)
      rw [hv] at c1
      have hin : (gs ++ fs.drop k)[k]? = some f := by
        obtain ⟨h1, h2⟩ := List.getElem?_eq_some_iff.1 hf
        rw [List.getElem?_append_right (by omega), hgl, List.drop_eq_getElem_cons h1, h2]; simp
      have hfl : k < (gs ++ fs.drop k).length := (List.getElem?_eq_some_iff.1 hin).1
      have d1 : wr.cell? ⟨w.heap.size, 1 + k * 2, none⟩ = some (.slice A f.l.length cap) := by
        have h5 := fCells_length (gs ++ fs.drop k)
        rw [hb.cell, show 1 + k * 2 = k * 2 + 1 from by omega]
        simp only [dCells, List.getElem?_toArray, List.getElem?_cons_succ]
        rw [List.getElem?_append_left (by omega), (fCells_at _ k f hin).1, hv]
      have d2 := hb.frozen (1 + k * 2)
      have hsz := hb.lt
      have HR := Lib.hid (And.intro hgl (And.intro habs (And.intro hfi (And.intro hap (And.intro hb hkk)))))
      have HF := Lib.hid hf
      have hk0 : (0 : Int) ≤ (k : Int) := by omega
      have hk8 : (k : Int) < 8 := by omega
      clear hgl habs hfi hap hb hkk hf hdr hown hv hin hfl hfi2
      go_wp2_with fail
      refine (sclone_any _ f.l _ HBS.out hl).mono ?_
      rintro e w1 ⟨A1, cap1, rfl, hown1, hk1⟩
      have e1 := hk1.cell_some d1 (fun h => h)
      have e2 := hk1.frozen_no d2 hsz (fun h => h)
      have HO := Lib.hid hown1
      clear hown1
      go_wp2
      go_roundw
      case rel => obtain ⟨r1, r2, r3, r4, r5, r6⟩ := HR.out; exact copy_step HD.out.len hlt HF.out hsl r1 r2 r3 r4 r5 r6 HO.out hk1
      case measure => simp [intOf]; omega
    · have hk8 : ¬ (k : Int) < 8 := by omega
      obtain rfl : k = 8 := by omega
      have ht : fs.take 8 = fs := List.take_of_length_le (by rw [HD.out.len]; omega)
      have hd : fs.drop 8 = [] := List.drop_of_length_le (by rw [HD.out.len]; omega)
      rw [ht] at habs
      rw [hd, List.append_nil] at hb
      have hx : CopyOk room plan fs off w (.returned (.pointer (some ⟨w.heap.size, 0, none⟩))) wr :=
        ⟨gs, rfl, ⟨Nat.le_refl _, hb, hgl, hfi, hap, by rw [used_ab, habs, ← used_ab]; exact HD.out.fits, HD.out.room0, HD.out.room1, HD.out.plan0, HD.out.plan1⟩, habs, hkk⟩
      have HX := Lib.hid hx
      clear hgl habs hfi hap hb hkk hx ht hd
      go_wp2
      go_ret
      exact HX.out

end Go.Proofs.Yteoodgcpkgfomaa
/-
  Disk: the disk as its document knows it, step by step; every method at every argument.
-/
namespace Go.Proofs.Yteoodgcpkgfomaa
open Go.RowKit
set_option linter.unusedVariables false

namespace Ab
def file (a : Ab) (i : Nat) : List UInt8 × Nat := a.fs.getD i ([], 0)
def used (a : Ab) : Nat := (a.fs.map fun p => p.1.length).sum
def append (a : Ab) (i : Int) (lb : List UInt8) : Ab × Int :=
  if checkOf a.off i ≠ 0 then (a, checkOf a.off i)
  else if a.room - (a.used : Int) < lb.length then (a, 221)
  else gateOf a true i.toNat ((a.file i.toNat).1 ++ lb, (a.file i.toNat).2)
def trunc (a : Ab) (i n : Int) : Ab × Int :=
  if checkOf a.off i ≠ 0 then (a, checkOf a.off i)
  else if n < 0 ∨ ((a.file i.toNat).1.length : Int) < n then (a, 1)
  else gateOf a false i.toNat ((a.file i.toNat).1.take n.toNat, n.toNat)
def replace (a : Ab) (i : Int) (lb : List UInt8) : Ab × Int :=
  if checkOf a.off i ≠ 0 then (a, checkOf a.off i)
  else if a.room - ((a.used : Int) - (a.file i.toNat).1.length) < lb.length then (a, 221)
  else gateOf a false i.toNat (lb, lb.length)
def sync (a : Ab) (i : Int) : Ab × Int :=
  if checkOf a.off i ≠ 0 then (a, checkOf a.off i)
  else gateOf a false i.toNat ((a.file i.toNat).1, (a.file i.toNat).1.length)
def fail (a : Ab) (n : Int) : Ab := if a.off then a else ⟨a.room, a.fs, a.off, if 0 < n then n else 0⟩
def crash (a : Ab) (ks : List Int) : Ab := ⟨a.room, crashTo 8 a.fs ks, false, 0⟩
end Ab

/-- The disk in memory is the disk a. -/
def Is (w : World) (base B : Nat) (fs : List File) (a : Ab) : Prop := Dsk w base B a.room fs a.off a.plan ∧ fs.map File.ab = a.fs

/-- What a call that returns a code leaves. -/
def Ret (base B : Nat) (fs : List File) (p : Ab × Int) (w : World) (e : Ending) (w' : World) : Prop := e = .returned (.int .i64 p.2) ∧ Turn base B fs p.1 w w'

section
variable {w w' : World} {base B : Nat} {fs : List File} {a : Ab}
theorem Is.kept0 (h : Is w base B fs a) (hk : Kept Kno w w') : Is w' base B fs a := ⟨h.1.kept0 hk, h.2⟩
theorem Is.used (h : Is w base B fs a) : Go.Proofs.Yteoodgcpkgfomaa.used fs = a.used := by rw [used_ab, h.2]; rfl
theorem Is.len (h : Is w base B fs a) : a.fs.length = 8 := by rw [← h.2, List.length_map]; exact h.1.len
theorem Is.file (h : Is w base B fs a) {i : Nat} (hi : i < 8) : ∃ f, fs[i]? = some f ∧ a.file i = f.ab := by
  have hl := h.1.len
  refine ⟨fs[i]'(by omega), List.getElem?_eq_getElem (by omega), ?_⟩
  simp only [Ab.file, ← h.2, List.getD, List.getElem?_map, List.getElem?_eq_getElem (show i < fs.length by omega), Option.map_some, Option.getD_some]
theorem Is.turn0 (h : Is w base B fs a) (hk : Kept Kno w w') : Turn base B fs a w w' := by
  obtain ⟨h1, h2⟩ := h
  obtain ⟨room, afs, off, plan⟩ := a
  simp only at h1 h2
  subst h2
  exact (h1.kept0 hk).turn0 (hk.mono (fun _ _ e => e.elim))
theorem check_range {off : Bool} {i : Int} (h : ¬ checkOf off i ≠ 0) : off = false ∧ 0 ≤ i ∧ i < 8 := by
  simp only [checkOf] at h
  cases off with
  | true => simp at h
  | false =>
    by_cases hi : i < 0 ∨ 8 ≤ i
    · simp [hi] at h
    · exact ⟨rfl, by omega, by omega⟩

theorem dsk_no_byte {room plan : Int} {off : Bool} (h : Dsk w base B room fs off plan) {p : Addr} {x : Int} (hc : w.cell? p = some (.int .u8 x)) : p.block ≠ B := by
  obtain ⟨g, o, spot⟩ := p
  rintro rfl
  have hs := World.cell?_spot hc
  simp only at hs
  subst hs
  rw [h.blk.cell] at hc
  have hm := List.mem_of_getElem? (by simpa using hc : (dCells room fs off plan)[o]? = some (.int .u8 x))
  simp only [dCells, fCells, List.mem_cons, List.mem_append, List.mem_flatMap, List.not_mem_nil, or_false] at hm
  rcases hm with hm | ⟨f, hf, hm | hm⟩ | hm | hm
  · cases hm
  · obtain ⟨A, cap, hv⟩ := own_form (h.files f hf).1
    rw [hv] at hm; cases hm
  · cases hm
  · cases hm
  · cases hm
theorem Dsk.bs {room plan : Int} {off : Bool} (h : Dsk w base B room fs off plan) {v : Value} {l : List UInt8} (hb : Bs w v l) (w1 : World) (hk : Kept (Kone B) w w1) : Bs w1 v l := by
  obtain ⟨A, cap, rfl, h1, h2, h3, h4⟩ := hb
  refine ⟨A, cap, rfl, h1, h2, h3, fun ad hA j u hj => ?_⟩
  have hc := h4 ad hA j u hj
  rw [List.getElem?_map] at hj
  cases hq : l[j]? with
  | none => rw [hq] at hj; cases hj
  | some c =>
    rw [hq] at hj
    simp only [Option.map_some, Option.some.injEq] at hj
    subst hj
    exact hk.cell_some hc (fun e => dsk_no_byte h hc e)

theorem append_any (i : Int) (v : Value) (lb : List UInt8) (h : Is w base B fs a) (hb : Bs w v lb) :
    Calls Try.prog 33 #[.pointer (some ⟨B, 0, none⟩), .int .i64 i, v] w (Ret base B fs (a.append i lb) w) := by
  have hbs := h.1.bs hb
  obtain ⟨A, cap, rfl, -⟩ := hb
  unfold Ab.append
  by_cases hc : checkOf a.off i ≠ 0
  · rw [if_pos hc]
    exact (append_no base B a.room a.plan fs a.off i _ A lb.length cap w h.1 rfl hc).mono fun e w' ⟨x, y⟩ => ⟨x, h.turn0 y⟩
  · rw [if_neg hc]
    obtain ⟨h1, h2, h3⟩ := check_range hc
    obtain ⟨n, rfl⟩ : ∃ n : Nat, i = n := ⟨i.toNat, by omega⟩
    obtain ⟨f, hf, haf⟩ := h.file (i := n) (by omega)
    have hu := h.used
    obtain ⟨room, afs, off, plan⟩ := a
    obtain ⟨hd, rfl⟩ := h
    simp only at h1 hd
    subst h1
    by_cases hn : room - (used fs : Int) < lb.length
    · rw [if_pos (by rw [← hu]; exact hn)]
      exact (append_full base B n room plan fs A lb.length cap w hd (by omega) hn).mono fun e w' ⟨x, y⟩ => ⟨x, (hd.kept0 y).turn0 (y.mono (fun _ _ e => e.elim))⟩
    · rw [if_neg (by rw [← hu]; exact hn), Int.toNat_natCast, haf]
      exact append_yes base B n room plan fs f A lb cap w hd (by omega) hf (by omega) hbs

theorem replace_any (i : Int) (v : Value) (lb : List UInt8) (h : Is w base B fs a) (hb : Bs w v lb) :
    Calls Try.prog 34 #[.pointer (some ⟨B, 0, none⟩), .int .i64 i, v] w (Ret base B fs (a.replace i lb) w) := by
  have hbs := h.1.bs hb
  obtain ⟨A, cap, rfl, -⟩ := hb
  unfold Ab.replace
  by_cases hc : checkOf a.off i ≠ 0
  · rw [if_pos hc]
    exact (replace_no base B a.room a.plan fs a.off i _ A lb.length cap w h.1 rfl hc).mono fun e w' ⟨x, y⟩ => ⟨x, h.turn0 y⟩
  · rw [if_neg hc]
    obtain ⟨h1, h2, h3⟩ := check_range hc
    obtain ⟨n, rfl⟩ : ∃ n : Nat, i = n := ⟨i.toNat, by omega⟩
    obtain ⟨f, hf, haf⟩ := h.file (i := n) (by omega)
    have hu := h.used
    obtain ⟨room, afs, off, plan⟩ := a
    obtain ⟨hd, rfl⟩ := h
    simp only at h1 hd
    subst h1
    rw [Int.toNat_natCast, haf]
    by_cases hn : room - ((used fs : Int) - f.l.length) < lb.length
    · rw [if_pos (by rw [← hu]; exact hn)]
      exact (replace_full base B n room plan fs f A lb.length cap w hd (by omega) hf hn).mono fun e w' ⟨x, y⟩ => ⟨x, (hd.kept0 y).turn0 (y.mono (fun _ _ e => e.elim))⟩
    · rw [if_neg (by rw [← hu]; exact hn)]
      exact replace_yes base B n room plan fs f A lb cap w hd (by omega) hf (by omega) hbs

theorem trunc_any (i n : Int) (h : Is w base B fs a) :
    Calls Try.prog 52 #[.pointer (some ⟨B, 0, none⟩), .int .i64 i, .int .i64 n] w (Ret base B fs (a.trunc i n) w) := by
  unfold Ab.trunc
  by_cases hc : checkOf a.off i ≠ 0
  · rw [if_pos hc]
    exact (trunc_no base B a.room a.plan fs a.off i _ n w h.1 rfl hc).mono fun e w' ⟨x, y⟩ => ⟨x, h.turn0 y⟩
  · rw [if_neg hc]
    obtain ⟨h1, h2, h3⟩ := check_range hc
    obtain ⟨m, rfl⟩ : ∃ n : Nat, i = n := ⟨i.toNat, by omega⟩
    obtain ⟨f, hf, haf⟩ := h.file (i := m) (by omega)
    obtain ⟨room, afs, off, plan⟩ := a
    obtain ⟨hd, rfl⟩ := h
    simp only at h1 hd
    subst h1
    rw [Int.toNat_natCast, haf]
    by_cases hn : n < 0 ∨ (f.l.length : Int) < n
    · rw [if_pos (show n < 0 ∨ (f.ab.1.length : Int) < n from hn)]
      exact (trunc_bad base B m room plan fs f n w hd (by omega) hf hn).mono fun e w' ⟨x, y⟩ => ⟨x, (hd.kept0 y).turn0 (y.mono (fun _ _ e => e.elim))⟩
    · rw [if_neg (show ¬ (n < 0 ∨ (f.ab.1.length : Int) < n) from hn)]
      obtain ⟨k, rfl⟩ : ∃ k : Nat, n = k := ⟨n.toNat, by omega⟩
      rw [Int.toNat_natCast]
      exact trunc_yes base B m k room plan fs f w hd (by omega) hf (by omega)

theorem sync_any (i : Int) (h : Is w base B fs a) :
    Calls Try.prog 53 #[.pointer (some ⟨B, 0, none⟩), .int .i64 i] w (Ret base B fs (a.sync i) w) := by
  unfold Ab.sync
  by_cases hc : checkOf a.off i ≠ 0
  · rw [if_pos hc]
    exact (sync_no base B a.room a.plan fs a.off i _ w h.1 rfl hc).mono fun e w' ⟨x, y⟩ => ⟨x, y ▸ h.turn0 (Kept.refl _ _)⟩
  · rw [if_neg hc]
    obtain ⟨h1, h2, h3⟩ := check_range hc
    obtain ⟨m, rfl⟩ : ∃ n : Nat, i = n := ⟨i.toNat, by omega⟩
    obtain ⟨f, hf, haf⟩ := h.file (i := m) (by omega)
    obtain ⟨room, afs, off, plan⟩ := a
    obtain ⟨hd, rfl⟩ := h
    simp only at h1 hd
    subst h1
    rw [Int.toNat_natCast, haf]
    exact sync_yes base B m room plan fs f w hd (by omega) hf

/-- What Read returns. -/
def Ab.read (a : Ab) (i : Int) : List UInt8 × Int := if checkOf a.off i ≠ 0 then ([], checkOf a.off i) else ((a.file i.toNat).1, 0)

theorem read_any (i : Int) (h : Is w base B fs a) :
    Calls Try.prog 19 #[.pointer (some ⟨B, 0, none⟩), .int .i64 i] w (RetRead (a.read i).1 (a.read i).2 w) := by
  unfold Ab.read
  by_cases hc : checkOf a.off i ≠ 0
  · rw [if_pos hc]
    exact (read_no base B a.room a.plan fs a.off i _ w h.1 rfl hc).mono fun e w' ⟨x, y⟩ => ⟨none, 0, x, World.ownsRow_nil _ _ _ _, y ▸ Kept.refl _ _⟩
  · rw [if_neg hc]
    obtain ⟨h1, h2, h3⟩ := check_range hc
    obtain ⟨m, rfl⟩ : ∃ n : Nat, i = n := ⟨i.toNat, by omega⟩
    obtain ⟨f, hf, haf⟩ := h.file (i := m) (by omega)
    obtain ⟨room, afs, off, plan⟩ := a
    obtain ⟨hd, rfl⟩ := h
    simp only at h1 hd
    subst h1
    rw [Int.toNat_natCast, haf]
    exact read_yes base B m room plan fs f w hd (by omega) hf

theorem size_any (i : Int) (h : Is w base B fs a) :
    Calls Try.prog 21 #[.pointer (some ⟨B, 0, none⟩), .int .i64 i] w fun e w' => e = .returned (.tuple #[.int .i64 ((a.read i).1.length : Nat), .int .i64 (a.read i).2]) ∧ w = w' := by
  unfold Ab.read
  by_cases hc : checkOf a.off i ≠ 0
  · rw [if_pos hc]
    exact size_no base B a.room a.plan fs a.off i _ w h.1 rfl hc
  · rw [if_neg hc]
    obtain ⟨h1, h2, h3⟩ := check_range hc
    obtain ⟨m, rfl⟩ : ∃ n : Nat, i = n := ⟨i.toNat, by omega⟩
    obtain ⟨f, hf, haf⟩ := h.file (i := m) (by omega)
    obtain ⟨room, afs, off, plan⟩ := a
    obtain ⟨hd, rfl⟩ := h
    simp only at h1 hd
    subst h1
    rw [Int.toNat_natCast, haf]
    exact size_yes base B m room plan fs f w hd (by omega) hf

theorem fail_any (n : Int) (hn : n ≤ 9223372036854775807) (h : Is w base B fs a) :
    Calls Try.prog 36 #[.pointer (some ⟨B, 0, none⟩), .int .i64 n] w fun e w' => e = .returned (.tuple #[]) ∧ Turn base B fs (a.fail n) w w' := by
  unfold Ab.fail
  cases ho : a.off with
  | true =>
    rw [if_pos rfl]
    exact (fail_off B n w (ho ▸ h.1.c_off)).mono fun e w' ⟨x, y⟩ => ⟨x, y ▸ h.turn0 (Kept.refl _ _)⟩
  | false =>
    rw [if_neg (by decide)]
    refine (fail_on B n a.plan w (ho ▸ h.1.c_off) h.1.c_plan (h.1.blk.frozen 18)).mono fun e w' ⟨x, y⟩ => ⟨x, ?_⟩
    subst y
    obtain ⟨room, afs, off, plan⟩ := a
    obtain ⟨hd, rfl⟩ := h
    simp only at ho hd
    subst ho
    exact (hd.set_plan (by split <;> omega) (by split <;> omega)).turn0 (Kept.setIn (S := Kone B) (Kept.refl _ _) (p := ⟨B, 18, none⟩) (Eq.refl B) _)

theorem crash_any (keep : Value) (ks : List Int) (h : Is w base B fs a) (hks : ∀ w1, Kept (Kone B) w w1 → KeepIn w1 keep ks) :
    Calls Try.prog 48 #[.pointer (some ⟨B, 0, none⟩), keep] w fun e w' => e = .returned (.tuple #[]) ∧ Turn base B fs (a.crash ks) w w' := by
  have := crash_loop base B a.room a.plan fs a.off keep ks w h.1 hks
  unfold Ab.crash
  rw [← h.2]
  exact this

theorem Turn.is {ab : Ab} (h : Turn base B fs ab w w') : ∃ fs', Is w' base B fs' ab ∧ Kept (DK B fs) w w' ∧ ∀ k, DK B fs' k → DK B fs k ∨ w.heap.size ≤ k := by
  obtain ⟨fs', h1, h2, h3, h4⟩ := h
  exact ⟨fs', ⟨h1, h2⟩, h3, h4⟩
theorem Is.low (h : Is w base B fs a) {k : Nat} (hk : DK B fs k) : base ≤ k ∧ k < w.heap.size := by
  rcases hk with rfl | ⟨f, hf, he⟩
  · exact ⟨h.1.low, h.1.blk.lt⟩
  · exact own_base (h.1.files f hf).1 he
/-- What a disk of the law's own may change is new. -/
theorem Is.kept {W : World} (h : Is w base B fs a) (hk : Kept Kno W w) (hb : W.heap.size ≤ base) (h2 : Kept (DK B fs) w w') : Kept Kno W w' :=
  hk.trans h2 (fun i hi hN => by have := (h.low hN).1; omega)
end

set_option maxHeartbeats 400000 in
theorem equal_any (v u : Value) (l m : List UInt8) (w : World) (hv : Bs w v l) (hu : Bs w u m) :
    Calls Try.prog 23 #[v, u] w fun e w' => e = .returned (.bool (decide (l = m))) ∧ w = w' := by
  have t1 := run_string_bs (P := Try.prog) 30 9 5 hv Try.underlying30 Try.underlying5 Try.underlying9
  have t2 := run_string_bs (P := Try.prog) 30 9 5 hu Try.underlying30 Try.underlying5 Try.underlying9
  clear hv hu
  by_cases h : l = m
  · subst h
    go_enter Try.func23, Try.ntmps23
    go_wp2
    go_ret
    exact ⟨by simp, rfl⟩
  · have e2 : decide (l = m) = false := by simp [h]
    rw [e2]
    have H := Lib.hid h
    clear e2
    go_enter Try.func23, Try.ntmps23
    go_wp2
    go_ret
    refine ⟨?_, rfl⟩
    have := H.out
    simp [this]

end Go.Proofs.Yteoodgcpkgfomaa
