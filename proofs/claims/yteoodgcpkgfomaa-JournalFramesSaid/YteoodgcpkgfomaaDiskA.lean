/-
  Disk: what a disk is in memory; contracts of New, slices.Clone, check, Off, Used.
-/
import Derived.Test.YteoodgcpkgfomaaBase2
import Derived.Test.YteoodgcpkgfomaaBase3
import Derived.Test.YteoodgcpkgfomaaChecked
import Derived.Tactics
import Derived.Tactics2
import Derived.WalkKit
import Derived.WalkSpells
import Derived.WalkLawsBesides
import Derived.Deep.QuietTactic
import Derived.BigQuiet
import Derived.Deep.RegionHeld3
import Derived.Deep.RegionLaw
import Derived.Deep.DeepCutAuto
import Derived.Deep.DrawnRows
import Derived.Deep.LoopGhost
import Derived.LoopTactic
import Derived.IntWalk
import Derived.Lib.Hide
import Derived.Outline
import Derived.KernelRfl
namespace Go.Proofs.Yteoodgcpkgfomaa
open Go.RowKit
set_option linter.unusedVariables false

theorem info_byte : (Try.prog.info? 5).map (fun i => (i.zero, i.size, i.bytes)) = some (some (.int .u8 0), 1, 1) := by kernel_rfl

/-- A call that changes nothing that was there. -/
def RetNew (v : Value) (w : World) (e : Ending) (w' : World) : Prop := e = .returned v ∧ Kept Kno w w'

/-- Two rows do not lie in one block. -/
def Apart (v u : Value) : Prop := ∀ k, v.ownBlock = some k → u.ownBlock ≠ some k

/-- A file: the slice value of its bytes, the bytes, how many survive a crash. -/
structure File where
  v : Value
  l : List UInt8
  s : Nat

def fCells (fs : List File) : List Value := fs.flatMap fun f => [f.v, .int .i64 f.s]
def dCells (room : Int) (fs : List File) (off : Bool) (plan : Int) : List Value := .int .i64 room :: (fCells fs ++ [.bool off, .int .i64 plan])
def used (fs : List File) : Nat := (fs.map fun f => f.l.length).sum

theorem fCells_length (fs : List File) : (fCells fs).length = fs.length * 2 := by
  induction fs with
  | nil => rfl
  | cons f fs ih => simp only [fCells, List.flatMap_cons, List.length_append, List.length_cons, List.length_nil] at ih ⊢; omega
theorem fCells_at (fs : List File) (i : Nat) (f : File) (h : fs[i]? = some f) : (fCells fs)[i * 2]? = some f.v ∧ (fCells fs)[i * 2 + 1]? = some (.int .i64 f.s) := by
  induction fs generalizing i with
  | nil => simp at h
  | cons q fs ih =>
    cases i with
    | zero => simp at h; subst h; simp [fCells]
    | succ i =>
      have h2 := ih i (by simpa using h)
      have e1 : (i + 1) * 2 = i * 2 + 1 + 1 := by omega
      rw [e1]
      simpa [fCells] using h2

def FileIn (w : World) (base : Nat) (f : File) : Prop := OwnB w base 5 f.v f.l ∧ f.s ≤ f.l.length

/-- Block B is a disk. -/
structure Dsk (w : World) (base B : Nat) (room : Int) (fs : List File) (off : Bool) (plan : Int) : Prop where
  low : base ≤ B
  blk : Blk w B 87 (dCells room fs off plan).toArray
  len : fs.length = 8
  files : ∀ f ∈ fs, FileIn w base f
  apart : fs.Pairwise fun a b => Apart a.v b.v
  fits : (used fs : Int) ≤ room
  room0 : 0 ≤ room
  room1 : room ≤ 16777216
  plan0 : 0 ≤ plan
  plan1 : plan ≤ 9223372036854775807

section
variable {w w' : World} {base B : Nat} {room plan : Int} {fs : List File} {off : Bool}
theorem Dsk.c_room (h : Dsk w base B room fs off plan) : w.cell? ⟨B, 0, none⟩ = some (.int .i64 room) := h.blk.cell 0
theorem Dsk.c_off (h : Dsk w base B room fs off plan) : w.cell? ⟨B, 17, none⟩ = some (.bool off) := by
  rw [h.blk.cell]
  have hl := fCells_length fs
  rw [h.len] at hl
  simp only [dCells, List.getElem?_toArray, List.getElem?_cons_succ]
  rw [List.getElem?_append_right (by omega), hl]
  rfl
theorem Dsk.c_plan (h : Dsk w base B room fs off plan) : w.cell? ⟨B, 18, none⟩ = some (.int .i64 plan) := by
  rw [h.blk.cell]
  have hl := fCells_length fs
  rw [h.len] at hl
  simp only [dCells, List.getElem?_toArray, List.getElem?_cons_succ]
  rw [List.getElem?_append_right (by omega), hl]
  rfl
theorem Dsk.c_file (h : Dsk w base B room fs off plan) {i : Nat} {f : File} (hf : fs[i]? = some f) : w.cell? ⟨B, 1 + i * 2, none⟩ = some f.v ∧ w.cell? ⟨B, 1 + i * 2 + 1, none⟩ = some (.int .i64 f.s) := by
  have hi : i < fs.length := (List.getElem?_eq_some_iff.1 hf).1
  have hl := fCells_length fs
  obtain ⟨h1, h2⟩ := fCells_at fs i f hf
  constructor
  · rw [h.blk.cell, show 1 + i * 2 = i * 2 + 1 from by omega]
    simp only [dCells, List.getElem?_toArray, List.getElem?_cons_succ]
    rw [List.getElem?_append_left (by omega)]
    exact h1
  · rw [h.blk.cell, show 1 + i * 2 + 1 = i * 2 + 1 + 1 from by omega]
    simp only [dCells, List.getElem?_toArray, List.getElem?_cons_succ]
    rw [List.getElem?_append_left (by omega)]
    exact h2
theorem used_le {fs : List File} {f : File} (h : f ∈ fs) : f.l.length ≤ used fs := by
  induction fs with
  | nil => cases h
  | cons a fs ih =>
    simp only [used, List.map_cons, List.sum_cons] at ih ⊢
    rcases List.mem_cons.1 h with rfl | h
    · omega
    · have := ih h; omega

/-- What a disk's calls may change: its block and the rows of its files. -/
def DK (B : Nat) (fs : List File) : Nat → Prop := fun k => k = B ∨ ∃ f ∈ fs, f.v.ownBlock = some k

theorem Dsk.kept {S : Nat → Prop} (h : Dsk w base B room fs off plan) (hk : Kept S w w') (hB : ¬ S B) (hf : ∀ f ∈ fs, ∀ k, f.v.ownBlock = some k → ¬ S k) : Dsk w' base B room fs off plan :=
  ⟨h.low, h.blk.kept hk hB, h.len, fun f hm => ⟨own_kept (h.files f hm).1 hk (hf f hm), (h.files f hm).2⟩, h.apart, h.fits, h.room0, h.room1, h.plan0, h.plan1⟩
theorem Dsk.kept0 (h : Dsk w base B room fs off plan) (hk : Kept Kno w w') : Dsk w' base B room fs off plan := h.kept hk (fun h => h) (fun _ _ _ _ h => h)
end

def noFile : File := ⟨.slice none 0 0, [], 0⟩
theorem dsk_new (w : World) (base : Nat) (room : Int) (hb : base ≤ w.heap.size) (h0 : 0 ≤ room) (h1 : room ≤ 16777216) :
    Dsk (w.alloc (.cells (dCells room (List.replicate 8 noFile) false 0).toArray 87)) base w.heap.size room (List.replicate 8 noFile) false 0 :=
  ⟨hb, Blk.new _ _ _, rfl, fun f hf => by rw [List.eq_of_mem_replicate hf]; exact ⟨World.ownsRow_nil _ _ _ _, Nat.le_refl _⟩,
   by rw [List.pairwise_replicate]; exact .inr (fun k hk => by simp [noFile, Value.ownBlock] at hk), by simp [used, noFile]; exact h0, h0, h1, Int.le_refl _, by omega⟩

set_option maxHeartbeats 400000 in
theorem new_ok (room : Int) (w : World) (h1 : 0 ≤ room) (h2 : room ≤ 16777216) :
    Calls Try.prog 26 #[.int .i64 room] w fun e w' =>
      e = .returned (.tuple #[.pointer (some ⟨w.heap.size, 0, none⟩), .int .i64 0]) ∧ w' = w.alloc (.cells (dCells room (List.replicate 8 noFile) false 0).toArray 87) := by
  go_enter Try.func26, Try.ntmps26
  go_wp2
  go_ret2
  exact ⟨rfl, rfl⟩

set_option maxHeartbeats 400000 in
theorem new_no (room : Int) (w : World) (h : room < 0 ∨ 16777216 < room) :
    Calls Try.prog 26 #[.int .i64 room] w fun e w' => e = .returned (.tuple #[.pointer none, .int .i64 1]) ∧ w = w' := by
  rcases h with h | h
  · go_enter Try.func26, Try.ntmps26
    go_wp2
    go_ret2
    exact ⟨rfl, rfl⟩
  · have h' : ¬ room < 0 := by omega
    go_enter Try.func26, Try.ntmps26
    go_wp2
    go_ret2
    exact ⟨rfl, rfl⟩

/-- A new slice in new memory that reads as l. -/
def RetB (l : List UInt8) (w : World) (e : Ending) (w' : World) : Prop :=
  ∃ A cap, e = .returned (.slice A l.length cap) ∧ OwnB w' w.heap.size 5 (.slice A l.length cap) l ∧ Kept Kno w w'

set_option maxHeartbeats 400000 in
theorem sclone_any (v : Value) (l : List UInt8) (w : World) (h : Bs w v l) (hl : l.length ≤ 140737488355328) :
    Calls Try.prog 60 #[v] w (RetB l w) := by
  obtain ⟨i0, hi, hz0, hz1, hz2⟩ := info_parts info_byte
  have H := Lib.hid h
  obtain ⟨A, cap, rfl, hlc, hx, hn, hc⟩ := h
  have e1 := fun (w : World) => Lib.run_eql_slice_nil (P := Try.prog) w 30 5 A l.length cap 0 0 Try.underlying30
  clear hx hn hc
  rcases A with _ | ad
  · simp only [Option.isNone] at e1
    go_enter Try.func60, Try.ntmps60
    go_wp2
    go_ret
    obtain ⟨A, cap, hv, h1, h2, h3, h4⟩ := H.out
    cases hv
    obtain ⟨h5, rfl⟩ := h3 rfl
    have h6 : l = [] := List.eq_nil_of_length_eq_zero h5
    subst h6
    exact ⟨none, 0, rfl, World.ownsRow_nil _ _ _ _, Kept.refl _ _⟩
  · simp only [Option.isNone] at e1
    go_enter Try.func60, Try.ntmps60
    have r1 := Rd.alloc H.out (.cells #[] 5)
    have r2 : 0 + l.length ≤ maxLen := by simp only [maxLen]; omega
    go_wp2_with (at_builtin; go_must (refine wpList_append_rd _ rfl _ _ 30 rfl w.heap.size 5 i0 _ 1 1 Try.underlying30 hi hz0 hz1 hz2 rfl (by decide) _ 0 [] rfl (World.ownsRow_made w #[] 0 (Nat.le_refl _) (by decide) (by rfl)) _ l.length (l.map bv) rfl r1 (bvs_one l) r2 (by omega) (by simp) ?_); intro A1 cap1 w1 hown hg hat)
    go_ret
    simp only [Nat.zero_add, List.nil_append] at hown hat ⊢
    exact ⟨A1, cap1, rfl, hown, ((Kept.refl _ _).alloc _).grown hg (by intro k hk e; cases e; exact absurd hk (Nat.lt_irrefl _))⟩

/-- The answer of check. -/
def checkOf (off : Bool) (i : Int) : Int := if off then 220 else if i < 0 ∨ 8 ≤ i then 1 else 0

set_option maxHeartbeats 400000 in
theorem check_any (B : Nat) (off : Bool) (i : Int) (w : World) (h : w.cell? ⟨B, 17, none⟩ = some (.bool off)) :
    Calls Try.prog 59 #[.pointer (some ⟨B, 0, none⟩), .int .i64 i] w fun e w' => e = .returned (.int .i64 (checkOf off i)) ∧ w = w' := by
  cases off with
  | true =>
    go_enter Try.func59, Try.ntmps59
    go_wp2
    go_ret
    exact ⟨rfl, rfl⟩
  | false =>
    by_cases h1 : i < 0
    · go_enter Try.func59, Try.ntmps59
      go_wp2
      go_ret
      exact ⟨by simp [checkOf, h1], rfl⟩
    · by_cases h2 : 8 ≤ i
      · go_enter Try.func59, Try.ntmps59
        go_wp2
        go_ret
        exact ⟨by simp [checkOf, h2], rfl⟩
      · go_enter Try.func59, Try.ntmps59
        go_wp2
        go_ret
        exact ⟨by simp [checkOf, h1, h2], rfl⟩

set_option maxHeartbeats 400000 in
theorem off_any (B : Nat) (off : Bool) (w : World) (h : w.cell? ⟨B, 17, none⟩ = some (.bool off)) :
    Calls Try.prog 15 #[.pointer (some ⟨B, 0, none⟩)] w fun e w' => e = .returned (.bool off) ∧ w = w' := by
  go_enter Try.func15, Try.ntmps15
  go_wp2
  go_ret
  exact ⟨rfl, rfl⟩

theorem used_take (fs : List File) (k : Nat) (f : File) (h : fs[k]? = some f) : used (fs.take (k + 1)) = used (fs.take k) + f.l.length := by
  rw [List.take_add_one, h]
  simp [used]
theorem used_append (a b : List File) : used (a ++ b) = used a + used b := by simp [used]
theorem used_take_le (fs : List File) (k : Nat) : used (fs.take k) ≤ used fs := by
  have h := used_append (fs.take k) (fs.drop k)
  rw [List.take_append_drop] at h
  omega

set_option maxHeartbeats 800000 in
theorem used_any (base B : Nat) (room plan : Int) (fs : List File) (off : Bool) (w : World) (h : Dsk w base B room fs off plan) :
    Calls Try.prog 17 #[.pointer (some ⟨B, 0, none⟩)] w fun e w' => e = .returned (.int .i64 (used fs)) ∧ w = w' := by
  have H := Lib.hid h
  have hu : (used fs : Int) ≤ 16777216 := by have := h.fits; have := h.room1; omega
  clear h
  go_enter Try.func17, Try.ntmps17
  go_wp2_with fail
  go_loop [3, 5] (fun s i => ∃ k : Nat, k ≤ 8 ∧ i = .int .i64 k ∧ s = .int .i64 (used (fs.take k))) (fun _ i => 8 - (intOf i).toNat)
  case atStart => exact ⟨0, by omega, rfl, rfl⟩
  case round =>
    obtain ⟨k, hk, rfl, rfl⟩ := hrel
    have hle := used_take_le fs k
    by_cases hlt : k < 8
    · obtain ⟨f, hf⟩ : ∃ f, fs[k]? = some f := ⟨fs[k]'(by rw [H.out.len]; exact hlt), List.getElem?_eq_getElem (by rw [H.out.len]; exact hlt)⟩
      obtain ⟨c1, -⟩ := H.out.c_file hf
      obtain ⟨A, cap, hv⟩ := own_form (H.out.files f (List.mem_of_getElem? hf)).1
      rw [hv] at c1
      have hs := used_take fs k f hf
      have hle2 := used_take_le fs (k + 1)
      have h0 : (0 : Int) ≤ (k : Int) := by omega
      have h1 : (k : Int) < 8 := by omega
      have HS := Lib.hid hs
      have hsum : used (fs.take k) + f.l.length ≤ 16777216 := by omega
      clear hs hv hf hle2
      go_wp2
      go_round
      case rel => exact ⟨k + 1, by omega, by go_num, by rw [HS.out]; go_num⟩
      case measure => simp [intOf]; omega
    · have hk8 : ¬ (k : Int) < 8 := by omega
      obtain rfl : k = 8 := by omega
      have ht : fs.take 8 = fs := List.take_of_length_le (by rw [H.out.len]; omega)
      rw [ht]
      go_wp2
      go_ret
      exact ⟨rfl, rfl⟩

end Go.Proofs.Yteoodgcpkgfomaa
