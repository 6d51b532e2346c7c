/-
  Disk: the disk as its document knows it, step by step; every method at every argument.
-/
import Derived.Test.YteoodgcpkgfomaaDiskF2
import Derived.Test.YteoodgcpkgfomaaDiskG
import Derived.Test.YteoodgcpkgfomaaDiskG2
import Derived.Test.YteoodgcpkgfomaaDiskI
namespace Go.Proofs.Yteoodgcpkgfomaa
open Go.RowKit
set_option linter.unusedVariables false

namespace Ab
def file (a : Ab) (i : Nat) : List UInt8 × Nat := a.fs.getD i ([], 0)
def used (a : Ab) : Nat := (a.fs.map fun p => p.1.length).sum
def append (a : Ab) (i : Int) (lb : List UInt8) : Ab × Int :=
  if checkOf a.off i ≠ 0 then (a, checkOf a.off i)
  else if a.room - (a.used : Int) < lb.length then (a, 221)
  else gateOf a true i.toNat ((a.file i.toNat).1 ++ lb, (a.file i.toNat).2)
def trunc (a : Ab) (i n : Int) : Ab × Int :=
  if checkOf a.off i ≠ 0 then (a, checkOf a.off i)
  else if n < 0 ∨ ((a.file i.toNat).1.length : Int) < n then (a, 1)
  else gateOf a false i.toNat ((a.file i.toNat).1.take n.toNat, n.toNat)
def replace (a : Ab) (i : Int) (lb : List UInt8) : Ab × Int :=
  if checkOf a.off i ≠ 0 then (a, checkOf a.off i)
  else if a.room - ((a.used : Int) - (a.file i.toNat).1.length) < lb.length then (a, 221)
  else gateOf a false i.toNat (lb, lb.length)
def sync (a : Ab) (i : Int) : Ab × Int :=
  if checkOf a.off i ≠ 0 then (a, checkOf a.off i)
  else gateOf a false i.toNat ((a.file i.toNat).1, (a.file i.toNat).1.length)
def fail (a : Ab) (n : Int) : Ab := if a.off then a else ⟨a.room, a.fs, a.off, if 0 < n then n else 0⟩
def crash (a : Ab) (ks : List Int) : Ab := ⟨a.room, crashTo 8 a.fs ks, false, 0⟩
end Ab

/-- The disk in memory is the disk a. -/
def Is (w : World) (base B : Nat) (fs : List File) (a : Ab) : Prop := Dsk w base B a.room fs a.off a.plan ∧ fs.map File.ab = a.fs

/-- What a call that returns a code leaves. -/
def Ret (base B : Nat) (fs : List File) (p : Ab × Int) (w : World) (e : Ending) (w' : World) : Prop := e = .returned (.int .i64 p.2) ∧ Turn base B fs p.1 w w'

section
variable {w w' : World} {base B : Nat} {fs : List File} {a : Ab}
theorem Is.kept0 (h : Is w base B fs a) (hk : Kept Kno w w') : Is w' base B fs a := ⟨h.1.kept0 hk, h.2⟩
theorem Is.used (h : Is w base B fs a) : Go.Proofs.Yteoodgcpkgfomaa.used fs = a.used := by rw [used_ab, h.2]; rfl
theorem Is.len (h : Is w base B fs a) : a.fs.length = 8 := by rw [← h.2, List.length_map]; exact h.1.len
theorem Is.file (h : Is w base B fs a) {i : Nat} (hi : i < 8) : ∃ f, fs[i]? = some f ∧ a.file i = f.ab := by
  have hl := h.1.len
  refine ⟨fs[i]'(by omega), List.getElem?_eq_getElem (by omega), ?_⟩
  simp only [Ab.file, ← h.2, List.getD, List.getElem?_map, List.getElem?_eq_getElem (show i < fs.length by omega), Option.map_some, Option.getD_some]
theorem Is.turn0 (h : Is w base B fs a) (hk : Kept Kno w w') : Turn base B fs a w w' := by
  obtain ⟨h1, h2⟩ := h
  obtain ⟨room, afs, off, plan⟩ := a
  simp only at h1 h2
  subst h2
  exact (h1.kept0 hk).turn0 (hk.mono (fun _ _ e => e.elim))
theorem check_range {off : Bool} {i : Int} (h : ¬ checkOf off i ≠ 0) : off = false ∧ 0 ≤ i ∧ i < 8 := by
  simp only [checkOf] at h
  cases off with
  | true => simp at h
  | false =>
    by_cases hi : i < 0 ∨ 8 ≤ i
    · simp [hi] at h
    · exact ⟨rfl, by omega, by omega⟩

theorem dsk_no_byte {room plan : Int} {off : Bool} (h : Dsk w base B room fs off plan) {p : Addr} {x : Int} (hc : w.cell? p = some (.int .u8 x)) : p.block ≠ B := by
  obtain ⟨g, o, spot⟩ := p
  rintro rfl
  have hs := World.cell?_spot hc
  simp only at hs
  subst hs
  rw [h.blk.cell] at hc
  have hm := List.mem_of_getElem? (by simpa using hc : (dCells room fs off plan)[o]? = some (.int .u8 x))
  simp only [dCells, fCells, List.mem_cons, List.mem_append, List.mem_flatMap, List.not_mem_nil, or_false] at hm
  rcases hm with hm | ⟨f, hf, hm | hm⟩ | hm | hm
  · cases hm
  · obtain ⟨A, cap, hv⟩ := own_form (h.files f hf).1
    rw [hv] at hm; cases hm
  · cases hm
  · cases hm
  · cases hm
theorem Dsk.bs {room plan : Int} {off : Bool} (h : Dsk w base B room fs off plan) {v : Value} {l : List UInt8} (hb : Bs w v l) (w1 : World) (hk : Kept (Kone B) w w1) : Bs w1 v l := by
  obtain ⟨A, cap, rfl, h1, h2, h3, h4⟩ := hb
  refine ⟨A, cap, rfl, h1, h2, h3, fun ad hA j u hj => ?_⟩
  have hc := h4 ad hA j u hj
  rw [List.getElem?_map] at hj
  cases hq : l[j]? with
  | none => rw [hq] at hj; cases hj
  | some c =>
    rw [hq] at hj
    simp only [Option.map_some, Option.some.injEq] at hj
    subst hj
    exact hk.cell_some hc (fun e => dsk_no_byte h hc e)

theorem append_any (i : Int) (v : Value) (lb : List UInt8) (h : Is w base B fs a) (hb : Bs w v lb) :
    Calls Try.prog 33 #[.pointer (some ⟨B, 0, none⟩), .int .i64 i, v] w (Ret base B fs (a.append i lb) w) := by
  have hbs := h.1.bs hb
  obtain ⟨A, cap, rfl, -⟩ := hb
  unfold Ab.append
  by_cases hc : checkOf a.off i ≠ 0
  · rw [if_pos hc]
    exact (append_no base B a.room a.plan fs a.off i _ A lb.length cap w h.1 rfl hc).mono fun e w' ⟨x, y⟩ => ⟨x, h.turn0 y⟩
  · rw [if_neg hc]
    obtain ⟨h1, h2, h3⟩ := check_range hc
    obtain ⟨n, rfl⟩ : ∃ n : Nat, i = n := ⟨i.toNat, by omega⟩
    obtain ⟨f, hf, haf⟩ := h.file (i := n) (by omega)
    have hu := h.used
    obtain ⟨room, afs, off, plan⟩ := a
    obtain ⟨hd, rfl⟩ := h
    simp only at h1 hd
    subst h1
    by_cases hn : room - (used fs : Int) < lb.length
    · rw [if_pos (by rw [← hu]; exact hn)]
      exact (append_full base B n room plan fs A lb.length cap w hd (by omega) hn).mono fun e w' ⟨x, y⟩ => ⟨x, (hd.kept0 y).turn0 (y.mono (fun _ _ e => e.elim))⟩
    · rw [if_neg (by rw [← hu]; exact hn), Int.toNat_natCast, haf]
      exact append_yes base B n room plan fs f A lb cap w hd (by omega) hf (by omega) hbs

theorem replace_any (i : Int) (v : Value) (lb : List UInt8) (h : Is w base B fs a) (hb : Bs w v lb) :
    Calls Try.prog 34 #[.pointer (some ⟨B, 0, none⟩), .int .i64 i, v] w (Ret base B fs (a.replace i lb) w) := by
  have hbs := h.1.bs hb
  obtain ⟨A, cap, rfl, -⟩ := hb
  unfold Ab.replace
  by_cases hc : checkOf a.off i ≠ 0
  · rw [if_pos hc]
    exact (replace_no base B a.room a.plan fs a.off i _ A lb.length cap w h.1 rfl hc).mono fun e w' ⟨x, y⟩ => ⟨x, h.turn0 y⟩
  · rw [if_neg hc]
    obtain ⟨h1, h2, h3⟩ := check_range hc
    obtain ⟨n, rfl⟩ : ∃ n : Nat, i = n := ⟨i.toNat, by omega⟩
    obtain ⟨f, hf, haf⟩ := h.file (i := n) (by omega)
    have hu := h.used
    obtain ⟨room, afs, off, plan⟩ := a
    obtain ⟨hd, rfl⟩ := h
    simp only at h1 hd
    subst h1
    rw [Int.toNat_natCast, haf]
    by_cases hn : room - ((used fs : Int) - f.l.length) < lb.length
    · rw [if_pos (by rw [← hu]; exact hn)]
      exact (replace_full base B n room plan fs f A lb.length cap w hd (by omega) hf hn).mono fun e w' ⟨x, y⟩ => ⟨x, (hd.kept0 y).turn0 (y.mono (fun _ _ e => e.elim))⟩
    · rw [if_neg (by rw [← hu]; exact hn)]
      exact replace_yes base B n room plan fs f A lb cap w hd (by omega) hf (by omega) hbs

theorem trunc_any (i n : Int) (h : Is w base B fs a) :
    Calls Try.prog 52 #[.pointer (some ⟨B, 0, none⟩), .int .i64 i, .int .i64 n] w (Ret base B fs (a.trunc i n) w) := by
  unfold Ab.trunc
  by_cases hc : checkOf a.off i ≠ 0
  · rw [if_pos hc]
    exact (trunc_no base B a.room a.plan fs a.off i _ n w h.1 rfl hc).mono fun e w' ⟨x, y⟩ => ⟨x, h.turn0 y⟩
  · rw [if_neg hc]
    obtain ⟨h1, h2, h3⟩ := check_range hc
    obtain ⟨m, rfl⟩ : ∃ n : Nat, i = n := ⟨i.toNat, by omega⟩
    obtain ⟨f, hf, haf⟩ := h.file (i := m) (by omega)
    obtain ⟨room, afs, off, plan⟩ := a
    obtain ⟨hd, rfl⟩ := h
    simp only at h1 hd
    subst h1
    rw [Int.toNat_natCast, haf]
    by_cases hn : n < 0 ∨ (f.l.length : Int) < n
    · rw [if_pos (show n < 0 ∨ (f.ab.1.length : Int) < n from hn)]
      exact (trunc_bad base B m room plan fs f n w hd (by omega) hf hn).mono fun e w' ⟨x, y⟩ => ⟨x, (hd.kept0 y).turn0 (y.mono (fun _ _ e => e.elim))⟩
    · rw [if_neg (show ¬ (n < 0 ∨ (f.ab.1.length : Int) < n) from hn)]
      obtain ⟨k, rfl⟩ : ∃ k : Nat, n = k := ⟨n.toNat, by omega⟩
      rw [Int.toNat_natCast]
      exact trunc_yes base B m k room plan fs f w hd (by omega) hf (by omega)

theorem sync_any (i : Int) (h : Is w base B fs a) :
    Calls Try.prog 53 #[.pointer (some ⟨B, 0, none⟩), .int .i64 i] w (Ret base B fs (a.sync i) w) := by
  unfold Ab.sync
  by_cases hc : checkOf a.off i ≠ 0
  · rw [if_pos hc]
    exact (sync_no base B a.room a.plan fs a.off i _ w h.1 rfl hc).mono fun e w' ⟨x, y⟩ => ⟨x, y ▸ h.turn0 (Kept.refl _ _)⟩
  · rw [if_neg hc]
    obtain ⟨h1, h2, h3⟩ := check_range hc
    obtain ⟨m, rfl⟩ : ∃ n : Nat, i = n := ⟨i.toNat, by omega⟩
    obtain ⟨f, hf, haf⟩ := h.file (i := m) (by omega)
    obtain ⟨room, afs, off, plan⟩ := a
    obtain ⟨hd, rfl⟩ := h
    simp only at h1 hd
    subst h1
    rw [Int.toNat_natCast, haf]
    exact sync_yes base B m room plan fs f w hd (by omega) hf

/-- What Read returns. -/
def Ab.read (a : Ab) (i : Int) : List UInt8 × Int := if checkOf a.off i ≠ 0 then ([], checkOf a.off i) else ((a.file i.toNat).1, 0)

theorem read_any (i : Int) (h : Is w base B fs a) :
    Calls Try.prog 19 #[.pointer (some ⟨B, 0, none⟩), .int .i64 i] w (RetRead (a.read i).1 (a.read i).2 w) := by
  unfold Ab.read
  by_cases hc : checkOf a.off i ≠ 0
  · rw [if_pos hc]
    exact (read_no base B a.room a.plan fs a.off i _ w h.1 rfl hc).mono fun e w' ⟨x, y⟩ => ⟨none, 0, x, World.ownsRow_nil _ _ _ _, y ▸ Kept.refl _ _⟩
  · rw [if_neg hc]
    obtain ⟨h1, h2, h3⟩ := check_range hc
    obtain ⟨m, rfl⟩ : ∃ n : Nat, i = n := ⟨i.toNat, by omega⟩
    obtain ⟨f, hf, haf⟩ := h.file (i := m) (by omega)
    obtain ⟨room, afs, off, plan⟩ := a
    obtain ⟨hd, rfl⟩ := h
    simp only at h1 hd
    subst h1
    rw [Int.toNat_natCast, haf]
    exact read_yes base B m room plan fs f w hd (by omega) hf

theorem size_any (i : Int) (h : Is w base B fs a) :
    Calls Try.prog 21 #[.pointer (some ⟨B, 0, none⟩), .int .i64 i] w fun e w' => e = .returned (.tuple #[.int .i64 ((a.read i).1.length : Nat), .int .i64 (a.read i).2]) ∧ w = w' := by
  unfold Ab.read
  by_cases hc : checkOf a.off i ≠ 0
  · rw [if_pos hc]
    exact size_no base B a.room a.plan fs a.off i _ w h.1 rfl hc
  · rw [if_neg hc]
    obtain ⟨h1, h2, h3⟩ := check_range hc
    obtain ⟨m, rfl⟩ : ∃ n : Nat, i = n := ⟨i.toNat, by omega⟩
    obtain ⟨f, hf, haf⟩ := h.file (i := m) (by omega)
    obtain ⟨room, afs, off, plan⟩ := a
    obtain ⟨hd, rfl⟩ := h
    simp only at h1 hd
    subst h1
    rw [Int.toNat_natCast, haf]
    exact size_yes base B m room plan fs f w hd (by omega) hf

theorem fail_any (n : Int) (hn : n ≤ 9223372036854775807) (h : Is w base B fs a) :
    Calls Try.prog 36 #[.pointer (some ⟨B, 0, none⟩), .int .i64 n] w fun e w' => e = .returned (.tuple #[]) ∧ Turn base B fs (a.fail n) w w' := by
  unfold Ab.fail
  cases ho : a.off with
  | true =>
    rw [if_pos rfl]
    exact (fail_off B n w (ho ▸ h.1.c_off)).mono fun e w' ⟨x, y⟩ => ⟨x, y ▸ h.turn0 (Kept.refl _ _)⟩
  | false =>
    rw [if_neg (by decide)]
    refine (fail_on B n a.plan w (ho ▸ h.1.c_off) h.1.c_plan (h.1.blk.frozen 18)).mono fun e w' ⟨x, y⟩ => ⟨x, ?_⟩
    subst y
    obtain ⟨room, afs, off, plan⟩ := a
    obtain ⟨hd, rfl⟩ := h
    simp only at ho hd
    subst ho
    exact (hd.set_plan (by split <;> omega) (by split <;> omega)).turn0 (Kept.setIn (S := Kone B) (Kept.refl _ _) (p := ⟨B, 18, none⟩) (Eq.refl B) _)

theorem crash_any (keep : Value) (ks : List Int) (h : Is w base B fs a) (hks : ∀ w1, Kept (Kone B) w w1 → KeepIn w1 keep ks) :
    Calls Try.prog 48 #[.pointer (some ⟨B, 0, none⟩), keep] w fun e w' => e = .returned (.tuple #[]) ∧ Turn base B fs (a.crash ks) w w' := by
  have := crash_loop base B a.room a.plan fs a.off keep ks w h.1 hks
  unfold Ab.crash
  rw [← h.2]
  exact this

theorem Turn.is {ab : Ab} (h : Turn base B fs ab w w') : ∃ fs', Is w' base B fs' ab ∧ Kept (DK B fs) w w' ∧ ∀ k, DK B fs' k → DK B fs k ∨ w.heap.size ≤ k := by
  obtain ⟨fs', h1, h2, h3, h4⟩ := h
  exact ⟨fs', ⟨h1, h2⟩, h3, h4⟩
theorem Is.low (h : Is w base B fs a) {k : Nat} (hk : DK B fs k) : base ≤ k ∧ k < w.heap.size := by
  rcases hk with rfl | ⟨f, hf, he⟩
  · exact ⟨h.1.low, h.1.blk.lt⟩
  · exact own_base (h.1.files f hf).1 he
/-- What a disk of the law's own may change is new. -/
theorem Is.kept {W : World} (h : Is w base B fs a) (hk : Kept Kno W w) (hb : W.heap.size ≤ base) (h2 : Kept (DK B fs) w w') : Kept Kno W w' :=
  hk.trans h2 (fun i hi hN => by have := (h.low hN).1; omega)
end

set_option maxHeartbeats 400000 in
theorem equal_any (v u : Value) (l m : List UInt8) (w : World) (hv : Bs w v l) (hu : Bs w u m) :
    Calls Try.prog 23 #[v, u] w fun e w' => e = .returned (.bool (decide (l = m))) ∧ w = w' := by
  have t1 := run_string_bs (P := Try.prog) 30 9 5 hv Try.underlying30 Try.underlying5 Try.underlying9
  have t2 := run_string_bs (P := Try.prog) 30 9 5 hu Try.underlying30 Try.underlying5 Try.underlying9
  clear hv hu
  by_cases h : l = m
  · subst h
    go_enter Try.func23, Try.ntmps23
    go_wp2
    go_ret
    exact ⟨by simp, rfl⟩
  · have e2 : decide (l = m) = false := by simp [h]
    rw [e2]
    have H := Lib.hid h
    clear e2
    go_enter Try.func23, Try.ntmps23
    go_wp2
    go_ret
    refine ⟨?_, rfl⟩
    have := H.out
    simp [this]

end Go.Proofs.Yteoodgcpkgfomaa
