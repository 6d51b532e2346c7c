/-
  Cases: Cells, New.
-/
import Derived.Test.YtffdaohmalmkfaaGreatCase2
namespace Go.Proofs.YtffdaohmalmkfaaGreat
open Go.RowKit
set_option linter.unusedVariables false

theorem info_val : (Tryz.prog.info? 49).map (fun i => (i.zero, i.size, i.bytes)) = some (some (.agg #[.int .i64 0, .int .i64 0, .string ⟨#[]⟩]), 3, 32) := by kernel_rfl

def vCells (x : Val) : List Value := [.int .i64 x.kind, .int .i64 x.n, .string x.s]
def rowC (xs : List Val) : List Value := xs.flatMap vCells
theorem rowC_length (xs : List Val) : (rowC xs).length = xs.length * 3 := by
  induction xs with
  | nil => rfl
  | cons c cs ih => simp only [rowC, List.flatMap_cons, List.length_append, List.length_cons] at ih ⊢; rw [ih]; simp [vCells]; omega
theorem rowC_get (xs : List Val) (i m : Nat) (c : Val) (h : xs[i]? = some c) (hm : m < 3) : (rowC xs)[i * 3 + m]? = (vCells c)[m]? := by
  induction xs generalizing i with
  | nil => simp at h
  | cons d cs ih =>
    simp only [rowC, List.flatMap_cons]
    cases i with
    | zero =>
      simp at h; subst h
      rw [List.getElem?_append_left (by simp [vCells]; omega), Nat.zero_mul, Nat.zero_add]
    | succ i =>
      rw [List.getElem?_append_right (by simp [vCells]; omega)]
      have := ih i (by simpa using h)
      rw [show (i + 1) * 3 + m - (vCells d).length = i * 3 + m by simp [vCells]; omega]
      exact this

/-- A row of the law's own. -/
def OwnR (w : World) (base : Nat) (v : Value) (xs : List Val) : Prop := w.ownsRow base 49 3 v xs.length (rowC xs)
theorem OwnR.row {w : World} {base : Nat} {v : Value} {xs : List Val} (h : OwnR w base v xs) (hok : ∀ x ∈ xs, okVal x) : RowIn w v xs := by
  rcases h.2 with ⟨h3, h4⟩ | ⟨g, cap, cur, h3, hb, hh, hnc, hcm, hs, ht⟩
  · subst h3
    refine ⟨none, 0, by rw [h4], by omega, by simp, fun h => by omega, hok⟩
  · subst h3
    refine ⟨some ⟨g, 0, none⟩, cap, rfl, hnc, hcm, fun _ => ⟨g, 0, rfl, fun i x hx => ?_⟩, hok⟩
    have hi : i < xs.length := (List.getElem?_eq_some_iff.1 hx).1
    have key : ∀ m, m < 3 → w.cell? ⟨g, i * 3 + m, none⟩ = (vCells x)[m]? := by
      intro m hm
      rw [cell_of_row w g _ cur _ (0, 0) hh, ← rowC_get xs i m x hx hm, ← ht, List.getElem?_take, if_pos (by omega)]
      simp
    have k0 := key 0 (by omega)
    have k1 := key 1 (by omega)
    have k2 := key 2 (by omega)
    simp only [vCells, List.getElem?_cons_zero, List.getElem?_cons_succ, Nat.add_zero] at k0 k1 k2
    rw [Nat.zero_add]
    exact ⟨k0, k1, k2⟩

def CellsOk (K : Nat) (v : Value) (l : List UInt8) (n : Nat) (w : World) (e : Ending) (w' : World) : Prop :=
  ∃ A cap xs, e = .returned (.slice A xs.length cap) ∧ OwnR w' w.heap.size (.slice A xs.length cap) xs ∧ xs.length = n ∧ (∀ x ∈ xs, ValOk x) ∧ Goes K v l w w'
def CellsRel (K : Nat) (v : Value) (n : Nat) (w : World) (nv out : Value) (wr : World) : Prop :=
  ∃ (j : Nat) (A : Option Addr) (cap : Nat) (xs : List Val) (a : Nat), nv = .int .i64 j ∧ out = .slice A xs.length cap ∧ OwnR wr w.heap.size (.slice A xs.length cap) xs ∧ xs.length + j = n ∧ (∀ x ∈ xs, ValOk x) ∧ Blk wr K 79 #[v, .int .i64 (a : Int)] ∧ Kept (Kone K) w wr

def NewOk (w : World) (e : Ending) (w' : World) : Prop := ∃ K v l, e = .returned (.pointer (some ⟨K, 0, none⟩)) ∧ CaseIs w' K v l 0 ∧ w.heap.size ≤ K ∧ Kept Kno w w'

set_option maxHeartbeats 1000000 in
theorem newCase_any (v : Value) (l : List UInt8) (w : World) (h : Bs w v l) (hl : l.length ≤ maxLen) :
    Calls Tryz.prog 7 #[v, .int .i64 90] w (NewOk w) := by
  obtain ⟨i0, hi, hz0, hz1, hz2⟩ := info_parts info_byte
  have H := Lib.hid h
  obtain ⟨A, cap, rfl, hlc, -⟩ := h
  have hmin : (if (90 : Int) < (l.length : Int) then (90 : Int) else (l.length : Int)) = ((min l.length 90 : Nat) : Int) := min_natw l.length 90
  have q1 : min l.length 90 ≤ l.length := Nat.min_le_left _ _
  have q2 : min l.length 90 ≤ 90 := Nat.min_le_right _ _
  have hcut := Bs.cut H.out q1
  generalize min l.length 90 = m at hmin q1 q2 hcut
  have hlm : (l.take m).length = m := by rw [List.length_take]; omega
  generalize l.take m = L at hcut hlm
  subst hlm
  have HCUT := Lib.hid hcut
  have q3 : L.length ≤ cap := by omega
  have q4 : (L.length : Int) ≤ (cap : Int) := by omega
  have q5 : (0 : Int) ≤ (L.length : Int) := by omega
  have n60 : l.length ≤ 9223372036854775807 := by simp only [maxLen] at hl; omega
  have r2 : 0 + L.length ≤ maxLen := by simp only [maxLen]; omega
  clear hcut
  go_enter Tryz.func7, Tryz.ntmps7
  go_wp2_with (at_builtin; go_must (refine wpList_append_rd _ rfl _ _ 22 rfl w.heap.size 5 i0 _ 1 1 Tryz.underlying22 hi hz0 hz1 hz2 rfl (by decide) (.slice none 0 0) 0 [] rfl (World.ownsRow_nil _ _ _ _) _ L.length (L.map bv) rfl HCUT.out (bvs_one L) r2 (by omega) (Nat.le_refl _) ?_); intro A1 cap1 w1 hown hg hat)
  simp only [Nat.zero_add, List.nil_append] at hown hat ⊢
  have hk1 : Kept Kno w w1 := (Kept.refl _ _).grown hg (fun k hk e => by cases e)
  go_ret
  refine ⟨w1.heap.size, .slice A1 L.length cap1, L, rfl, ⟨Blk.new _ _ _, Rd.alloc (OwnB.bs hown) _, by omega⟩, hk1.size, hk1.alloc _⟩

end Go.Proofs.YtffdaohmalmkfaaGreat
