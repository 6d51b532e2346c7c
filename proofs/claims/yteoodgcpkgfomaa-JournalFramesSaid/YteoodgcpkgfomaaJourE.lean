/-
  Journal: what it is in memory; load.
-/
import Derived.Test.YteoodgcpkgfomaaJourD
namespace Go.Proofs.Yteoodgcpkgfomaa
open Go.RowKit Go.Shelf
attribute [local go_sem] Oper.semAt_some
set_option linter.unusedVariables false

def jCells (B : Nat) (file : Int) (rv ev : Value) (off : Bool) : Array Value := #[.pointer (some ⟨B, 0, none⟩), .int .i64 file, rv, ev, .bool off]
def eVal (rs : List (List UInt8)) : List Value := (endsFrom 0 rs).map fun (n : Nat) => Value.int .i64 (n : Int)
theorem eVal_snoc (rs : List (List UInt8)) (b : List UInt8) : eVal (rs ++ [b]) = eVal rs ++ [.int .i64 ((frames (rs ++ [b])).length : Nat)] := by
  rw [eVal, ends_snoc, List.map_append, frames_snoc, List.length_append]; rfl
def nilV : Value := .slice none 0 0

/-- The row of the records. -/
structure RR (w : World) (base : Nat) (rv : Value) (us : List Value) (rs : List (List UInt8)) : Prop where
  row : w.ownsRow base 30 1 rv rs.length us
  recs : ∀ (i : Nat) (x : Value) (b : List UInt8), us[i]? = some x → rs[i]? = some b → RecIn w base x b
/-- The row of the ends. -/
def ER (w : World) (base : Nat) (ev : Value) (rs : List (List UInt8)) : Prop := w.ownsRow base 3 1 ev rs.length (eVal rs)

section
variable {w w' : World} {base : Nat} {rv ev : Value} {us : List Value} {rs : List (List UInt8)} {S : Nat → Prop}
theorem RR.len (h : RR w base rv us rs) : us.length = rs.length := by have := h.row.1; omega
theorem RR.at (h : RR w base rv us rs) {u : Value} (hu : u ∈ us) : ∃ b, RecIn w base u b := by
  obtain ⟨i, hi⟩ := List.mem_iff_getElem?.1 hu
  have hl := h.len
  have hlt : i < us.length := (List.getElem?_eq_some_iff.1 hi).1
  exact ⟨_, h.recs i u _ hi (List.getElem?_eq_getElem (by omega))⟩
theorem RR.kept (h : RR w base rv us rs) (hk : Kept S w w') (h1 : ∀ k, rv.ownBlock = some k → ¬ S k) (h2 : ∀ u ∈ us, ∀ k, u.ownBlock = some k → ¬ S k) : RR w' base rv us rs :=
  ⟨own_kept h.row hk h1, fun i x b hx hb => (h.recs i x b hx hb).kept hk (h2 x (List.mem_of_getElem? hx))⟩
theorem RR.kept0 (h : RR w base rv us rs) (hk : Kept Kno w w') : RR w' base rv us rs := h.kept hk (fun _ _ h => h) (fun _ _ _ _ h => h)
theorem RR.rebase {base' : Nat} (h : RR w base rv us rs) (hb : base' ≤ base) : RR w base' rv us rs :=
  ⟨own_rebase h.row (fun k e => Nat.le_trans hb (own_base h.row e).1), fun i x b hx hb' => (h.recs i x b hx hb').rebase hb⟩
theorem ER.kept (h : ER w base ev rs) (hk : Kept S w w') (h1 : ∀ k, ev.ownBlock = some k → ¬ S k) : ER w' base ev rs := own_kept h hk h1
theorem ER.kept0 (h : ER w base ev rs) (hk : Kept Kno w w') : ER w' base ev rs := h.kept hk (fun _ _ h => h)
theorem ER.rebase {base' : Nat} (h : ER w base ev rs) (hb : base' ≤ base) : ER w base' ev rs := own_rebase h (fun k e => Nat.le_trans hb (own_base h e).1)
/-- Blocks of bytes, of slices and of numbers are not one. -/
theorem RR.rv_ev (h : RR w base rv us rs) {rs' : List (List UInt8)} (h' : ER w base ev rs') {k : Nat} (hk : rv.ownBlock = some k) : ev.ownBlock ≠ some k := fun e => absurd ((own_bt h.row hk).one (own_bt h' e)) (by decide)
theorem RR.u_rv (h : RR w base rv us rs) {u : Value} {b : List UInt8} (hu : RecIn w base u b) {k : Nat} (hk : u.ownBlock = some k) : rv.ownBlock ≠ some k := fun e => absurd ((own_bt h.row e).one (hu.2 k hk).2) (by decide)
theorem ER.u_ev (h : ER w base ev rs) {u : Value} {b : List UInt8} (hu : RecIn w base u b) {k : Nat} (hk : u.ownBlock = some k) : ev.ownBlock ≠ some k := fun e => absurd ((own_bt h e).one (hu.2 k hk).2) (by decide)
/-- The records grow by one. -/
theorem RR.grow (h : RR w base rv us rs) {v' x : Value} {b : List UInt8} (hx : RecIn w base x b) (hg : w.grownBy w' rv.ownBlock) (hown : w'.ownsRow base 30 1 v' (rs.length + 1) (us ++ [x])) : RR w' base v' (us ++ [x]) (rs ++ [b]) := by
  have hk : Kept (Kown rv) w w' := (Kept.refl (Kown rv) w).grown hg (fun k _ e => e)
  refine ⟨by rw [List.length_append]; exact hown, fun i u c hu hc => ?_⟩
  have hl := h.len
  rcases Nat.lt_or_ge i us.length with hi | hi
  · rw [List.getElem?_append_left hi] at hu
    rw [List.getElem?_append_left (by omega)] at hc
    exact (h.recs i u c hu hc).kept hk (fun k e e' => h.u_rv (h.recs i u c hu hc) e e')
  · rw [List.getElem?_append_right hi] at hu
    rw [List.getElem?_append_right (by omega)] at hc
    have h0 : i - us.length = 0 := by
      rcases Nat.eq_zero_or_pos (i - us.length) with h0 | h0
      · exact h0
      · rw [List.getElem?_eq_none (by simp; omega)] at hu; cases hu
    rw [h0] at hu
    rw [show i - rs.length = 0 by omega] at hc
    simp only [List.getElem?_cons_zero, Option.some.injEq] at hu hc
    subst hu hc
    exact hx.kept hk (fun k e e' => h.u_rv hx e e')
end

/-- What stands still while load reads: the journal's block, its own boxes, the loop's blocks. -/
structure LF (w0 W : World) (J B : Nat) (file : Int) (v rv ev a b : Value) (st : Obj) : Prop where
  k : Kept (Kone J) w0 W
  jb : Blk W J 90 (jCells B file rv ev false)
  d0 : Blk W w0.heap.size 50 #[.pointer (some ⟨J, 0, none⟩)]
  d1 : Blk W (w0.heap.size + 1) 3 #[a]
  d2 : Blk W (w0.heap.size + 2) 4 #[b]
  d3 : Blk W (w0.heap.size + 3) 30 #[v]
  d4 : W.heap[w0.heap.size + 4]? = some (.deferred (some []))
  d5 : W.heap[w0.heap.size + 5]? = some st
  lt : J < w0.heap.size

section
variable {w0 W W' : World} {J B : Nat} {file : Int} {v rv ev a b : Value} {st : Obj} {S : Nat → Prop}
theorem LF.kept (h : LF w0 W J B file v rv ev a b st) (hk : Kept S W W') (hS : ∀ k, k < w0.heap.size + 6 → ¬ S k) : LF w0 W' J B file v rv ev a b st := by
  have hlt := h.lt
  have h5 : w0.heap.size + 5 < W.heap.size := (Array.getElem?_eq_some_iff.1 h.d5).1
  exact ⟨h.k.trans hk (fun i hi hs => absurd hs (hS i (by omega))), h.jb.kept hk (hS _ (by omega)), h.d0.kept hk (hS _ (by omega)), h.d1.kept hk (hS _ (by omega)), h.d2.kept hk (hS _ (by omega)), h.d3.kept hk (hS _ (by omega)),
    (hk.block _ (by omega) (hS _ (by omega))).trans h.d4, (hk.block _ h5 (hS _ (by omega))).trans h.d5, hlt⟩
theorem LF.kept0 (h : LF w0 W J B file v rv ev a b st) (hk : Kept Kno W W') : LF w0 W' J B file v rv ev a b st := h.kept hk (fun _ _ h => h)
theorem LF.size (h : LF w0 W J B file v rv ev a b st) : w0.heap.size + 6 ≤ W.heap.size := (Array.getElem?_eq_some_iff.1 h.d5).1
theorem LF.set_rv (h : LF w0 W J B file v rv ev a b st) (v' : Value) : LF w0 (W.setCell ⟨J, 2, none⟩ v') J B file v v' ev a b st := by
  have hlt := h.lt
  refine ⟨h.k.setIn (p := ⟨J, 2, none⟩) (Eq.refl J) _, h.jb.set_ 2 v', h.d0.far (by simp; omega) _, h.d1.far (by simp; omega) _, h.d2.far (by simp; omega) _, h.d3.far (by simp; omega) _, ?_, ?_, hlt⟩
  · exact (Below.heap_setCell W ⟨J, 2, none⟩ v' _ (by simp; omega)).trans h.d4
  · exact (Below.heap_setCell W ⟨J, 2, none⟩ v' _ (by simp; omega)).trans h.d5
theorem LF.set_ev (h : LF w0 W J B file v rv ev a b st) (v' : Value) : LF w0 (W.setCell ⟨J, 3, none⟩ v') J B file v rv v' a b st := by
  have hlt := h.lt
  refine ⟨h.k.setIn (p := ⟨J, 3, none⟩) (Eq.refl J) _, h.jb.set_ 3 v', h.d0.far (by simp; omega) _, h.d1.far (by simp; omega) _, h.d2.far (by simp; omega) _, h.d3.far (by simp; omega) _, ?_, ?_, hlt⟩
  · exact (Below.heap_setCell W ⟨J, 3, none⟩ v' _ (by simp; omega)).trans h.d4
  · exact (Below.heap_setCell W ⟨J, 3, none⟩ v' _ (by simp; omega)).trans h.d5
theorem Kept.putObj {a W : World} (h : Kept S a W) {l : Nat} (hl : l < a.heap.size → S l) (o : Obj) : Kept S a (W.putObj l o) :=
  ⟨h.os, h.tape, h.output, by simpa using h.size, fun i hi hS => (World.putObj_heap_other (by rintro rfl; exact hS (hl hi))).trans (h.block i hi hS)⟩
theorem Blk.putObj {w : World} {g l : Nat} {t : TypeId} {cs : Array Value} (h : Blk w g t cs) (hne : g ≠ l) (o : Obj) : Blk (w.putObj l o) g t cs := (World.putObj_heap_other hne).trans h
theorem LF.put (h : LF w0 W J B file v rv ev a b st) (st' : Obj) : LF w0 (W.putObj (w0.heap.size + 5) st') J B file v rv ev a b st' := by
  have hlt := h.lt
  have hsz := h.size
  exact ⟨h.k.putObj (fun hl => absurd hl (by omega)) _, h.jb.putObj (by omega) _, h.d0.putObj (by omega) _, h.d1.putObj (by omega) _, h.d2.putObj (by omega) _, h.d3.putObj (by omega) _, (World.putObj_heap_other (by omega)).trans h.d4, World.putObj_heap_same (by omega), hlt⟩
theorem kept_put (W : World) (l : Nat) (o : Obj) : Kept (Kone l) W (W.putObj l o) := (Kept.refl (Kone l) W).putObj (fun _ => rfl) o
end

/-- The state of load between two rounds. -/
def LoadI (w0 : World) (J B : Nat) (file : Int) (v a b : Value) (st : Obj) (rs es : List (List UInt8)) (W : World) : Prop :=
  ∃ rv ev us, LF w0 W J B file v rv ev a b st ∧ RR W (w0.heap.size + 6) rv us rs ∧ ER W (w0.heap.size + 6) ev es
theorem LoadI.kept0 {w0 W W' : World} {J B : Nat} {file : Int} {v a b : Value} {st : Obj} {rs es : List (List UInt8)} (h : LoadI w0 J B file v a b st rs es W) (hk : Kept Kno W W') : LoadI w0 J B file v a b st rs es W' := by
  obtain ⟨rv, ev, us, h1, h2, h3⟩ := h
  exact ⟨rv, ev, us, h1.kept0 hk, h2.kept0 hk, h3.kept0 hk⟩
theorem LoadI.put {w0 W : World} {J B : Nat} {file : Int} {v a b : Value} {st : Obj} {rs es : List (List UInt8)} (h : LoadI w0 J B file v a b st rs es W) (st' : Obj) : LoadI w0 J B file v a b st' rs es (W.putObj (w0.heap.size + 5) st') := by
  obtain ⟨rv, ev, us, h1, h2, h3⟩ := h
  have hk := kept_put W (w0.heap.size + 5) st'
  refine ⟨rv, ev, us, h1.put st', h2.kept hk (fun k e e' => ?_) (fun u hu k e e' => ?_), h3.kept hk (fun k e e' => ?_)⟩
  · have := (own_base h2.row e).1; unfold Kone at e'; omega
  · obtain ⟨b, hb⟩ := h2.at hu
    have := (hb.2 k e).1; unfold Kone at e'; omega
  · have := (own_base h3 e).1; unfold Kone at e'; omega

end Go.Proofs.Yteoodgcpkgfomaa
