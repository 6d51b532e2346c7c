/-
  Contracts and plain laws that the claim's theorem rests on, some texts in one file.
-/
import Derived.Test.YteoodgcpkgfomaaM7
import Derived.RecoverIn
/-
  Journal: load: the records of a file gathered by a range over the frames; the panic that ends it recovered.
-/
namespace Go.Proofs.Yteoodgcpkgfomaa
open Go.RowKit Go.Shelf
attribute [local go_sem] Oper.semAt_some
set_option linter.unusedVariables false

theorem stop_zero (w : World) : (zeroValue 102).run Try.prog w = .ok (.agg #[.int .i64 0, .bool false]) w := by
  have h : (Try.prog.info? 102).map (·.zero) = some (some (.agg #[.int .i64 0, .bool false])) := by kernel_rfl
  obtain ⟨i, hi, hz⟩ := Option.map_eq_some_iff.1 h
  simp [zeroValue, typeInfo, hi, hz]
theorem assert_stop (v : Value) (w : World) : (Instr.typeAssert (.iface 102 v) 20 102 true).run Try.prog w = .ok (.tuple #[v, .bool true]) w := by
  simp [Instr.typeAssert, run_underlying Try.underlying102, go_sem, Result.andThen]

set_option maxRecDepth 100000 in
set_option maxHeartbeats 400000 in
theorem loadD_idle (n : Nat) (p q : Addr) (w : World) :
    CallsDIn Fence.wide n Try.prog 78 #[.pointer (some p), .pointer (some q)] .returning w fun e u' w' => e = .returned (.tuple #[]) ∧ u' = .returning ∧ w' = w := by
  refine callsDIn_of_wpSIn Try.func78 rfl trivial fun c₀ cs hu => ?_
  apply wpSIn_seq
  apply wpSIn_region
  simp [wpOpsSIn, go_sem, recoverD, hu, Try.ntmps78, Exit.thenS]
  apply wpSIn_seq
  apply wpSIn_region
  simp [wpOpsSIn, go_sem, Exit.thenS]
  refine wpSIn_cond (t := false) (by simp [Act.eval, Array.replicate]) ?_
  simp only [Bool.false_eq_true, if_false]
  refine wpSIn_of_wpIn rfl (wpIn_wide.2 (wp_skip ?_))
  cases c₀
  simp_all [bodyPostS, results, Try.results78]

/-- What the deferred function leaves where it has caught a stop. -/
def Caught (P Q : Nat) (tp tq : TypeId) (n : Nat) (t : Bool) (w : World) (w' : World) : Prop :=
  Blk w' P tp #[.int .i64 (n : Int)] ∧ Blk w' Q tq #[.bool t] ∧ Kept (fun k => k = P ∨ k = Q) w w'

def CaughtQ (P Q n : Nat) (t : Bool) (w : World) (e : Exit) (a : Act) (w' : World) : Prop := (e = .normal ∨ e = .ret) ∧ a.defers = [] ∧ Caught P Q 3 4 n t w w'

set_option maxRecDepth 100000 in
set_option maxHeartbeats 1000000 in
theorem loadD_panicking (m P Q n : Nat) (t : Bool) (x : Int) (y : Bool) (older : List PanicEntry) (w : World) (hP : Blk w P 3 #[.int .i64 x]) (hQ : Blk w Q 4 #[.bool y]) (hne : P ≠ Q) :
    CallsDIn Fence.wide m Try.prog 78 #[.pointer (some ⟨P, 0, none⟩), .pointer (some ⟨Q, 0, none⟩)] (.panicking ({ v := .iface 102 (.agg #[.int .i64 (n : Int), .bool t]), recovered := false } :: older)) w fun e u' w' =>
      e = .returned (.tuple #[]) ∧ u' = .panicking ({ v := .iface 102 (.agg #[.int .i64 (n : Int), .bool t]), recovered := true } :: older) ∧ Caught P Q 3 4 n t w w' := by
  have has := assert_stop (.agg #[.int .i64 (n : Int), .bool t])
  refine callsDIn_of_wpSIn Try.func78 rfl trivial fun c₀ cs hu => ?_
  apply wpSIn_seq
  apply wpSIn_region
  simp [wpOpsSIn, go_sem, recoverD, hu, Try.ntmps78, Exit.thenS]
  apply wpSIn_seq
  apply wpSIn_region
  simp [wpOpsSIn, go_sem, Exit.thenS]
  refine wpSIn_cond (t := true) (by simp [Act.eval, Array.replicate]) ?_
  simp only [if_true]
  refine wpSIn_of_wpIn rfl (wpIn_wide.2 ?_)
  refine wp_mono (Q := CaughtQ P Q n t w) ?_ ?_
  · clear hu
    have c1 := hP.cell 0
    have c2 := hQ.cell 0
    have g1 := hP.frozen 0
    have g2 := hQ.frozen 0
    have l1 := hP.lt
    have l2 := hQ.lt
    have hnw1 : P ≠ w.heap.size := by omega
    have hnw2 : Q ≠ w.heap.size := by omega
    simp only [List.getElem?_toArray, List.getElem?_cons_zero] at c1 c2
    have HP := Lib.hid hP
    have HQ := Lib.hid hQ
    clear hP hQ
    change Code.wp _ _ _ { tmps := #[.pointer (some ⟨P, 0, none⟩), .pointer (some ⟨Q, 0, none⟩), .iface 102 (.agg #[.int .i64 (n : Int), .bool t]), undef, undef, .iface 102 (.agg #[.int .i64 (n : Int), .bool t]), .iface 102 (.agg #[.int .i64 (n : Int), .bool t]), .bool true, undef, undef, undef, undef, undef, undef, undef, undef, undef, undef, undef, undef], defers := [] } w
    go_wp2_with fail
    have HP1 := Lib.hid (HP.out.alloc (.cells #[.int .i64 (n : Int), .bool t] 102))
    have HQ1 := Lib.hid (HQ.out.alloc (.cells #[.int .i64 (n : Int), .bool t] 102))
    have HN1 := Lib.hid (Blk.new w 102 #[.int .i64 (n : Int), .bool t])
    have HK1 := Lib.hid ((Kept.refl (fun k => k = P ∨ k = Q) w).alloc (.cells #[.int .i64 (n : Int), .bool t] 102))
    generalize w.alloc (.cells #[.int .i64 (n : Int), .bool t] 102) = w1 at HP1 HQ1 HN1 HK1 ⊢
    generalize hN : w.heap.size = N at HN1 hnw1 hnw2 ⊢
    clear c1 c2 g1 g2 l1 l2 HP HQ has hN
    have c1 : w1.cell? ⟨P, 0, none⟩ = some (.int .i64 x) := HP1.out.cell 0
    have c2 : w1.cell? ⟨Q, 0, none⟩ = some (.bool y) := HQ1.out.cell 0
    have c3 : w1.cell? ⟨N, 0, none⟩ = some (.int .i64 (n : Int)) := HN1.out.cell 0
    have c4 : w1.cell? ⟨N, 0 + 1, none⟩ = some (.bool t) := HN1.out.cell 1
    have c5 : w1.cell? ⟨N, 1, none⟩ = some (.bool t) := HN1.out.cell 1
    have g1 := HP1.out.frozen 0
    have g2 := HQ1.out.frozen 0
    go_region
    all_goals
      refine ⟨.inl rfl, rfl, ?_, ?_, ?_⟩
      · first
          | exact ((HP1.out.drew.set_ 0 (.int .i64 n)).far (p := ⟨Q, 0, none⟩) hne _)
          | exact ((HP1.out.drew.far (p := ⟨Q, 0, none⟩) hne _).set_ 0 (.int .i64 n))
      · first
          | exact ((HQ1.out.drew.far (p := ⟨P, 0, none⟩) (Ne.symm hne) _).set_ 0 (.bool t))
          | exact ((HQ1.out.drew.set_ 0 (.bool t)).far (p := ⟨P, 0, none⟩) (Ne.symm hne) _)
      · first
          | exact ((HK1.out.drew).setIn (p := ⟨P, 0, none⟩) (.inl rfl) _).setIn (p := ⟨Q, 0, none⟩) (.inr rfl) _
          | exact ((HK1.out.drew).setIn (p := ⟨Q, 0, none⟩) (.inr rfl) _).setIn (p := ⟨P, 0, none⟩) (.inl rfl) _
  · rintro e a' w' ⟨he, hdf, hc⟩
    have hr : (results Try.f78 a'.tmps).run Try.prog w' = .ok (.tuple #[]) w' := by
      simp [results, Try.results78, go_sem]
    rcases he with rfl | rfl
    · exact ⟨hdf, _, rfl, _, hr, rfl, rfl, hc⟩
    · exact ⟨hdf, _, rfl, _, hr, rfl, rfl, hc⟩

end Go.Proofs.Yteoodgcpkgfomaa
/-
  Journal: what it is in memory; load.
-/
namespace Go.Proofs.Yteoodgcpkgfomaa
open Go.RowKit Go.Shelf
attribute [local go_sem] Oper.semAt_some
set_option linter.unusedVariables false

def jCells (B : Nat) (file : Int) (rv ev : Value) (off : Bool) : Array Value := #[.pointer (some ⟨B, 0, none⟩), .int .i64 file, rv, ev, .bool off]
def eVal (rs : List (List UInt8)) : List Value := (endsFrom 0 rs).map fun (n : Nat) => Value.int .i64 (n : Int)
theorem eVal_snoc (rs : List (List UInt8)) (b : List UInt8) : eVal (rs ++ [b]) = eVal rs ++ [.int .i64 ((frames (rs ++ [b])).length : Nat)] := by
  rw [eVal, ends_snoc, List.map_append, frames_snoc, List.length_append]; rfl
def nilV : Value := .slice none 0 0

/-- The row of the records. -/
structure RR (w : World) (base : Nat) (rv : Value) (us : List Value) (rs : List (List UInt8)) : Prop where
  row : w.ownsRow base 30 1 rv rs.length us
  recs : ∀ (i : Nat) (x : Value) (b : List UInt8), us[i]? = some x → rs[i]? = some b → RecIn w base x b
/-- The row of the ends. -/
def ER (w : World) (base : Nat) (ev : Value) (rs : List (List UInt8)) : Prop := w.ownsRow base 3 1 ev rs.length (eVal rs)

section
variable {w w' : World} {base : Nat} {rv ev : Value} {us : List Value} {rs : List (List UInt8)} {S : Nat → Prop}
theorem RR.len (h : RR w base rv us rs) : us.length = rs.length := by have := h.row.1; omega
theorem RR.at (h : RR w base rv us rs) {u : Value} (hu : u ∈ us) : ∃ b, RecIn w base u b := by
  obtain ⟨i, hi⟩ := List.mem_iff_getElem?.1 hu
  have hl := h.len
  have hlt : i < us.length := (List.getElem?_eq_some_iff.1 hi).1
  exact ⟨_, h.recs i u _ hi (List.getElem?_eq_getElem (by omega))⟩
theorem RR.kept (h : RR w base rv us rs) (hk : Kept S w w') (h1 : ∀ k, rv.ownBlock = some k → ¬ S k) (h2 : ∀ u ∈ us, ∀ k, u.ownBlock = some k → ¬ S k) : RR w' base rv us rs :=
  ⟨own_kept h.row hk h1, fun i x b hx hb => (h.recs i x b hx hb).kept hk (h2 x (List.mem_of_getElem? hx))⟩
theorem RR.kept0 (h : RR w base rv us rs) (hk : Kept Kno w w') : RR w' base rv us rs := h.kept hk (fun _ _ h => h) (fun _ _ _ _ h => h)
theorem RR.rebase {base' : Nat} (h : RR w base rv us rs) (hb : base' ≤ base) : RR w base' rv us rs :=
  ⟨own_rebase h.row (fun k e => Nat.le_trans hb (own_base h.row e).1), fun i x b hx hb' => (h.recs i x b hx hb').rebase hb⟩
theorem ER.kept (h : ER w base ev rs) (hk : Kept S w w') (h1 : ∀ k, ev.ownBlock = some k → ¬ S k) : ER w' base ev rs := own_kept h hk h1
theorem ER.kept0 (h : ER w base ev rs) (hk : Kept Kno w w') : ER w' base ev rs := h.kept hk (fun _ _ h => h)
theorem ER.rebase {base' : Nat} (h : ER w base ev rs) (hb : base' ≤ base) : ER w base' ev rs := own_rebase h (fun k e => Nat.le_trans hb (own_base h e).1)
/-- Blocks of bytes, of slices and of numbers are not one. -/
theorem RR.rv_ev (h : RR w base rv us rs) {rs' : List (List UInt8)} (h' : ER w base ev rs') {k : Nat} (hk : rv.ownBlock = some k) : ev.ownBlock ≠ some k := fun e => absurd ((own_bt h.row hk).one (own_bt h' e)) (by decide)
theorem RR.u_rv (h : RR w base rv us rs) {u : Value} {b : List UInt8} (hu : RecIn w base u b) {k : Nat} (hk : u.ownBlock = some k) : rv.ownBlock ≠ some k := fun e => absurd ((own_bt h.row e).one (hu.2 k hk).2) (by decide)
theorem ER.u_ev (h : ER w base ev rs) {u : Value} {b : List UInt8} (hu : RecIn w base u b) {k : Nat} (hk : u.ownBlock = some k) : ev.ownBlock ≠ some k := fun e => absurd ((own_bt h e).one (hu.2 k hk).2) (by decide)
/-- The records grow by one. -/
theorem RR.grow (h : RR w base rv us rs) {v' x : Value} {b : List UInt8} (hx : RecIn w base x b) (hg : w.grownBy w' rv.ownBlock) (hown : w'.ownsRow base 30 1 v' (rs.length + 1) (us ++ [x])) : RR w' base v' (us ++ [x]) (rs ++ [b]) := by
  have hk : Kept (Kown rv) w w' := (Kept.refl (Kown rv) w).grown hg (fun k _ e => e)
  refine ⟨by rw [List.length_append]; exact hown, fun i u c hu hc => ?_⟩
  have hl := h.len
  rcases Nat.lt_or_ge i us.length with hi | hi
  · rw [List.getElem?_append_left hi] at hu
    rw [List.getElem?_append_left (by omega)] at hc
    exact (h.recs i u c hu hc).kept hk (fun k e e' => h.u_rv (h.recs i u c hu hc) e e')
  · rw [List.getElem?_append_right hi] at hu
    rw [List.getElem?_append_right (by omega)] at hc
    have h0 : i - us.length = 0 := by
      rcases Nat.eq_zero_or_pos (i - us.length) with h0 | h0
      · exact h0
      · rw [List.getElem?_eq_none (by simp; omega)] at hu; cases hu
    rw [h0] at hu
    rw [show i - rs.length = 0 by omega] at hc
    simp only [List.getElem?_cons_zero, Option.some.injEq] at hu hc
    subst hu hc
    exact hx.kept hk (fun k e e' => h.u_rv hx e e')
end

/-- What stands still while load reads: the journal's block, its own boxes, the loop's blocks. -/
structure LF (w0 W : World) (J B : Nat) (file : Int) (v rv ev a b : Value) (st : Obj) : Prop where
  k : Kept (Kone J) w0 W
  jb : Blk W J 90 (jCells B file rv ev false)
  d0 : Blk W w0.heap.size 50 #[.pointer (some ⟨J, 0, none⟩)]
  d1 : Blk W (w0.heap.size + 1) 3 #[a]
  d2 : Blk W (w0.heap.size + 2) 4 #[b]
  d3 : Blk W (w0.heap.size + 3) 30 #[v]
  d4 : W.heap[w0.heap.size + 4]? = some (.deferred (some []))
  d5 : W.heap[w0.heap.size + 5]? = some st
  lt : J < w0.heap.size

section
variable {w0 W W' : World} {J B : Nat} {file : Int} {v rv ev a b : Value} {st : Obj} {S : Nat → Prop}
theorem LF.kept (h : LF w0 W J B file v rv ev a b st) (hk : Kept S W W') (hS : ∀ k, k < w0.heap.size + 6 → ¬ S k) : LF w0 W' J B file v rv ev a b st := by
  have hlt := h.lt
  have h5 : w0.heap.size + 5 < W.heap.size := (Array.getElem?_eq_some_iff.1 h.d5).1
  exact ⟨h.k.trans hk (fun i hi hs => absurd hs (hS i (by omega))), h.jb.kept hk (hS _ (by omega)), h.d0.kept hk (hS _ (by omega)), h.d1.kept hk (hS _ (by omega)), h.d2.kept hk (hS _ (by omega)), h.d3.kept hk (hS _ (by omega)),
    (hk.block _ (by omega) (hS _ (by omega))).trans h.d4, (hk.block _ h5 (hS _ (by omega))).trans h.d5, hlt⟩
theorem LF.kept0 (h : LF w0 W J B file v rv ev a b st) (hk : Kept Kno W W') : LF w0 W' J B file v rv ev a b st := h.kept hk (fun _ _ h => h)
theorem LF.size (h : LF w0 W J B file v rv ev a b st) : w0.heap.size + 6 ≤ W.heap.size := (Array.getElem?_eq_some_iff.1 h.d5).1
theorem LF.set_rv (h : LF w0 W J B file v rv ev a b st) (v' : Value) : LF w0 (W.setCell ⟨J, 2, none⟩ v') J B file v v' ev a b st := by
  have hlt := h.lt
  refine ⟨h.k.setIn (p := ⟨J, 2, none⟩) (Eq.refl J) _, h.jb.set_ 2 v', h.d0.far (by simp; omega) _, h.d1.far (by simp; omega) _, h.d2.far (by simp; omega) _, h.d3.far (by simp; omega) _, ?_, ?_, hlt⟩
  · exact (Below.heap_setCell W ⟨J, 2, none⟩ v' _ (by simp; omega)).trans h.d4
  · exact (Below.heap_setCell W ⟨J, 2, none⟩ v' _ (by simp; omega)).trans h.d5
theorem LF.set_ev (h : LF w0 W J B file v rv ev a b st) (v' : Value) : LF w0 (W.setCell ⟨J, 3, none⟩ v') J B file v rv v' a b st := by
  have hlt := h.lt
  refine ⟨h.k.setIn (p := ⟨J, 3, none⟩) (Eq.refl J) _, h.jb.set_ 3 v', h.d0.far (by simp; omega) _, h.d1.far (by simp; omega) _, h.d2.far (by simp; omega) _, h.d3.far (by simp; omega) _, ?_, ?_, hlt⟩
  · exact (Below.heap_setCell W ⟨J, 3, none⟩ v' _ (by simp; omega)).trans h.d4
  · exact (Below.heap_setCell W ⟨J, 3, none⟩ v' _ (by simp; omega)).trans h.d5
theorem Kept.putObj {a W : World} (h : Kept S a W) {l : Nat} (hl : l < a.heap.size → S l) (o : Obj) : Kept S a (W.putObj l o) :=
  ⟨h.os, h.tape, h.output, by simpa using h.size, fun i hi hS => (World.putObj_heap_other (by rintro rfl; exact hS (hl hi))).trans (h.block i hi hS)⟩
theorem Blk.putObj {w : World} {g l : Nat} {t : TypeId} {cs : Array Value} (h : Blk w g t cs) (hne : g ≠ l) (o : Obj) : Blk (w.putObj l o) g t cs := (World.putObj_heap_other hne).trans h
theorem LF.put (h : LF w0 W J B file v rv ev a b st) (st' : Obj) : LF w0 (W.putObj (w0.heap.size + 5) st') J B file v rv ev a b st' := by
  have hlt := h.lt
  have hsz := h.size
  exact ⟨h.k.putObj (fun hl => absurd hl (by omega)) _, h.jb.putObj (by omega) _, h.d0.putObj (by omega) _, h.d1.putObj (by omega) _, h.d2.putObj (by omega) _, h.d3.putObj (by omega) _, (World.putObj_heap_other (by omega)).trans h.d4, World.putObj_heap_same (by omega), hlt⟩
theorem kept_put (W : World) (l : Nat) (o : Obj) : Kept (Kone l) W (W.putObj l o) := (Kept.refl (Kone l) W).putObj (fun _ => rfl) o
end

/-- The state of load between two rounds. -/
def LoadI (w0 : World) (J B : Nat) (file : Int) (v a b : Value) (st : Obj) (rs es : List (List UInt8)) (W : World) : Prop :=
  ∃ rv ev us, LF w0 W J B file v rv ev a b st ∧ RR W (w0.heap.size + 6) rv us rs ∧ ER W (w0.heap.size + 6) ev es
theorem LoadI.kept0 {w0 W W' : World} {J B : Nat} {file : Int} {v a b : Value} {st : Obj} {rs es : List (List UInt8)} (h : LoadI w0 J B file v a b st rs es W) (hk : Kept Kno W W') : LoadI w0 J B file v a b st rs es W' := by
  obtain ⟨rv, ev, us, h1, h2, h3⟩ := h
  exact ⟨rv, ev, us, h1.kept0 hk, h2.kept0 hk, h3.kept0 hk⟩
theorem LoadI.put {w0 W : World} {J B : Nat} {file : Int} {v a b : Value} {st : Obj} {rs es : List (List UInt8)} (h : LoadI w0 J B file v a b st rs es W) (st' : Obj) : LoadI w0 J B file v a b st' rs es (W.putObj (w0.heap.size + 5) st') := by
  obtain ⟨rv, ev, us, h1, h2, h3⟩ := h
  have hk := kept_put W (w0.heap.size + 5) st'
  refine ⟨rv, ev, us, h1.put st', h2.kept hk (fun k e e' => ?_) (fun u hu k e e' => ?_), h3.kept hk (fun k e e' => ?_)⟩
  · have := (own_base h2.row e).1; unfold Kone at e'; omega
  · obtain ⟨b, hb⟩ := h2.at hu
    have := (hb.2 k e).1; unfold Kone at e'; omega
  · have := (own_base h3 e).1; unfold Kone at e'; omega

end Go.Proofs.Yteoodgcpkgfomaa
/-
  Journal: the contract of load.
-/
namespace Go.Proofs.Yteoodgcpkgfomaa
open Go.RowKit Go.Shelf
attribute [local go_sem] Oper.semAt_some
set_option linter.unusedVariables false

/-- What load returns: the index behind the whole records, and whether what follows begins one. -/
def loadAt (l : List UInt8) : Nat × Bool := ((scan l).2.1, decide ((scan l).2.2 = 20) && unfin l (scan l).2.1)
def LoadOk (J B : Nat) (file : Int) (l : List UInt8) (w : World) (e : Ending) (w' : World) : Prop :=
  e = .returned (.tuple #[.int .i64 ((loadAt l).1 : Nat), .bool (loadAt l).2]) ∧ Kept (Kone J) w w' ∧
    ∃ rv ev us, Blk w' J 90 (jCells B file rv ev false) ∧ RR w' w.heap.size rv us (scan l).1 ∧ ER w' w.heap.size ev (scan l).1

/-- The loop of load, its body given as a walk. -/
theorem range_load {g : Operand} {ps : Array Tmp} {assign body : Code} {Q : Exit → Act → World → Prop} {a : Act} {w0 W0 : World} {J B : Nat} {file : Int} {v a0 b0 : Value} {l : List UInt8} (hl : l.length ≤ 1000000) (hps : ps.size = 2)
    (hg : a.eval g = .func (.func 85) #[] #[.pointer (some ⟨w0.heap.size + 3, 0, none⟩)])
    (hbs : ∀ W, Kept (Kone J) w0 W → Bs W v l) (hN : W0.heap.size = w0.heap.size + 4) (hk0 : Kept (Kone J) w0 W0) (hJ : J < w0.heap.size)
    (hjb : Blk W0 J 90 (jCells B file nilV nilV false)) (hd0 : Blk W0 w0.heap.size 50 #[.pointer (some ⟨J, 0, none⟩)]) (hd1 : Blk W0 (w0.heap.size + 1) 3 #[a0]) (hd2 : Blk W0 (w0.heap.size + 2) 4 #[b0]) (hd3 : Blk W0 (w0.heap.size + 3) 30 #[v])
    (a₁ : Value → Value → Act)
    (hassign : ∀ (lid : Nat) (x y : Value) (W : World) (K : Act → World → Prop), K (a₁ x y) W →
      assign.wpIn (Fence.wide.inRound lid) 4 Try.prog (Exit.then K (fun _ _ _ => False)) { tmps := (ps.zip #[x, y]).foldl (fun t (p, v) => t.setIfInBounds p v) a.tmps, defers := [] } W)
    (hbody : ∀ (lid : Nat) (st : Obj) (rs : List (List UInt8)) (b : List UInt8) (x : Value) (W : World), LoadI w0 J B file v a0 b0 st rs rs W → RecIn W (w0.heap.size + 6) x b → (frames (rs ++ [b])).length ≤ 1000000 →
      body.wpIn (Fence.wide.inRound lid) 4 Try.prog (fun e _ W' => e = .normal ∧ LoadI w0 J B file v a0 b0 st (rs ++ [b]) (rs ++ [b]) W') (a₁ x (.int .i64 ((frames (rs ++ [b])).length : Nat))) W)
    (hdone : ∀ (st : Obj) (W : World), (scan l).2.2 = 0 → LoadI w0 J B file v a0 b0 st (scan l).1 (scan l).1 W → Q .normal { a with defers := { target := .collected (w0.heap.size + 4), args := #[] } :: a.defers } W)
    (hpan : ∀ (st : Obj) (W : World), LoadI w0 J B file v a0 b0 st (scan l).1 (scan l).1 W → Q (.panic [{ v := .iface 102 (.agg #[.int .i64 ((loadAt l).1 : Nat), .bool (loadAt l).2]), recovered := false }]) { a with defers := { target := .collected (w0.heap.size + 4), args := #[] } :: a.defers } W) :
    (Code.rangeFunc g ps assign body).wpIn Fence.wide 6 Try.prog Q a W0 := by
  refine wpIn_rangeFunc ?_
  intro fn hfn
  have hro : Fence.wide.round = none := rfl
  rw [hro]
  obtain ⟨rec, hrec⟩ : ∃ rec : LoopState → Option Code → Loop, rec = fun st pe => { state := st, pending := pe, fn, tmps := a.tmps, params := ps, assign, body, defers := W0.heap.size } := ⟨_, rfl⟩
  obtain ⟨W1, hW1⟩ : ∃ W1, (W0.alloc (.deferred (some []))).alloc (.loop (rec .ready none)) = W1 := ⟨_, rfl⟩
  have hk1 : Kept Kno W0 W1 := by rw [← hW1]; exact ((Kept.refl _ _).alloc _).alloc _
  have hL1 : W1.heap[w0.heap.size + 5]? = some (.loop (rec .ready none)) := by
    rw [← hW1]; have := World.alloc_heap_new (W0.alloc (.deferred (some []))) (.loop (rec .ready none)); rw [World.size_alloc, hN] at this; exact this
  have hK1 : W1.heap[w0.heap.size + 4]? = some (.deferred (some [])) := by
    rw [← hW1, ← hN]; exact (Below.heap_alloc _ _ _ (by simp)).trans (World.alloc_heap_new W0 _)
  have hI1 : LoadI w0 J B file v a0 b0 (.loop (rec .ready none)) [] [] W1 :=
    ⟨nilV, nilV, [], ⟨hk0.then0 hk1, hjb.kept hk1 (fun h => h), hd0.kept hk1 (fun h => h), hd1.kept hk1 (fun h => h), hd2.kept hk1 (fun h => h), hd3.kept hk1 (fun h => h), hK1, hL1, hJ⟩, ⟨World.ownsRow_nil _ _ _ _, fun i x b hx => by simp at hx⟩, World.ownsRow_nil _ _ _ _⟩
  have eg : ∀ args w, (callFunc 85 args).run Try.prog w = .ok (.enter 85 args) w := enters_of Try.func85 (by kernel_rfl) rfl
  refine ⟨W0.heap.size + 1, [{ target := .collected W0.heap.size, args := #[] }], W1, { target := .fn (.func 85) #[.pointer (some ⟨w0.heap.size + 3, 0, none⟩)], args := #[.func (.yield (W0.heap.size + 1)) #[] #[]] }, W1, 85,
    #[.func (.yield (W0.heap.size + 1)) #[] #[]] ++ #[.pointer (some ⟨w0.heap.size + 3, 0, none⟩)], W1, ?_, ?_, (fun _ _ => trivial), ?_, (fun h => by cases h), ?_⟩
  · rw [← hW1, hrec]; exact run_enterLoop_outer _ _ _ _ _
  · simp only [resolve, hg]
    simp [go_sem]
  · simp [invoke, go_sem, eg]
  · rw [hN]
    refine (iter_any 5 (w0.heap.size + 4 + 1) (w0.heap.size + 3) (w0.heap.size + 6) v l hl (fun rs W => LoadI w0 J B file v a0 b0 (.loop (rec .ready none)) rs rs W) (fun rs W h => ?_) (fun rs W W' h hk => h.kept0 hk) ?_ W1 hI1).mono ?_
    · obtain ⟨rv, ev, us, h1, h2, h3⟩ := h
      exact ⟨h1.d3.cell 0, hbs W h1.k, h1.size⟩
    · intro rs b x W hI hx hb hfl
      have hl5 : W.heap[w0.heap.size + 4 + 1]? = some (.loop (rec .ready none)) := by obtain ⟨rv, ev, us, h1, h2, h3⟩ := hI; exact h1.d5
      have hy := run_yield (P := Try.prog) (args := #[x, .int .i64 ((frames (rs ++ [b])).length : Nat)]) hl5 (by rw [hrec]; simp [hps])
      have ht : (rec .ready none).tmps = a.tmps ∧ (rec .ready none).params = ps ∧ (rec .ready none).fn = fn ∧ (rec .ready none).assign = assign ∧ (rec .ready none).body = body ∧ (rec .ready none).state = .ready := by rw [hrec]; exact ⟨rfl, rfl, rfl, rfl, rfl, rfl⟩
      rw [ht.1, ht.2.1, ht.2.2.1, ht.2.2.2.1, ht.2.2.2.2.1] at hy
      refine ⟨fn, _, assign, body, hy, roundIn_of_wpIn trivial (hassign _ x _ W _ ⟨_, run_beginRound hl5 ht.2.2.2.2.2, ?_⟩)⟩
      have hI2 := hI.put (.loop { rec .ready none with state := .busy })
      have hx2 : RecIn (W.putObj (w0.heap.size + 5) (.loop { rec .ready none with state := .busy })) (w0.heap.size + 6) x b := hx.kept (kept_put W _ _) (fun k e e' => by have := (hx.2 k e).1; unfold Kone at e'; omega)
      refine wpIn_mono (hbody _ _ rs b x _ hI2 hx2 (by omega)) ?_
      rintro e a3 W3 ⟨rfl, hI3⟩
      have hl3 : W3.heap[w0.heap.size + 4 + 1]? = some (.loop { rec .ready none with state := .busy }) := by obtain ⟨rv, ev, us, h1, h2, h3⟩ := hI3; exact h1.d5
      have her := run_endRound (P := Try.prog) none hl3
      have e3 : ({ { rec .ready none with state := .busy } with state := if (none : Option Code).isNone then .ready else .done, pending := none } : Loop) = rec .ready none := by rw [hrec]; rfl
      rw [e3] at her
      exact ⟨_, _, her, rfl, hI3.put _⟩
    · rintro e W3 ⟨hI3, hend⟩
      have hl3 : W3.heap[w0.heap.size + 4 + 1]? = some (.loop (rec .ready none)) := by obtain ⟨rv, ev, us, h1, h2, h3⟩ := hI3; exact h1.d5
      rcases hend with ⟨h0, u, rfl⟩ | ⟨h0, h1, rfl⟩
      · refine ⟨none, _, ?_, hdone _ _ h0 (hI3.put (.loop { rec .ready none with state := .exhausted }))⟩
        have := run_endLoop (P := Try.prog) hl3 (by rw [hrec]; simp)
        rw [this]
        rw [hrec]
      · exact hpan _ _ hI3

end Go.Proofs.Yteoodgcpkgfomaa
/-
  Journal: the contract of load, out of its loop.
-/
namespace Go.Proofs.Yteoodgcpkgfomaa
open Go.RowKit Go.Shelf
attribute [local go_sem] Oper.semAt_some
set_option linter.unusedVariables false

/-- A block known whole that holds no byte is not where bytes lie. -/
theorem bs_far {w w' : World} {g : Nat} {t : TypeId} {cs : Array Value} {v : Value} {l : List UInt8} (h : Blk w g t cs) (hn : ∀ x : Int, Value.int .u8 x ∉ cs) (hb : Bs w v l) (hk : Kept (Kone g) w w') : Bs w' v l := by
  obtain ⟨A, cap, rfl, h1, h2, h3, h4⟩ := hb
  refine ⟨A, cap, rfl, h1, h2, h3, fun ad hA j u hj => ?_⟩
  have hc := h4 ad hA j u hj
  rw [List.getElem?_map] at hj
  cases hq : l[j]? with
  | none => rw [hq] at hj; cases hj
  | some c =>
    rw [hq] at hj
    simp only [Option.map_some, Option.some.injEq] at hj
    subst hj
    refine hk.cell_some hc (fun e => ?_)
    unfold Kone at e
    have hs := World.cell?_spot hc
    generalize ad.add j = p at hc e hs
    obtain ⟨g', o, spot⟩ := p
    simp only at e hs
    subst e hs
    rw [h.cell] at hc
    exact hn _ (Array.mem_of_getElem? hc)
theorem jCells_no_byte (B : Nat) (file : Int) (A1 A2 : Option Addr) (n1 n2 c1 c2 : Nat) (off : Bool) (x : Int) : Value.int .u8 x ∉ jCells B file (.slice A1 n1 c1) (.slice A2 n2 c2) off := by
  simp [jCells]

theorem frames_ge (rs : List (List UInt8)) : rs.length ≤ (frames rs).length := by
  induction rs with
  | nil => simp
  | cons r rs ih =>
    have := frame_pos r
    rw [frames_cons, List.length_append, List.length_cons]; omega
section
variable {w0 W W' : World} {J B : Nat} {file : Int} {v rv ev a b : Value} {st : Obj} {us : List Value} {rs es : List (List UInt8)}
theorem lf_grown (h : LF w0 W J B file v rv ev a b st) {e : TypeId} {n : Nat} {x : Value} {xs : List Value} (hr : W.ownsRow (w0.heap.size + 6) e 1 x n xs) (hg : W.grownBy W' x.ownBlock) : LF w0 W' J B file v rv ev a b st ∧ Kept (Kown x) W W' := by
  have hk : Kept (Kown x) W W' := (Kept.refl (Kown x) W).grown hg (fun k _ e => e)
  exact ⟨h.kept hk (fun k hk' e => by have := (own_base hr e).1; omega), hk⟩
theorem rr_set (h : LF w0 W J B file v rv ev a b st) {x : Value} (hr : RR W (w0.heap.size + 6) x us rs) (p : Nat) (u : Value) : RR (W.setCell ⟨J, p, none⟩ u) (w0.heap.size + 6) x us rs := by
  have hlt := h.lt
  refine hr.kept (Kept.setIn (S := Kone J) (Kept.refl _ _) (p := ⟨J, p, none⟩) (Eq.refl J) u) (fun k e e' => ?_) (fun z hz k e e' => ?_)
  · have := (own_base hr.row e).1; unfold Kone at e'; omega
  · obtain ⟨b, hb⟩ := hr.at hz
    have := (hb.2 k e).1; unfold Kone at e'; omega
theorem er_set (h : LF w0 W J B file v rv ev a b st) {x : Value} (hr : ER W (w0.heap.size + 6) x rs) (p : Nat) (u : Value) : ER (W.setCell ⟨J, p, none⟩ u) (w0.heap.size + 6) x rs := by
  have hlt := h.lt
  refine hr.kept (Kept.setIn (S := Kone J) (Kept.refl _ _) (p := ⟨J, p, none⟩) (Eq.refl J) u) (fun k e e' => ?_)
  have := (own_base hr e).1; unfold Kone at e'; omega
end

theorem LF.set_ab {w0 W : World} {J B : Nat} {file : Int} {v rv ev a b : Value} {st : Obj} (h : LF w0 W J B file v rv ev a b st) (a' b' : Value) : LF w0 ((W.setCell ⟨w0.heap.size + 1, 0, none⟩ a').setCell ⟨w0.heap.size + 1 + 1, 0, none⟩ b') J B file v rv ev a' b' st := by
  have hlt := h.lt
  refine ⟨(h.k.setNew (p := ⟨w0.heap.size + 1, 0, none⟩) (by simp) _).setNew (p := ⟨w0.heap.size + 1 + 1, 0, none⟩) (by simp; omega) _, (h.jb.far (by simp; omega) _).far (by simp; omega) _, (h.d0.far (by simp) _).far (by simp; omega) _, (h.d1.set_ 0 a').far (by simp) _, (h.d2.far (by simp) _).set_ 0 b', (h.d3.far (by simp) _).far (by simp) _, ?_, ?_, hlt⟩
  · exact (Below.heap_setCell _ ⟨w0.heap.size + 1 + 1, 0, none⟩ b' _ (by simp)).trans ((Below.heap_setCell W ⟨w0.heap.size + 1, 0, none⟩ a' _ (by simp)).trans h.d4)
  · exact (Below.heap_setCell _ ⟨w0.heap.size + 1 + 1, 0, none⟩ b' _ (by simp)).trans ((Below.heap_setCell W ⟨w0.heap.size + 1, 0, none⟩ a' _ (by simp)).trans h.d5)

/-- The rows stand where a block of the loop's own turns. -/
theorem rows_low {w0 W W' : World} {rv ev : Value} {us : List Value} {rs : List (List UInt8)} (h2 : RR W (w0.heap.size + 6) rv us rs) (h3 : ER W (w0.heap.size + 6) ev rs) {S : Nat → Prop} (hk : Kept S W W') (hS : ∀ k, S k → k < w0.heap.size + 6) : RR W' w0.heap.size rv us rs ∧ ER W' w0.heap.size ev rs := by
  refine ⟨(h2.kept hk (fun k e e' => ?_) (fun u hu k e e' => ?_)).rebase (by omega), (h3.kept hk (fun k e e' => ?_)).rebase (by omega)⟩
  · have := (own_base h2.row e).1; have := hS k e'; omega
  · obtain ⟨b, hb⟩ := h2.at hu
    have := (hb.2 k e).1; have := hS k e'; omega
  · have := (own_base h3 e).1; have := hS k e'; omega

set_option maxRecDepth 100000 in
set_option maxHeartbeats 2000000 in
theorem load_any (J B : Nat) (file : Int) (v : Value) (l : List UInt8) (w : World) (hj : Blk w J 90 (jCells B file nilV nilV false)) (hb : Bs w v l) (hl : l.length ≤ 1000000) :
    Calls Try.prog 62 #[.pointer (some ⟨J, 0, none⟩), v] w (LoadOk J B file l w) := by
  have HJ := Lib.hid hj
  have HB := Lib.hid hb
  have hlt := hj.lt
  have HBS : Hid (∀ W, Kept (Kone J) w W → Bs W v l) := Lib.hid (fun W hk => bs_far hj (jCells_no_byte B file none none 0 0 0 0 false) hb hk)
  obtain ⟨A, cap, hv, -⟩ := hb
  have hmf : ∀ (fn : Fn) (first cap : Array Value) (w : World), (Instr.makeFunc fn first cap).run Try.prog w = .ok (.func fn first cap) w := fun _ _ _ _ => rfl
  clear hj
  subst hv
  refine (callsIn_wide (n := 6)).1 ?_
  refine callsIn_of_wp_marks Try.func62 rfl trivial ?_ rfl
  simp only [Try.ntmps62, List.size_toArray, List.length_cons, List.length_nil, Nat.reduceAdd, Nat.reduceSub, Array.replicate_succ, Array.replicate_zero, List.push_toArray, List.append_toArray, List.nil_append, List.cons_append]
  gi_wp2_with fail
  refine ⟨trivial, (callsIn_wide.2 (framesF_any _ _ A l.length cap rfl)).mono ?_⟩
  rintro e w1 ⟨rfl, hw1⟩
  gi_wp2_with fail
  clear hw1
  have hk1 : Kept Kno w ((((w.alloc (.cells #[.pointer (some ⟨J, 0, none⟩)] 50)).alloc (.cells #[.int .i64 0] 3)).alloc (.cells #[.bool false] 4)).alloc (.cells #[.slice A l.length cap] 30)) := ((((Kept.refl Kno w).alloc _).alloc _).alloc _).alloc _
  have hd0 := (((Blk.new w 50 #[.pointer (some ⟨J, 0, none⟩)]).alloc (.cells #[.int .i64 0] 3)).alloc (.cells #[.bool false] 4)).alloc (.cells #[.slice A l.length cap] 30)
  have hd1 := ((Blk.new (w.alloc (.cells #[.pointer (some ⟨J, 0, none⟩)] 50)) 3 #[.int .i64 0]).alloc (.cells #[.bool false] 4)).alloc (.cells #[.slice A l.length cap] 30)
  have hd2 := (Blk.new ((w.alloc (.cells #[.pointer (some ⟨J, 0, none⟩)] 50)).alloc (.cells #[.int .i64 0] 3)) 4 #[.bool false]).alloc (.cells #[.slice A l.length cap] 30)
  have hd3 := Blk.new (((w.alloc (.cells #[.pointer (some ⟨J, 0, none⟩)] 50)).alloc (.cells #[.int .i64 0] 3)).alloc (.cells #[.bool false] 4)) 30 #[.slice A l.length cap]
  have hN : ((((w.alloc (.cells #[.pointer (some ⟨J, 0, none⟩)] 50)).alloc (.cells #[.int .i64 0] 3)).alloc (.cells #[.bool false] 4)).alloc (.cells #[.slice A l.length cap] 30)).heap.size = w.heap.size + 4 := by simp
  simp only [World.size_alloc] at hd1 hd2 hd3
  generalize ((((w.alloc (.cells #[.pointer (some ⟨J, 0, none⟩)] 50)).alloc (.cells #[.int .i64 0] 3)).alloc (.cells #[.bool false] 4)).alloc (.cells #[.slice A l.length cap] 30)) = W0 at hk1 hd0 hd1 hd2 hd3 hN ⊢
  refine range_load hl rfl rfl HBS.out hN (hk1.mono (fun _ _ h => h.elim)) hlt (HJ.out.kept hk1 (fun h => h)) hd0 hd1 hd2 hd3
    (fun x y => { tmps := #[.pointer (some ⟨J, 0, none⟩), .slice A l.length cap, .pointer (some ⟨w.heap.size, 0, none⟩), undef, .pointer (some ⟨w.heap.size + 1, 0, none⟩), .pointer (some ⟨w.heap.size + 1 + 1, 0, none⟩), x, y,
      .func (.func 78) #[] #[.pointer (some ⟨w.heap.size + 1, 0, none⟩), .pointer (some ⟨w.heap.size + 1 + 1, 0, none⟩)], .slice A l.length cap, .func (.func 85) #[] #[.pointer (some ⟨w.heap.size + 1 + 1 + 1, 0, none⟩)], x, y,
      undef, undef, undef, undef, undef, undef, undef, undef, undef, undef, undef, undef, undef, undef, undef, undef, undef, undef, undef, undef, undef, undef], defers := [] }) ?assign ?body ?done ?pan
  case assign =>
    intro lid x y W K hK
    gi_wp2
    exact hK
  case body =>
    intro lid st rs b x W hI hx hfl
    obtain ⟨rv, ev, us, h1, h2, h3⟩ := hI
    obtain ⟨A1, c1, hxv, -⟩ := hx.1
    subst hxv
    obtain ⟨Ar, cr, hrv⟩ := own_form h2.row
    obtain ⟨Ae, ce, hev⟩ := own_form h3
    have hrl : rs.length ≤ 1000000 := by
      have g1 := frames_ge rs
      rw [frames_snoc, List.length_append] at hfl
      omega
    refine wpIn_block (wpIn_seq ?_)
    refine wpIn_region_any (by kernel_rfl) ?_
    refine grow_recs (I := fun W => LF w W J B file (.slice A l.length cap) rv ev (.int .i64 0) (.bool false) st ∧ RR W (w.heap.size + 6) rv us rs ∧ ER W (w.heap.size + 6) ev rs ∧ RecIn W (w.heap.size + 6) (.slice A1 b.length c1) b)
      (I2 := fun v' W => LF w W J B file (.slice A l.length cap) rv ev (.int .i64 0) (.bool false) st ∧ RR W (w.heap.size + 6) v' (us ++ [.slice A1 b.length c1]) (rs ++ [b]) ∧ ER W (w.heap.size + 6) ev rs)
      (I3 := fun W => ∃ v', LF w W J B file (.slice A l.length cap) v' ev (.int .i64 0) (.bool false) st ∧ RR W (w.heap.size + 6) v' (us ++ [.slice A1 b.length c1]) (rs ++ [b]) ∧ ER W (w.heap.size + 6) ev rs)
      (N := w.heap.size) (J := J) (base := w.heap.size + 6) (m := rs.length) (rv := rv) (xs := us) (y := .int .i64 ((frames (rs ++ [b])).length : Nat)) lid 4 (by kernel_rfl) rfl (by kernel_rfl)
      ⟨_, rfl, rfl, rfl, rfl⟩ ⟨_, rfl, rfl, rfl, rfl⟩ ⟨_, rfl, rfl, rfl, rfl⟩ ⟨_, rfl, rfl, rfl, rfl⟩ ⟨_, rfl, rfl, rfl, rfl⟩ ⟨_, rfl, rfl, rfl, rfl⟩ ⟨_, rfl, rfl, rfl, rfl⟩ ⟨_, rfl, rfl, rfl, rfl⟩ ⟨_, rfl, rfl, rfl, rfl⟩ ⟨_, rfl, rfl, rfl, rfl⟩ ⟨_, rfl, rfl, rfl, rfl⟩
      ?_ ?_ ?_ ?_ ?_ ⟨Ar, cr, hrv⟩ _ _ ?_ rfl rfl rfl rfl rfl ?_
    · rintro W ⟨q1, q2, q3, q4⟩
      exact ⟨q1.d0.cell 0, q1.jb.cell 2, q2.row, q1.size, hrl⟩
    · rintro W W' ⟨q1, q2, q3, q4⟩ hk
      exact ⟨q1.kept0 hk, q2.kept0 hk, q3.kept0 hk, q4.kept0 hk⟩
    · rintro W W' v' ⟨q1, q2, q3, q4⟩ hg hown hat
      obtain ⟨r1, r2⟩ := lf_grown q1 q2.row hg
      exact ⟨r1, q2.grow q4 hg hown, q3.kept r2 (fun k e e' => q2.rv_ev q3 e' e)⟩
    · rintro v' W ⟨q1, q2, q3⟩
      obtain ⟨A', c', hv'⟩ := own_form q2.row
      exact ⟨q1.d0.cell 0, q1.jb.cell 2, q1.jb.frozen 2, A', _, c', hv'⟩
    · rintro v' W ⟨q1, q2, q3⟩
      exact ⟨v', q1.set_rv v', rr_set q1 q2 2 v', er_set q1 q3 2 v'⟩
    · have hkd : Kept Kno W { W with drawn := W.drawn + 1 } := (Kept.refl Kno W).drew
      exact ⟨h1.kept0 hkd, h2.kept0 hkd, h3.kept0 hkd, hx.kept0 hkd⟩
    · rintro a' W' ⟨v', q1, q2, q3⟩ hz e2 e7 hdf
      refine wpIn_region_any (by kernel_rfl) ?_
      refine grow_ends (I := fun W => LF w W J B file (.slice A l.length cap) v' ev (.int .i64 0) (.bool false) st ∧ RR W (w.heap.size + 6) v' (us ++ [.slice A1 b.length c1]) (rs ++ [b]) ∧ ER W (w.heap.size + 6) ev rs)
        (I2 := fun e' W => LF w W J B file (.slice A l.length cap) v' ev (.int .i64 0) (.bool false) st ∧ RR W (w.heap.size + 6) v' (us ++ [.slice A1 b.length c1]) (rs ++ [b]) ∧ ER W (w.heap.size + 6) e' (rs ++ [b]))
        (I3 := fun W => LoadI w J B file (.slice A l.length cap) (.int .i64 0) (.bool false) st (rs ++ [b]) (rs ++ [b]) W)
        (N := w.heap.size) (J := J) (base := w.heap.size + 6) (m := rs.length) (rv := ev) (xs := eVal rs) (y := .int .i64 ((frames (rs ++ [b])).length : Nat)) lid 4 (by kernel_rfl) rfl (by kernel_rfl)
        ⟨_, rfl, rfl, rfl, rfl⟩ ⟨_, rfl, rfl, rfl, rfl⟩ ⟨_, rfl, rfl, rfl, rfl⟩ ⟨_, rfl, rfl, rfl, rfl⟩ ⟨_, rfl, rfl, rfl, rfl⟩ ⟨_, rfl, rfl, rfl, rfl⟩ ⟨_, rfl, rfl, rfl, rfl⟩ ⟨_, rfl, rfl, rfl, rfl⟩ ⟨_, rfl, rfl, rfl, rfl⟩ ⟨_, rfl, rfl, rfl, rfl⟩ ⟨_, rfl, rfl, rfl, rfl⟩
        ?_ ?_ ?_ ?_ ?_ ⟨Ae, ce, hev⟩ _ _ ?_ hz e2 e7 e7 hdf ?_
      · rintro W ⟨q1, q2, q3⟩
        exact ⟨q1.d0.cell 0, q1.jb.cell 3, q3, q1.size, hrl⟩
      · rintro W W' ⟨q1, q2, q3⟩ hk
        exact ⟨q1.kept0 hk, q2.kept0 hk, q3.kept0 hk⟩
      · rintro W W' e' ⟨q1, q2, q3⟩ hg hown hat
        obtain ⟨r1, r2⟩ := lf_grown q1 q3 hg
        refine ⟨r1, q2.kept r2 (fun k e e' => q2.rv_ev q3 e e') (fun u hu k e e' => ?_), ?_⟩
        · obtain ⟨b', hb'⟩ := q2.at hu
          exact q3.u_ev hb' e e'
        · unfold ER
          rw [eVal_snoc, List.length_append]
          exact hown
      · rintro e' W ⟨q1, q2, q3⟩
        obtain ⟨A', c', hv'⟩ := own_form q3
        exact ⟨q1.d0.cell 0, q1.jb.cell 3, q1.jb.frozen 3, A', _, c', hv'⟩
      · rintro e' W ⟨q1, q2, q3⟩
        exact ⟨v', e', _, q1.set_ev e', rr_set q1 q2 3 e', er_set q1 q3 3 e'⟩
      · have hkd : Kept Kno W' { W' with drawn := W'.drawn + 1 } := (Kept.refl Kno W').drew
        exact ⟨q1.kept0 hkd, q2.kept0 hkd, q3.kept0 hkd⟩
      · rintro a2 W2 hI2 _ _ _ _
        exact ⟨rfl, hI2⟩
  case done =>
    rintro st W h0 ⟨rv, ev, us, h1, h2, h3⟩
    have c1 := h1.d1.cell 0
    have c2 := h1.d2.cell 0
    have f1 := h1.d1.frozen 0
    have f2 := h1.d2.frozen 0
    simp only [List.getElem?_toArray, List.getElem?_cons_zero] at c1 c2
    have H1 := Lib.hid h1
    have H2 := Lib.hid h2
    have H3 := Lib.hid h3
    clear h1 h2 h3
    gi_wp2
    have h1 := H1.out.set_ab (.int .i64 l.length) (.bool false)
    have hkk : Kept (fun k => k < w.heap.size + 6) W ((W.setCell ⟨w.heap.size + 1, 0, none⟩ (.int .i64 l.length)).setCell ⟨w.heap.size + 1 + 1, 0, none⟩ (.bool false)) :=
      ((Kept.refl (fun k => k < w.heap.size + 6) W).setIn (p := ⟨w.heap.size + 1, 0, none⟩) (by simp) _).setIn (p := ⟨w.heap.size + 1 + 1, 0, none⟩) (by simp) _
    generalize ((W.setCell ⟨w.heap.size + 1, 0, none⟩ (.int .i64 l.length)).setCell ⟨w.heap.size + 1 + 1, 0, none⟩ (.bool false)) = W2 at h1 hkk ⊢
    refine ⟨by simp, .inl ⟨_, _, rfl, run_takeDeferred h1.d4, ?_⟩⟩
    have hk3 := kept_put W2 (w.heap.size + 4) (.deferred none)
    have hd1 := h1.d1.putObj (l := w.heap.size + 4) (by omega) (.deferred none)
    have hd2 := h1.d2.putObj (l := w.heap.size + 4) (by omega) (.deferred none)
    have hjb := h1.jb.putObj (l := w.heap.size + 4) (by omega) (.deferred none)
    have hk4 : Kept (Kone J) w (W2.putObj (w.heap.size + 4) (.deferred none)) := h1.k.putObj (fun h => absurd h (by omega)) _
    have hrows := rows_low H2.out H3.out (hkk.trans hk3 (fun i _ e => by unfold Kone at e; omega)) (fun k h => h)
    generalize W2.putObj (w.heap.size + 4) (.deferred none) = W3 at hd1 hd2 hjb hk4 hrows ⊢
    refine ⟨by simp, .inr ⟨(fun h => by cases h), _, _, 78, #[.pointer (some ⟨w.heap.size + 1, 0, none⟩), .pointer (some ⟨w.heap.size + 1 + 1, 0, none⟩)], rfl, (by simp [go_sem]), (fun _ _ => trivial), ?_⟩⟩
    refine CallsDIn.mono (loadD_idle _ _ _ W3) ?_
    rintro e u' w'' ⟨rfl, rfl, rfl⟩
    have e1 : w''.cell? ⟨w.heap.size + 1, 0, none⟩ = some (.int .i64 l.length) := hd1.cell 0
    have e2 : w''.cell? ⟨w.heap.size + 1 + 1, 0, none⟩ = some (.bool false) := hd2.cell 0
    refine ⟨.tuple #[.int .i64 l.length, .bool false], ?_, ?_, hk4, rv, ev, us, hjb, hrows.1, hrows.2⟩
    · clear hrows hjb hk4 hd1 hd2 H1 H2 H3 HJ HB HBS
      simp [results, Try.results62, go_sem, e1, e2]
    · have h9 := (scan_any l).2.2.2.2 h0
      simp only [loadAt, h0, h9]
      rfl
  case pan =>
    rintro st W ⟨rv, ev, us, h1, h2, h3⟩
    refine ⟨by simp, .inl ⟨_, _, rfl, run_takeDeferred h1.d4, ?_⟩⟩
    have hk3 := kept_put W (w.heap.size + 4) (.deferred none)
    have hd1 := h1.d1.putObj (l := w.heap.size + 4) (by omega) (.deferred none)
    have hd2 := h1.d2.putObj (l := w.heap.size + 4) (by omega) (.deferred none)
    have hjb := h1.jb.putObj (l := w.heap.size + 4) (by omega) (.deferred none)
    have hk4 : Kept (Kone J) w (W.putObj (w.heap.size + 4) (.deferred none)) := h1.k.putObj (fun h => absurd h (by omega)) _
    have hk5 : Kept (fun k => k < w.heap.size + 6) W (W.putObj (w.heap.size + 4) (.deferred none)) := hk3.mono (fun k _ e => by unfold Kone at e; omega)
    generalize W.putObj (w.heap.size + 4) (.deferred none) = W3 at hd1 hd2 hjb hk4 hk5 ⊢
    refine ⟨by simp, .inr ⟨(fun h => by cases h), _, _, 78, #[.pointer (some ⟨w.heap.size + 1, 0, none⟩), .pointer (some ⟨w.heap.size + 1 + 1, 0, none⟩)], rfl, (by simp [go_sem]), (fun _ _ => trivial), ?_⟩⟩
    refine CallsDIn.mono (loadD_panicking _ (w.heap.size + 1) (w.heap.size + 1 + 1) (loadAt l).1 (loadAt l).2 0 false [] W3 hd1 hd2 (by omega)) ?_
    rintro e u' w'' ⟨rfl, rfl, hc1, hc2, hk6⟩
    have e1 : w''.cell? ⟨w.heap.size + 1, 0, none⟩ = some (.int .i64 ((loadAt l).1 : Nat)) := hc1.cell 0
    have e2 : w''.cell? ⟨w.heap.size + 1 + 1, 0, none⟩ = some (.bool (loadAt l).2) := hc2.cell 0
    have hrows := rows_low h2 h3 (hk5.trans hk6 (fun i _ e => by rcases e with rfl | rfl <;> omega)) (fun k h => h)
    refine ⟨.tuple #[.int .i64 ((loadAt l).1 : Nat), .bool (loadAt l).2], ?_, rfl, hk4.trans hk6 (fun i hi e => by rcases e with rfl | rfl <;> omega), rv, ev, us, hjb.kept hk6 (fun e => by rcases e with e | e <;> omega), hrows.1, hrows.2⟩
    clear hrows hjb hk4 hd1 hd2 h1 h2 h3 HJ HB HBS
    simp [results, Try.results62, go_sem, e1, e2]

end Go.Proofs.Yteoodgcpkgfomaa
/-
  Journal: lists of records; clone, note, size, Len, Records.
-/
namespace Go.Proofs.Yteoodgcpkgfomaa
open Go.RowKit
set_option linter.unusedVariables false

/-- A slice of slices that reads as records, wherever they lie. -/
def LsR (w : World) (v : Value) (us : List Value) (rs : List (List UInt8)) : Prop :=
  Rd w 1 v rs.length us ∧ ∀ (i : Nat) (x : Value) (b : List UInt8), us[i]? = some x → rs[i]? = some b → Bs w x b
/-- A list of records of the caller's own: each in a row of its own. -/
def Ls (w : World) (base : Nat) (v : Value) (vs : List Value) (ls : List (List UInt8)) : Prop :=
  w.ownsRow base 30 1 v ls.length vs ∧ ∀ (i : Nat) (x : Value) (l : List UInt8), vs[i]? = some x → ls[i]? = some l → OwnB w base 5 x l

section
variable {w w' : World} {base : Nat} {v : Value} {us : List Value} {rs : List (List UInt8)}
theorem LsR.len (h : LsR w v us rs) : us.length = rs.length := by obtain ⟨A, cap, _, _, h, _⟩ := h.1; omega
theorem LsR.kept0 (h : LsR w v us rs) (hk : Kept Kno w w') : LsR w' v us rs := ⟨h.1.kept0 hk, fun i x b hx hb => Rd.kept0 (h.2 i x b hx hb) hk⟩
theorem LsR.kept {S : Nat → Prop} (h : LsR w v us rs) (hk : Kept S w w') (h1 : ∀ k, v.ownBlock = some k → ¬ S k) (h2 : ∀ u ∈ us, ∀ k, u.ownBlock = some k → ¬ S k) : LsR w' v us rs :=
  ⟨h.1.kept hk h1, fun i x b hx hb => Rd.kept (h.2 i x b hx hb) hk (h2 x (List.mem_of_getElem? hx))⟩
theorem LsR.form (h : LsR w v us rs) : ∃ A cap, v = .slice A rs.length cap ∧ rs.length ≤ cap := by obtain ⟨A, cap, h1, h2, _⟩ := h.1; exact ⟨A, cap, h1, h2⟩
theorem LsR.at (h : LsR w v us rs) {i : Nat} (hi : i < rs.length) : ∃ g o cap x, v = .slice (some ⟨g, o, none⟩) rs.length cap ∧ us[i]? = some x ∧ w.cell? ⟨g, o + i, none⟩ = some x := by
  have hl := h.len
  obtain ⟨A, cap, rfl, h1, h2, h3, h4⟩ := h.1
  rcases A with _ | ad
  · have := (h3 rfl).1; omega
  · have hx : us[i]? = some (us[i]'(by omega)) := List.getElem?_eq_getElem (by omega)
    have hc := h4 ad rfl i _ hx
    have hc0 := h4 ad rfl 0 _ (List.getElem?_eq_getElem (by omega))
    have hs := World.cell?_spot hc0
    obtain ⟨g, o, spot⟩ := ad
    have hs' : spot = none := by simpa [Addr.add] using hs
    subst hs'
    rw [add_lit0] at hc
    exact ⟨g, o, cap, _, rfl, hx, hc⟩
theorem Ls.len (h : Ls w base v us rs) : us.length = rs.length := by have := h.1.1; omega
theorem Ls.r (h : Ls w base v us rs) : LsR w v us rs := ⟨Rd.of_own h.1, fun i x b hx hb => (h.2 i x b hx hb).bs⟩
theorem RR.r (h : RR w base v us rs) : LsR w v us rs := ⟨Rd.of_own h.row, fun i x b hx hb => (h.recs i x b hx hb).1⟩
theorem Ls.rr (h : Ls w base v us rs) : RR w base v us rs := ⟨h.1, fun i x b hx hb => RecIn.own (h.2 i x b hx hb)⟩
theorem Ls.kept0 (h : Ls w base v us rs) (hk : Kept Kno w w') : Ls w' base v us rs := ⟨own_kept h.1 hk (fun _ _ h => h), fun i x b hx hb => own_kept (h.2 i x b hx hb) hk (fun _ _ h => h)⟩
theorem Ls.rebase {base' : Nat} (h : Ls w base v us rs) (hb : base' ≤ base) : Ls w base' v us rs :=
  ⟨own_rebase h.1 (fun k e => Nat.le_trans hb (own_base h.1 e).1), fun i x b hx hb' => own_rebase (h.2 i x b hx hb') (fun k e => Nat.le_trans hb (own_base (h.2 i x b hx hb') e).1)⟩
theorem ls_append {w1 w2 : World} {v2 x : Value} {vs : List Value} {ls : List (List UInt8)} {l : List UInt8} (h : Ls w1 base v vs ls) (hx : OwnB w1 base 5 x l)
    (hown : w2.ownsRow base 30 1 v2 (ls.length + 1) (vs ++ [x])) (hg : w1.grownBy w2 v.ownBlock) : Ls w2 base v2 (vs ++ [x]) (ls ++ [l]) := by
  have hk : Kept (Kown v) w1 w2 := (Kept.refl _ _).grown hg (fun k _ e => e)
  have hne : ∀ {u : Value} {m : List UInt8}, OwnB w1 base 5 u m → ∀ k, u.ownBlock = some k → ¬ v.ownBlock = some k := fun hu k h1 h2 => absurd ((own_bt hu h1).one (own_bt h.1 h2)) (by decide)
  have hl := h.len
  refine ⟨by rw [List.length_append]; exact hown, fun i y m hy hm => ?_⟩
  by_cases hi : i < vs.length
  · rw [List.getElem?_append_left hi] at hy
    rw [List.getElem?_append_left (by omega)] at hm
    have ho := h.2 i y m hy hm
    exact own_kept ho hk (hne ho)
  · rw [List.getElem?_append_right (by omega)] at hy
    rw [List.getElem?_append_right (by omega)] at hm
    have h0 : i - vs.length = 0 := by
      rcases Nat.eq_zero_or_pos (i - vs.length) with h0 | h0
      · exact h0
      · rw [List.getElem?_eq_none (by simp; omega)] at hy; cases hy
    rw [h0] at hy
    rw [show i - ls.length = 0 by omega] at hm
    simp at hy hm
    subst hy hm
    exact own_kept hx hk (hne hx)
end

def RetLs (ls : List (List UInt8)) (w : World) (e : Ending) (w' : World) : Prop := ∃ A cap vs, e = .returned (.slice A ls.length cap) ∧ Ls w' w.heap.size (.slice A ls.length cap) vs ls ∧ Kept Kno w w'
def CloneRel (rs : List (List UInt8)) (w : World) (l i : Value) (wr : World) : Prop :=
  ∃ (k A cap : _) (vs : List Value), k ≤ rs.length ∧ i = .int .i64 (k : Nat) ∧ l = .slice A k cap ∧ Ls wr w.heap.size (.slice A k cap) vs (rs.take k) ∧ Kept Kno w wr

set_option maxRecDepth 100000 in
set_option maxHeartbeats 1000000 in
theorem clone_any (v : Value) (us : List Value) (rs : List (List UInt8)) (w : World) (h : LsR w v us rs) (hn : rs.length ≤ 100000000) (hm : ∀ b ∈ rs, b.length ≤ 140737488355328) :
    Calls Try.prog 65 #[v] w (RetLs rs w) := by
  obtain ⟨i0, hi, hz0, hz1, hz2⟩ := info_parts info_byte
  obtain ⟨j0, hj, hy0, hy1, hy2⟩ := info_parts info_recs
  have H := Lib.hid h
  have HM := Lib.hid hm
  obtain ⟨A, cap, rfl, hc⟩ := h.form
  clear h hm
  go_enter Try.func65, Try.ntmps65
  go_wp2_with fail
  go_loopw [3, 8] (fun l i wr => CloneRel rs w l i wr) (fun _ i _ => rs.length - (intOf i).toNat)
  case atStart => exact ⟨0, none, 0, [], by omega, rfl, rfl, ⟨World.ownsRow_nil _ _ _ _, fun i x b hx => by simp at hx⟩, Kept.refl _ _⟩
  case round =>
    obtain ⟨k, A1, cap1, vs, hk, rfl, rfl, hls, hkk⟩ := hrel
    by_cases hlt : k < rs.length
    · have hR := H.out.kept0 hkk
      obtain ⟨g, o, c2, x, hv, hx, hcell⟩ := hR.at hlt
      injection hv with e1 e2 e3
      subst e1 e3
      have hb : rs[k]? = some rs[k] := List.getElem?_eq_getElem hlt
      have hml := HM.out rs[k] (List.getElem_mem hlt)
      generalize hbb : rs[k] = b at hb hml
      have hbs := hR.2 k x b hx hb
      have HBS := Lib.hid hbs
      obtain ⟨Ax, cx, rfl, -⟩ := hbs
      have HLS := Lib.hid hls
      have HKK := Lib.hid hkk
      have HBB := Lib.hid hb
      have hk0 : (0 : Int) ≤ (k : Int) := by omega
      have hk1 : (k : Int) < (rs.length : Int) := by omega
      have hml2 : b.length ≤ maxLen := by simp only [maxLen]; omega
      have hwr : w.heap.size ≤ wr.heap.size := hkk.size
      clear hR hx hb hbb hls hkk e2
      have m1 : 0 + b.length ≤ maxLen := by rw [Nat.zero_add]; exact hml2
      have m2 : k + 1 ≤ maxLen := by simp only [maxLen]; omega
      have htl : (rs.take k).length = k := by rw [List.length_take]; omega
      have HTL := Lib.hid htl
      clear htl
      go_wp2_with (at_builtin; first
        | (refine wpList_append_rd _ rfl _ _ 30 rfl w.heap.size 5 i0 _ 1 1 Try.underlying30 hi hz0 hz1 hz2 rfl (by decide) (.slice none 0 0) 0 [] rfl (World.ownsRow_nil _ _ _ _) _ b.length (b.map bv) rfl HBS.out (bvs_one b) m1 (by omega) hwr ?_
           intro A2 cap2 w2 hown2 hg2 hat2
           have hk2 : Kept Kno wr w2 := (Kept.refl _ _).grown hg2 (fun k _ e => by cases e)
           have HO2 : Hid (OwnB w2 w.heap.size 5 (.slice A2 (0 + b.length) cap2) b) := Lib.hid (by have h9 := hown2; rw [Nat.zero_add, List.nil_append] at h9; rw [Nat.zero_add]; exact h9)
           have HL2 := Lib.hid (HLS.out.kept0 hk2)
           have hz2' := hk2.size
           clear hown2 hg2 hat2)
        | (refine wpList_append_rd _ rfl _ _ 45 rfl w.heap.size 30 j0 _ 1 24 Try.underlying45 hj hy0 hy1 hy2 rfl (by decide) (.slice A1 k cap1) k vs rfl (by have h9 := HL2.out.1; rw [HTL.out] at h9; exact World.ownsRow.alloc h9 _) _ 1 [.slice A2 b.length cap2] rfl (Rd.one _ _ _ rfl) (by simp [Value.oneCell']) m2 (by omega) (by simp; omega) ?_
           intro A3 cap3 w3 hown3 hg3 hat3))
      go_roundw
      case rel =>
        have hkA : Kept Kno w2 (w2.alloc (.cells #[.slice A2 b.length cap2] 30)) := (Kept.refl _ _).alloc _
        have hO : OwnB w2 w.heap.size 5 (.slice A2 b.length cap2) b := by have h9 := HO2.out; rw [Nat.zero_add] at h9; exact h9
        have hapd := ls_append (HL2.out.kept0 hkA) (own_kept hO hkA (fun _ _ h => h)) (v2 := .slice A3 (k + 1) cap3) (w2 := w3) (by rw [HTL.out]; exact hown3) hg3
        refine ⟨k + 1, A3, cap3, vs ++ [.slice A2 b.length cap2], by omega, by go_num, rfl, ?_, ?_⟩
        · rw [List.take_add_one, HBB.out]
          exact hapd
        · refine (HKK.out.then0 (hk2.then0 hkA)).grown hg3 (fun q hq e => ?_)
          have := (own_base HL2.out.1 e).1
          omega
      case measure => simp [intOf]; omega
    · have hk1 : ¬ (k : Int) < (rs.length : Int) := by omega
      obtain rfl : k = rs.length := by omega
      rw [List.take_length] at hls
      have HLS := Lib.hid hls
      clear hls
      go_wp2
      go_ret
      exact ⟨A1, cap1, vs, rfl, HLS.out, hkk⟩

end Go.Proofs.Yteoodgcpkgfomaa
/-
  Journal: a journal in memory; note, size, Len, Records.
-/
namespace Go.Proofs.Yteoodgcpkgfomaa
open Go.RowKit
set_option linter.unusedVariables false

/-- Block J is a journal of the records rs over the disk in block B. -/
structure Jr (w : World) (base J B : Nat) (file : Int) (rv ev : Value) (us : List Value) (rs : List (List UInt8)) (off : Bool) : Prop where
  low : base ≤ J
  blk : Blk w J 90 (jCells B file rv ev off)
  rr : RR w base rv us rs
  er : ER w base ev rs
  fit : (frames rs).length ≤ 20000000
/-- The blocks of a journal. -/
def JOwn (J : Nat) (rv ev : Value) (us : List Value) : Nat → Prop := fun k => k = J ∨ rv.ownBlock = some k ∨ ev.ownBlock = some k ∨ ∃ u ∈ us, u.ownBlock = some k

section
variable {w w' : World} {base J B : Nat} {file : Int} {rv ev : Value} {us : List Value} {rs : List (List UInt8)} {off : Bool} {S : Nat → Prop}
theorem Jr.kept (h : Jr w base J B file rv ev us rs off) (hk : Kept S w w') (hS : ∀ k, JOwn J rv ev us k → ¬ S k) : Jr w' base J B file rv ev us rs off :=
  ⟨h.low, h.blk.kept hk (hS _ (.inl rfl)), h.rr.kept hk (fun k e => hS k (.inr (.inl e))) (fun u hu k e => hS k (.inr (.inr (.inr ⟨u, hu, e⟩)))), h.er.kept hk (fun k e => hS k (.inr (.inr (.inl e)))), h.fit⟩
theorem Jr.kept0 (h : Jr w base J B file rv ev us rs off) (hk : Kept Kno w w') : Jr w' base J B file rv ev us rs off := h.kept hk (fun _ _ h => h)
theorem Jr.own_low (h : Jr w base J B file rv ev us rs off) {k : Nat} (hk : JOwn J rv ev us k) : base ≤ k ∧ k < w.heap.size := by
  rcases hk with rfl | e | e | ⟨u, hu, e⟩
  · exact ⟨h.low, h.blk.lt⟩
  · exact own_base h.rr.row e
  · exact own_base h.er e
  · obtain ⟨b, hb⟩ := h.rr.at hu
    exact ⟨(hb.2 k e).1, (hb.2 k e).2.lt⟩
theorem Jr.c_off (h : Jr w base J B file rv ev us rs off) : w.cell? ⟨J, 4, none⟩ = some (.bool off) := h.blk.cell 4
theorem Jr.c_disk (h : Jr w base J B file rv ev us rs off) : w.cell? ⟨J, 0, none⟩ = some (.pointer (some ⟨B, 0, none⟩)) := h.blk.cell 0
theorem Jr.c_file (h : Jr w base J B file rv ev us rs off) : w.cell? ⟨J, 1, none⟩ = some (.int .i64 file) := h.blk.cell 1
theorem Jr.c_recs (h : Jr w base J B file rv ev us rs off) : w.cell? ⟨J, 2, none⟩ = some rv := h.blk.cell 2
theorem Jr.c_ends (h : Jr w base J B file rv ev us rs off) : w.cell? ⟨J, 3, none⟩ = some ev := h.blk.cell 3
theorem Jr.cnt (h : Jr w base J B file rv ev us rs off) : rs.length ≤ 20000000 := Nat.le_trans (frames_ge rs) h.fit
theorem mem_frames {b : List UInt8} {rs : List (List UInt8)} (h : b ∈ rs) : b.length ≤ (frames rs).length := by
  induction rs with
  | nil => simp at h
  | cons r rs ih =>
    rw [frames_cons, List.length_append]
    rcases List.mem_cons.1 h with rfl | h
    · rw [frame_length]; omega
    · have := ih h; omega
/-- The power is noted. -/
theorem Jr.set_off (h : Jr w base J B file rv ev us rs off) (o : Bool) : Jr (w.setCell ⟨J, 4, none⟩ (.bool o)) base J B file rv ev us rs o := by
  have hk : Kept (Kone J) w (w.setCell ⟨J, 4, none⟩ (.bool o)) := Kept.setIn (S := Kone J) (Kept.refl _ _) (p := ⟨J, 4, none⟩) (Eq.refl J) _
  have hb := h.blk.bt
  refine ⟨h.low, h.blk.set_ 4 (.bool o), h.rr.kept hk (fun k e e' => ?_) (fun u hu k e e' => ?_), h.er.kept hk (fun k e e' => ?_), h.fit⟩
  · unfold Kone at e'; subst e'; exact absurd (hb.one (own_bt h.rr.row e)) (by decide)
  · unfold Kone at e'; subst e'
    obtain ⟨b, hb'⟩ := h.rr.at hu
    exact absurd (hb.one (hb'.2 _ e).2) (by decide)
  · unfold Kone at e'; subst e'; exact absurd (hb.one (own_bt h.er e)) (by decide)
end

/-- What note leaves. -/
def noteTo (J : Nat) (c : Int) (w : World) : World := if c = 220 then w.setCell ⟨J, 4, none⟩ (.bool true) else w
set_option maxHeartbeats 400000 in
theorem note_any (J : Nat) (c : Int) (off : Bool) (w : World) (h : w.cell? ⟨J, 4, none⟩ = some (.bool off)) (hf : w.frozen? ⟨J, 4, none⟩ = false) :
    Calls Try.prog 63 #[.pointer (some ⟨J, 0, none⟩), .int .i64 c] w fun e w' => e = .returned (.int .i64 c) ∧ w' = noteTo J c w := by
  unfold noteTo
  by_cases hc : c = 220
  · subst hc
    rw [if_pos rfl]
    go_enter Try.func63, Try.ntmps63
    go_wp2
    go_ret
    exact ⟨rfl, rfl⟩
  · rw [if_neg hc]
    go_enter Try.func63, Try.ntmps63
    go_wp2
    go_ret
    exact ⟨rfl, rfl⟩

set_option maxHeartbeats 400000 in
theorem jlen_any {w : World} {base J B : Nat} {file : Int} {rv ev : Value} {us : List Value} {rs : List (List UInt8)} {off : Bool} (h : Jr w base J B file rv ev us rs off) :
    Calls Try.prog 40 #[.pointer (some ⟨J, 0, none⟩)] w fun e w' => e = .returned (.int .i64 rs.length) ∧ w = w' := by
  have c1 := h.c_recs
  obtain ⟨A, c, rfl⟩ := own_form h.rr.row
  clear h
  go_enter Try.func40, Try.ntmps40
  go_wp2
  go_ret
  exact ⟨rfl, rfl⟩

set_option maxHeartbeats 400000 in
theorem records_any {w : World} {base J B : Nat} {file : Int} {rv ev : Value} {us : List Value} {rs : List (List UInt8)} {off : Bool} (h : Jr w base J B file rv ev us rs off) :
    Calls Try.prog 29 #[.pointer (some ⟨J, 0, none⟩)] w (RetLs rs w) := by
  have c1 := h.c_recs
  have H := Lib.hid h
  obtain ⟨A, c, rfl⟩ := own_form h.rr.row
  clear h
  go_enter Try.func29, Try.ntmps29
  go_wp2_with fail
  refine (clone_any _ us rs w H.out.rr.r (by have := H.out.cnt; omega) (fun b hb => by have := mem_frames hb; have := H.out.fit; omega)).mono ?_
  rintro e w1 ⟨A1, cap1, vs, rfl, hls, hk⟩
  go_wp2
  go_ret
  exact ⟨A1, cap1, vs, rfl, hls, hk⟩

set_option maxHeartbeats 1000000 in
theorem size_j {w : World} {base J B : Nat} {file : Int} {rv ev : Value} {us : List Value} {rs : List (List UInt8)} {off : Bool} (h : Jr w base J B file rv ev us rs off) :
    Calls Try.prog 64 #[.pointer (some ⟨J, 0, none⟩)] w fun e w' => e = .returned (.int .i64 ((frames rs).length : Nat)) ∧ ∃ n, w' = w.drewN n := by
  have c1 := h.c_ends
  obtain ⟨A, c, rfl⟩ := own_form h.er
  have hrd := Rd.of_own h.er
  have hcn := h.cnt
  by_cases h0 : rs = []
  · subst h0
    clear h hrd
    simp only [List.length_nil] at c1
    go_enter Try.func64, Try.ntmps64
    go_wp2
    go_ret
    exact ⟨rfl, 0, rfl⟩
  · have hl : 0 < rs.length := by rcases rs with _ | ⟨r, rs⟩ <;> simp_all
    obtain ⟨A', cap', hv, h1, h2, h3, h4⟩ := hrd
    injection hv with e1 e2 e3
    subst e1 e3
    rcases A with _ | ad
    · have := (h3 rfl).1; omega
    · have hlast : (eVal rs)[rs.length - 1]? = some (.int .i64 ((frames rs).length : Nat)) := by
        unfold eVal
        rw [List.getElem?_map, ends_at 0 _ rs (by omega), show rs.length - 1 + 1 = rs.length by omega, List.take_length, Nat.zero_add]
        rfl
      have hc := h4 ad rfl _ _ hlast
      have hfirst := h4 ad rfl 0 _ (List.getElem?_eq_getElem (by unfold eVal; rw [List.length_map, ends_length]; exact hl))
      have hs := World.cell?_spot hfirst
      obtain ⟨g, o, spot⟩ := ad
      have hs' : spot = none := by simpa [Addr.add] using hs
      subst hs'
      rw [add_lit0] at hc
      obtain ⟨m, hm⟩ : ∃ m, rs.length = m + 1 := ⟨rs.length - 1, by omega⟩
      rw [hm] at c1 hcn hc
      rw [show m + 1 - 1 = m by omega] at hc
      have hmm : m + 1 ≤ c := by omega
      have HM := Lib.hid hm
      generalize hF : (frames rs).length = F at hc
      have HF := Lib.hid hF
      clear h h1 h2 h3 h4 hl hlast hfirst hs h0 e2 hm hF
      have hw : wrap64 (((m + 1 : Nat) : Int) - 1) = (m : Int) := by unfold wrap64; omega
      have hm0 : (0 : Int) ≤ (m : Int) := by omega
      have hm1 : (m : Int) < ((m + 1 : Nat) : Int) := by omega
      go_enter Try.func64, Try.ntmps64
      go_wp2_with fail
      go_quiet (fail)
      go_wp2
      go_ret
      exact ⟨rfl, _, rfl⟩

end Go.Proofs.Yteoodgcpkgfomaa
