/-
  Journal: the contract of load.
-/
import Derived.Test.YteoodgcpkgfomaaJourE
namespace Go.Proofs.Yteoodgcpkgfomaa
open Go.RowKit Go.Shelf
attribute [local go_sem] Oper.semAt_some
set_option linter.unusedVariables false

/-- What load returns: the index behind the whole records, and whether what follows begins one. -/
def loadAt (l : List UInt8) : Nat × Bool := ((scan l).2.1, decide ((scan l).2.2 = 20) && unfin l (scan l).2.1)
def LoadOk (J B : Nat) (file : Int) (l : List UInt8) (w : World) (e : Ending) (w' : World) : Prop :=
  e = .returned (.tuple #[.int .i64 ((loadAt l).1 : Nat), .bool (loadAt l).2]) ∧ Kept (Kone J) w w' ∧
    ∃ rv ev us, Blk w' J 90 (jCells B file rv ev false) ∧ RR w' w.heap.size rv us (scan l).1 ∧ ER w' w.heap.size ev (scan l).1

/-- The loop of load, its body given as a walk. -/
theorem range_load {g : Operand} {ps : Array Tmp} {assign body : Code} {Q : Exit → Act → World → Prop} {a : Act} {w0 W0 : World} {J B : Nat} {file : Int} {v a0 b0 : Value} {l : List UInt8} (hl : l.length ≤ 1000000) (hps : ps.size = 2)
    (hg : a.eval g = .func (.func 85) #[] #[.pointer (some ⟨w0.heap.size + 3, 0, none⟩)])
    (hbs : ∀ W, Kept (Kone J) w0 W → Bs W v l) (hN : W0.heap.size = w0.heap.size + 4) (hk0 : Kept (Kone J) w0 W0) (hJ : J < w0.heap.size)
    (hjb : Blk W0 J 90 (jCells B file nilV nilV false)) (hd0 : Blk W0 w0.heap.size 50 #[.pointer (some ⟨J, 0, none⟩)]) (hd1 : Blk W0 (w0.heap.size + 1) 3 #[a0]) (hd2 : Blk W0 (w0.heap.size + 2) 4 #[b0]) (hd3 : Blk W0 (w0.heap.size + 3) 30 #[v])
    (a₁ : Value → Value → Act)
    (hassign : ∀ (lid : Nat) (x y : Value) (W : World) (K : Act → World → Prop), K (a₁ x y) W →
      assign.wpIn (Fence.wide.inRound lid) 4 Try.prog (Exit.then K (fun _ _ _ => False)) { tmps := (ps.zip #[x, y]).foldl (fun t (p, v) => t.setIfInBounds p v) a.tmps, defers := [] } W)
    (hbody : ∀ (lid : Nat) (st : Obj) (rs : List (List UInt8)) (b : List UInt8) (x : Value) (W : World), LoadI w0 J B file v a0 b0 st rs rs W → RecIn W (w0.heap.size + 6) x b → (frames (rs ++ [b])).length ≤ 1000000 →
      body.wpIn (Fence.wide.inRound lid) 4 Try.prog (fun e _ W' => e = .normal ∧ LoadI w0 J B file v a0 b0 st (rs ++ [b]) (rs ++ [b]) W') (a₁ x (.int .i64 ((frames (rs ++ [b])).length : Nat))) W)
    (hdone : ∀ (st : Obj) (W : World), (scan l).2.2 = 0 → LoadI w0 J B file v a0 b0 st (scan l).1 (scan l).1 W → Q .normal { a with defers := { target := .collected (w0.heap.size + 4), args := #[] } :: a.defers } W)
    (hpan : ∀ (st : Obj) (W : World), LoadI w0 J B file v a0 b0 st (scan l).1 (scan l).1 W → Q (.panic [{ v := .iface 102 (.agg #[.int .i64 ((loadAt l).1 : Nat), .bool (loadAt l).2]), recovered := false }]) { a with defers := { target := .collected (w0.heap.size + 4), args := #[] } :: a.defers } W) :
    (Code.rangeFunc g ps assign body).wpIn Fence.wide 6 Try.prog Q a W0 := by
  refine wpIn_rangeFunc ?_
  intro fn hfn
  have hro : Fence.wide.round = none := rfl
  rw [hro]
  obtain ⟨rec, hrec⟩ : ∃ rec : LoopState → Option Code → Loop, rec = fun st pe => { state := st, pending := pe, fn, tmps := a.tmps, params := ps, assign, body, defers := W0.heap.size } := ⟨_, rfl⟩
  obtain ⟨W1, hW1⟩ : ∃ W1, (W0.alloc (.deferred (some []))).alloc (.loop (rec .ready none)) = W1 := ⟨_, rfl⟩
  have hk1 : Kept Kno W0 W1 := by rw [← hW1]; exact ((Kept.refl _ _).alloc _).alloc _
  have hL1 : W1.heap[w0.heap.size + 5]? = some (.loop (rec .ready none)) := by
    rw [← hW1]; have := World.alloc_heap_new (W0.alloc (.deferred (some []))) (.loop (rec .ready none)); rw [World.size_alloc, hN] at this; exact this
  have hK1 : W1.heap[w0.heap.size + 4]? = some (.deferred (some [])) := by
    rw [← hW1, ← hN]; exact (Below.heap_alloc _ _ _ (by simp)).trans (World.alloc_heap_new W0 _)
  have hI1 : LoadI w0 J B file v a0 b0 (.loop (rec .ready none)) [] [] W1 :=
    ⟨nilV, nilV, [], ⟨hk0.then0 hk1, hjb.kept hk1 (fun h => h), hd0.kept hk1 (fun h => h), hd1.kept hk1 (fun h => h), hd2.kept hk1 (fun h => h), hd3.kept hk1 (fun h => h), hK1, hL1, hJ⟩, ⟨World.ownsRow_nil _ _ _ _, fun i x b hx => by simp at hx⟩, World.ownsRow_nil _ _ _ _⟩
  have eg : ∀ args w, (callFunc 85 args).run Try.prog w = .ok (.enter 85 args) w := enters_of Try.func85 (by kernel_rfl) rfl
  refine ⟨W0.heap.size + 1, [{ target := .collected W0.heap.size, args := #[] }], W1, { target := .fn (.func 85) #[.pointer (some ⟨w0.heap.size + 3, 0, none⟩)], args := #[.func (.yield (W0.heap.size + 1)) #[] #[]] }, W1, 85,
    #[.func (.yield (W0.heap.size + 1)) #[] #[]] ++ #[.pointer (some ⟨w0.heap.size + 3, 0, none⟩)], W1, ?_, ?_, (fun _ _ => trivial), ?_, (fun h => by cases h), ?_⟩
  · rw [← hW1, hrec]; exact run_enterLoop_outer _ _ _ _ _
  · simp only [resolve, hg]
    simp [go_sem]
  · simp [invoke, go_sem, eg]
  · rw [hN]
    refine (iter_any 5 (w0.heap.size + 4 + 1) (w0.heap.size + 3) (w0.heap.size + 6) v l hl (fun rs W => LoadI w0 J B file v a0 b0 (.loop (rec .ready none)) rs rs W) (fun rs W h => ?_) (fun rs W W' h hk => h.kept0 hk) ?_ W1 hI1).mono ?_
    · obtain ⟨rv, ev, us, h1, h2, h3⟩ := h
      exact ⟨h1.d3.cell 0, hbs W h1.k, h1.size⟩
    · intro rs b x W hI hx hb hfl
      have hl5 : W.heap[w0.heap.size + 4 + 1]? = some (.loop (rec .ready none)) := by obtain ⟨rv, ev, us, h1, h2, h3⟩ := hI; exact h1.d5
      have hy := run_yield (P := Try.prog) (args := #[x, .int .i64 ((frames (rs ++ [b])).length : Nat)]) hl5 (by rw [hrec]; simp [hps])
      have ht : (rec .ready none).tmps = a.tmps ∧ (rec .ready none).params = ps ∧ (rec .ready none).fn = fn ∧ (rec .ready none).assign = assign ∧ (rec .ready none).body = body ∧ (rec .ready none).state = .ready := by rw [hrec]; exact ⟨rfl, rfl, rfl, rfl, rfl, rfl⟩
      rw [ht.1, ht.2.1, ht.2.2.1, ht.2.2.2.1, ht.2.2.2.2.1] at hy
      refine ⟨fn, _, assign, body, hy, roundIn_of_wpIn trivial (hassign _ x _ W _ ⟨_, run_beginRound hl5 ht.2.2.2.2.2, ?_⟩)⟩
      have hI2 := hI.put (.loop { rec .ready none with state := .busy })
      have hx2 : RecIn (W.putObj (w0.heap.size + 5) (.loop { rec .ready none with state := .busy })) (w0.heap.size + 6) x b := hx.kept (kept_put W _ _) (fun k e e' => by have := (hx.2 k e).1; unfold Kone at e'; omega)
      refine wpIn_mono (hbody _ _ rs b x _ hI2 hx2 (by omega)) ?_
      rintro e a3 W3 ⟨rfl, hI3⟩
      have hl3 : W3.heap[w0.heap.size + 4 + 1]? = some (.loop { rec .ready none with state := .busy }) := by obtain ⟨rv, ev, us, h1, h2, h3⟩ := hI3; exact h1.d5
      have her := run_endRound (P := Try.prog) none hl3
      have e3 : ({ { rec .ready none with state := .busy } with state := if (none : Option Code).isNone then .ready else .done, pending := none } : Loop) = rec .ready none := by rw [hrec]; rfl
      rw [e3] at her
      exact ⟨_, _, her, rfl, hI3.put _⟩
    · rintro e W3 ⟨hI3, hend⟩
      have hl3 : W3.heap[w0.heap.size + 4 + 1]? = some (.loop (rec .ready none)) := by obtain ⟨rv, ev, us, h1, h2, h3⟩ := hI3; exact h1.d5
      rcases hend with ⟨h0, u, rfl⟩ | ⟨h0, h1, rfl⟩
      · refine ⟨none, _, ?_, hdone _ _ h0 (hI3.put (.loop { rec .ready none with state := .exhausted }))⟩
        have := run_endLoop (P := Try.prog) hl3 (by rw [hrec]; simp)
        rw [this]
        rw [hrec]
      · exact hpan _ _ hI3

end Go.Proofs.Yteoodgcpkgfomaa
