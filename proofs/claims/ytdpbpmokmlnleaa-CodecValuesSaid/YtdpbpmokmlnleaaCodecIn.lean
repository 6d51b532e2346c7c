/-
  Codec: how the arguments 'v api.Value' and 'r api.Row' read: plain facts on the cells.
-/
import Derived.Test.YtdpbpmokmlnleaaBytesIn
import Derived.Test.YtdpbpmokmlnleaaCodecH
import Derived.Lib.SmallJoins
namespace Go.Proofs.Ytdpbpmokmlnleaa
open Go.RowKit Go.ChangeShapes Go.WideShapes Go.ChangeAt Go.Deep
set_option linter.unusedVariables false

theorem i64_of {z : Int} (h : (Lit.int .i64 z).wf = true) : -9223372036854775808 ≤ z ∧ z ≤ 9223372036854775807 := by
  simpa [Lit.wf, IntKind.min, IntKind.max, IntKind.signed, IntKind.bits] using h

theorem row_of_trod {H : Type} {enc : TypeId × Value → H} {w : World} {base : Nat} {spare : Nat → Bool} {held : Bool} {fuel : Nat} {v : Value} {x : DataW H × List MemPlace}
    (h : DataW.trod enc Try.prog w base spare held fuel 34 [v] = some x) : ∃ cs : List Val, RowIn w v cs := by
  rcases open_slice_fields Try.underlying34 Try.underlying41 (by kernel_rfl) (by kernel_rfl) h with ⟨hcs, _⟩ | ⟨a, len, cap, m, D, Pl, hcs, _, hl, hm, hmm, _, hi⟩
  · injection hcs with hcs _
    subst hcs
    exact ⟨[], none, 0, rfl, by simp, by simp, (fun h => by simp at h), (fun x h => by simp at h)⟩
  · injection hcs with hcs _
    subst hcs
    have hlm : len ≤ m := by rw [hmm]; split <;> omega
    have hall : ∀ i, i < len → ∃ c : Val, okVal c ∧ ∀ g o, a = ⟨g, o, none⟩ → w.cell? ⟨g, o + i * 3, none⟩ = some (.int .i64 c.kind) ∧ w.cell? ⟨g, o + i * 3 + 1, none⟩ = some (.int .i64 c.n) ∧ w.cell? ⟨g, o + i * 3 + 1 + 1, none⟩ = some (.string c.s) := by
      intro i hil
      obtain ⟨ys, n, _, _, hyl, hf⟩ := hi i (by omega)
      obtain ⟨v0, y0, c0, _, t0⟩ := hf 0 _ rfl
      obtain ⟨v1, y1, c1, _, t1⟩ := hf 1 _ rfl
      obtain ⟨v2, y2, c2, _, t2⟩ := hf 2 _ rfl
      obtain ⟨k0, e0, _, _⟩ := DataW.trod_int Try.underlying3 t0
      obtain ⟨k1, e1, _, w1⟩ := DataW.trod_int Try.underlying2 t1
      obtain ⟨s2, e2, _, w2⟩ := DataW.trod_string Try.underlying9 t2
      have hk1 := i64_of w1
      simp at e0 e1 e2
      subst e0 e1 e2
      refine ⟨⟨k0, k1, s2⟩, ⟨hk1.1, hk1.2, w2⟩, fun g o ha => ?_⟩
      subst ha
      simp only [add_lit0] at c0 c1 c2
      exact ⟨c0, c1, c2⟩
    obtain ⟨cs, hcl, hcs⟩ := list_choose len _ hall
    refine ⟨cs, some a, cap, by rw [hcl], by omega, hm, (fun h0 => ?_), fun x hx => ?_⟩
    · obtain ⟨ys, n, _, _, hyl, hf⟩ := hi 0 (by omega)
      obtain ⟨g, o, spot⟩ := a
      have hs : spot = none := by
        obtain ⟨v0, y0, c0, _, t0⟩ := hf 0 _ rfl
        have := spot_none c0
        simpa [Addr.add] using this
      subst hs
      exact ⟨g, o, rfl, fun i c hc => (hcs i c hc).2 g o rfl⟩
    · obtain ⟨i, hi'⟩ := List.getElem?_of_mem hx
      exact (hcs i x hi').1

theorem val_of {H : Type} {enc : TypeId × Value → H} {w : World} {base b0 : Nat} {r : Reach} {spare : Nat → Bool} {held : Bool} {v : Value} {d : DataW H} {p : List MemPlace}
    (hv : Value.okWide Try.prog w r b0 41 v) (h : DataW.Trod enc Try.prog w base spare held 41 v d p) : ∃ x : Val, v = x.v ∧ okVal x := by
  obtain ⟨v0, v1, v2, y0, y1, y2, n, rfl, _, _, t0, t1, t2⟩ := Go.Joins.open_agg3 Try.underlying41 (by kernel_rfl) (by kernel_rfl) hv h
  obtain ⟨k0, e0, _, _⟩ := DataW.trod_int Try.underlying3 t0
  obtain ⟨k1, e1, _, w1⟩ := DataW.trod_int Try.underlying2 t1
  obtain ⟨s2, e2, _, w2⟩ := DataW.trod_string Try.underlying9 t2
  simp at e0 e1 e2
  subst e0 e1 e2
  exact ⟨⟨k0, k1, s2⟩, rfl, (i64_of w1).1, (i64_of w1).2, w2⟩

end Go.Proofs.Ytdpbpmokmlnleaa
