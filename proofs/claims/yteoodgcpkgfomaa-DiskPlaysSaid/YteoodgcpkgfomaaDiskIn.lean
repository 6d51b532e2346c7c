/-
  Disk: how the argument 'calls []Call' reads: plain facts on the cells.
-/
import Derived.Test.YteoodgcpkgfomaaBytesIn
import Derived.Test.YteoodgcpkgfomaaDiskJ
namespace Go.Proofs.Yteoodgcpkgfomaa
open Go.RowKit Go.ChangeShapes Go.WideShapes Go.ChangeAt Go.Deep
set_option linter.unusedVariables false

theorem keep_of_trod {H : Type} {enc : TypeId × Value → H} {w : World} {base : Nat} {spare : Nat → Bool} {held : Bool} {fuel : Nat} {v : Value} {x : DataW H × List MemPlace}
    (h : DataW.trod enc Try.prog w base spare held fuel 31 [v] = some x) : ∃ ks : List Int, KeepIn w v ks := by
  rcases open_ints Try.underlying31 Try.underlying3 (by kernel_rfl) h with ⟨hcs, _⟩ | ⟨a, len, cap, zs, hcs, _, hl, hm, hz, _, hcell, hwz⟩
  · injection hcs with hcs _
    subst hcs
    exact ⟨[], none, 0, rfl, by simp, by simp, fun h => by simp at h⟩
  · injection hcs with hcs _
    subst hcs
    have hlen : len ≤ zs.length := by rw [hz]; split <;> omega
    have hl' : (zs.take len).length = len := by rw [List.length_take]; omega
    refine ⟨zs.take len, some a, cap, by rw [hl'], by rw [hl']; exact hl, hm, fun h0 => ?_⟩
    rw [hl'] at h0
    have hs : a.spot = none := by
      have := spot_none (hcell 0 (by omega))
      simpa [Addr.add] using this
    obtain ⟨g, o, spot⟩ := a
    simp only at hs
    subst hs
    refine ⟨g, o, rfl, fun i z hi => ?_⟩
    rw [List.getElem?_take] at hi
    split at hi
    · have hiz : i < zs.length := (List.getElem?_eq_some_iff.1 hi).1
      have hc := hcell i hiz
      rw [add_lit0] at hc
      rw [hc]
      simp [List.getD, hi]
    · cases hi

/-- A call of the argument 'calls'. -/
structure CallD where
  kind : Int
  file : Int
  n : Int
  b : Value
  l : List UInt8
  keep : Value
  ks : List Int

def CallD.val (c : CallD) : Value := .agg #[.int .i64 c.kind, .int .i64 c.file, .int .i64 c.n, c.b, c.keep]
def CallOk (w : World) (c : CallD) : Prop := Bs w c.b c.l ∧ c.l.length ≤ maxLen ∧ KeepIn w c.keep c.ks ∧ c.n ≤ 9223372036854775807
def CallAt (w : World) (g o : Nat) (c : CallD) : Prop :=
  w.cell? ⟨g, o, none⟩ = some (.int .i64 c.kind) ∧ w.cell? ⟨g, o + 1, none⟩ = some (.int .i64 c.file) ∧ w.cell? ⟨g, o + 1 + 1, none⟩ = some (.int .i64 c.n) ∧ w.cell? ⟨g, o + 1 + 1 + 1, none⟩ = some c.b ∧ w.cell? ⟨g, o + 1 + 1 + 1 + 1, none⟩ = some c.keep ∧ CallOk w c

def CallsIn (w : World) (v : Value) (cs : List CallD) : Prop :=
  ∃ A cap, v = .slice A cs.length cap ∧ cs.length ≤ cap ∧ cap ≤ maxLen ∧ (A = none → cs.length = 0 ∧ cap = 0) ∧ (0 < cs.length → ∃ g o, A = some ⟨g, o, none⟩ ∧ ∀ i c, cs[i]? = some c → CallAt w g (o + i * 5) c)

theorem CallOk.kept0 {w w' : World} {c : CallD} (h : CallOk w c) (hk : Kept Kno w w') : CallOk w' c := ⟨Rd.kept0 h.1 hk, h.2.1, h.2.2.1.kept0 hk, h.2.2.2⟩
theorem CallAt.kept {w w' : World} {g o : Nat} {c : CallD} (h : CallAt w g o c) (hk : Kept Kno w w') : CallAt w' g o c :=
  ⟨hk.cell_some h.1 (fun h => h), hk.cell_some h.2.1 (fun h => h), hk.cell_some h.2.2.1 (fun h => h), hk.cell_some h.2.2.2.1 (fun h => h), hk.cell_some h.2.2.2.2.1 (fun h => h), h.2.2.2.2.2.kept0 hk⟩

theorem calls_of_trod {H : Type} {enc : TypeId × Value → H} {w : World} {base : Nat} {spare : Nat → Bool} {held : Bool} {fuel : Nat} {v : Value} {x : DataW H × List MemPlace}
    (h : DataW.trod enc Try.prog w base spare held fuel 23 [v] = some x) : ∃ cs : List CallD, CallsIn w v cs := by
  rcases open_slice_fields Try.underlying23 Try.underlying33 (by kernel_rfl) (by kernel_rfl) h with ⟨hcs, _⟩ | ⟨a, len, cap, m, D, Pl, hcs, _, hl, hm, hmm, _, hi⟩
  · injection hcs with hcs _
    subst hcs
    exact ⟨[], none, 0, rfl, by simp, by simp, fun _ => ⟨rfl, rfl⟩, fun h => by simp at h⟩
  · injection hcs with hcs _
    subst hcs
    have hlm : len ≤ m := by rw [hmm]; split <;> omega
    have hall : ∀ i, i < len → ∃ c : CallD, ∀ g o, a = ⟨g, o, none⟩ → CallAt w g (o + i * 5) c := by
      intro i hil
      obtain ⟨ys, n, _, _, hyl, hf⟩ := hi i (by omega)
      obtain ⟨v0, y0, c0, _, t0⟩ := hf 0 _ rfl
      obtain ⟨v1, y1, c1, _, t1⟩ := hf 1 _ rfl
      obtain ⟨v2, y2, c2, _, t2⟩ := hf 2 _ rfl
      obtain ⟨v3, y3, c3, _, t3⟩ := hf 3 _ rfl
      obtain ⟨v4, y4, c4, _, t4⟩ := hf 4 _ rfl
      obtain ⟨k0, e0, _, _⟩ := DataW.trod_int Try.underlying3 t0
      obtain ⟨k1, e1, _, _⟩ := DataW.trod_int Try.underlying3 t1
      obtain ⟨k2, e2, _, w2⟩ := DataW.trod_int Try.underlying3 t2
      have hk2 : k2 ≤ 9223372036854775807 := by
        have : -9223372036854775808 ≤ k2 ∧ k2 ≤ 9223372036854775807 := by simpa [Lit.wf, IntKind.min, IntKind.max, IntKind.signed, IntKind.bits] using w2
        exact this.2
      simp at e0 e1 e2
      subst e0 e1 e2
      obtain ⟨l, hbs, hll⟩ := bs_of_trod Try.underlying30 Try.underlying5 (by kernel_rfl) t3
      obtain ⟨ks, hks⟩ := keep_of_trod t4
      refine ⟨⟨k0, k1, k2, v3, l, v4, ks⟩, fun g o ha => ?_⟩
      subst ha
      simp only [add_lit0] at c0 c1 c2 c3 c4
      exact ⟨c0, c1, c2, c3, c4, hbs, hll, hks, hk2⟩
    obtain ⟨cs, hcl, hcs⟩ := list_choose len _ hall
    refine ⟨cs, some a, cap, by rw [hcl], by omega, hm, (fun h => by cases h), fun h0 => ?_⟩
    obtain ⟨ys, n, _, _, hyl, hf⟩ := hi 0 (by omega)
    obtain ⟨g, o, spot⟩ := a
    have hs : spot = none := by
      obtain ⟨v0, y0, c0, _, t0⟩ := hf 0 _ rfl
      have := spot_none c0
      simpa [Addr.add] using this
    subst hs
    exact ⟨g, o, rfl, fun i c hc => hcs i c hc g o rfl⟩
end Go.Proofs.Yteoodgcpkgfomaa
