/-
  Journal: Append.
-/
import Derived.Test.YteoodgcpkgfomaaJourJ
import Derived.Deep.RegionLaw
namespace Go.Proofs.Yteoodgcpkgfomaa
open Go.RowKit
set_option linter.unusedVariables false

/-- A journal whose ends may be ahead of its records. -/
structure JE (w : World) (base J B : Nat) (file : Int) (rv ev : Value) (us : List Value) (rs es : List (List UInt8)) (off : Bool) : Prop where
  low : base ≤ J
  blk : Blk w J 90 (jCells B file rv ev off)
  rr : RR w base rv us rs
  er : ER w base ev es

section
variable {w w' w2 : World} {base J B : Nat} {file : Int} {rv ev : Value} {us : List Value} {fs : List File} {rs es : List (List UInt8)} {off : Bool} {a : Ab}
theorem Jr.je (h : Jr w base J B file rv ev us rs off) : JE w base J B file rv ev us rs rs off := ⟨h.low, h.blk, h.rr, h.er⟩
theorem JE.jr (h : JE w base J B file rv ev us rs rs off) (hf : (frames rs).length ≤ 20000000) : Jr w base J B file rv ev us rs off := ⟨h.low, h.blk, h.rr, h.er, hf⟩
theorem JE.kept0 (h : JE w base J B file rv ev us rs es off) (hk : Kept Kno w w') : JE w' base J B file rv ev us rs es off := ⟨h.low, h.blk.kept hk (fun h => h), h.rr.kept0 hk, h.er.kept0 hk⟩
theorem JE.own_low (h : JE w base J B file rv ev us rs es off) {k : Nat} (hk : JOwn J rv ev us k) : base ≤ k ∧ k < w.heap.size := by
  rcases hk with rfl | e | e | ⟨u, hu, e⟩
  · exact ⟨h.low, h.blk.lt⟩
  · exact own_base h.rr.row e
  · exact own_base h.er e
  · obtain ⟨b, hb⟩ := h.rr.at hu
    exact ⟨(hb.2 k e).1, (hb.2 k e).2.lt⟩
theorem JE.J_rv (h : JE w base J B file rv ev us rs es off) : rv.ownBlock ≠ some J := fun e => absurd (h.blk.bt.one (own_bt h.rr.row e)) (by decide)
theorem JE.J_ev (h : JE w base J B file rv ev us rs es off) : ev.ownBlock ≠ some J := fun e => absurd (h.blk.bt.one (own_bt h.er e)) (by decide)
theorem JE.J_u (h : JE w base J B file rv ev us rs es off) {u : Value} (hu : u ∈ us) : u.ownBlock ≠ some J := fun e => by
  obtain ⟨b, hb⟩ := h.rr.at hu
  exact absurd (h.blk.bt.one (hb.2 _ e).2) (by decide)
theorem is_far (hi : Is w base B fs a) {S : Nat → Prop} (hk : Kept S w w') (hS : ∀ k, S k → ¬ DK B fs k) : Is w' base B fs a :=
  ⟨hi.1.kept hk (fun e => hS _ e (.inl rfl)) (fun f hf k e e' => hS k e' (.inr ⟨f, hf, e⟩)), hi.2⟩

/-- What has changed since: only the journal's own blocks; what it owns now it owned, or is new. -/
def JStep (J : Nat) (rv ev rv' ev' : Value) (us us' : List Value) (w w' : World) : Prop :=
  Kept (fun k => k = J ∨ rv.ownBlock = some k ∨ ev.ownBlock = some k) w w' ∧ (∀ k, JOwn J rv' ev' us' k → JOwn J rv ev us k ∨ w.heap.size ≤ k) ∧
    ∀ k, (rv'.ownBlock = some k ∨ ev'.ownBlock = some k) → (rv.ownBlock = some k ∨ ev.ownBlock = some k) ∨ w.heap.size ≤ k
theorem JStep.turn {rv' ev' : Value} {us' : List Value} (h : JStep J rv ev rv' ev' us us' w w') (hi : Is w base B fs a) (ha : JApart J B fs rv ev us) (hj : Jr w' base J B file rv' ev' us' rs off) : JTurn base J B file fs rv ev us ⟨a, rs, off⟩ w w' := by
  have hw : ∀ k, (k = J ∨ rv.ownBlock = some k ∨ ev.ownBlock = some k) → JOwn J rv ev us k := fun k e => by
    rcases e with e | e | e
    · exact .inl e
    · exact .inr (.inl e)
    · exact .inr (.inr (.inl e))
  refine ⟨fs, rv', ev', us', is_far hi h.1 (fun k e => ha k (hw k e)), hj, fun k hk hd => ?_, h.1.mono (fun k _ e => .inl (hw k e)), fun k h => .inl h, h.2.1⟩
  rcases h.2.1 k hk with h3 | h3
  · exact ha k h3 hd
  · have := (hi.low hd).2; omega
theorem JStep.trans {rv1 ev1 rv2 ev2 : Value} {us1 us2 : List Value} (h : JStep J rv ev rv1 ev1 us us1 w w') (h2 : JStep J rv1 ev1 rv2 ev2 us1 us2 w' w2) : JStep J rv ev rv2 ev2 us us2 w w2 := by
  have hs := h.1.size
  refine ⟨h.1.trans h2.1 (fun i hi e => ?_), fun k hk => ?_, fun k hk => ?_⟩
  · rcases e with e | e
    · exact .inl e
    · rcases h.2.2 i e with h3 | h3
      · exact .inr h3
      · omega
  · rcases h2.2.1 k hk with h3 | h3
    · exact h.2.1 k h3
    · exact .inr (by omega)
  · rcases h2.2.2 k hk with h3 | h3
    · exact h.2.2 k h3
    · exact .inr (by omega)
/-- A turn of the journal behind a turn of its disk. -/
theorem jturn_after {fsq : List File} {s' : JA} (hk : Kept (fun k => JOwn J rv ev us k ∨ DK B fs k) w w') (hd : ∀ k, DK B fsq k → DK B fs k ∨ w.heap.size ≤ k) (h : JTurn base J B file fsq rv ev us s' w' w2) : JTurn base J B file fs rv ev us s' w w2 := by
  obtain ⟨fs', rv', ev', us', h1, h2, h3, h4, h5, h6⟩ := h
  have hs := hk.size
  refine ⟨fs', rv', ev', us', h1, h2, h3, hk.trans h4 (fun i hi e => ?_), fun k h => ?_, fun k h => ?_⟩
  · rcases e with e | e
    · exact .inl e
    · rcases hd i e with h | h
      · exact .inr h
      · omega
  · rcases h5 k h with h | h
    · exact hd k h
    · exact .inr (by omega)
  · rcases h6 k h with h | h
    · exact .inl h
    · exact .inr (by omega)

/-- The ends grow by one. -/
theorem JE.grow_ends (h : JE w base J B file rv ev us rs es off) {wA wB : World} {ev' : Value} {b : List UInt8} (hA : Kept Kno w wA) (hg : wA.grownBy wB ev.ownBlock) (hown : wB.ownsRow base 3 1 ev' (es.length + 1) (eVal es ++ [.int .i64 ((frames (es ++ [b])).length : Nat)]))
    (hat : ev'.ownBlock = ev.ownBlock ∨ ev'.ownBlock = some wA.heap.size) :
    JE (wB.setCell ⟨J, 3, none⟩ ev') base J B file rv ev' us rs (es ++ [b]) off ∧ JStep J rv ev rv ev' us us w (wB.setCell ⟨J, 3, none⟩ ev') := by
  have hA' := h.kept0 hA
  have hk1 : Kept (Kown ev) wA wB := (Kept.refl (Kown ev) wA).grown hg (fun k _ e => e)
  have hk2 : Kept (Kone J) wB (wB.setCell ⟨J, 3, none⟩ ev') := Kept.setIn (S := Kone J) (Kept.refl _ _) (p := ⟨J, 3, none⟩) (Eq.refl J) _
  have hJ : ev'.ownBlock ≠ some J := fun e => by
    rcases hat with h1 | h1
    · exact hA'.J_ev (h1 ▸ e)
    · rw [h1] at e; injection e with e; have := hA'.blk.lt; omega
  have hrrB : RR wB base rv us rs := hA'.rr.kept hk1 (fun k e e' => hA'.rr.rv_ev hA'.er e e') (fun u hu k e e' => by obtain ⟨b', hb'⟩ := hA'.rr.at hu; exact hA'.er.u_ev hb' e e')
  have hbB : Blk wB J 90 (jCells B file rv ev off) := hA'.blk.kept hk1 (fun e => hA'.J_ev e)
  refine ⟨⟨h.low, hbB.set_ 3 ev', ?_, ?_⟩, ?_, ?_, ?_⟩
  · exact hrrB.kept hk2 (fun k e e' => by unfold Kone at e'; subst e'; exact hA'.J_rv e) (fun u hu k e e' => by unfold Kone at e'; subst e'; exact hA'.J_u hu e)
  · refine ER.kept (S := Kone J) (w := wB) ?_ hk2 (fun k e e' => by unfold Kone at e'; subst e'; exact hJ e)
    unfold ER
    rw [eVal_snoc, List.length_append]
    exact hown
  · exact ((hA.mono (T := fun k => k = J ∨ rv.ownBlock = some k ∨ ev.ownBlock = some k) (fun _ _ h => h.elim)).trans hk1 (fun k _ e => .inr (.inr e))).trans hk2 (fun k _ e => .inl e)
  · have hs := hA.size
    rintro k (e | e | e | e)
    · exact .inl (.inl e)
    · exact .inl (.inr (.inl e))
    · rcases hat with h1 | h1
      · exact .inl (.inr (.inr (.inl (h1 ▸ e))))
      · rw [h1] at e; injection e with e; exact .inr (by omega)
    · exact .inl (.inr (.inr (.inr e)))
  · have hs := hA.size
    rintro k (e | e)
    · exact .inl (.inl e)
    · rcases hat with h1 | h1
      · exact .inl (.inr (h1 ▸ e))
      · rw [h1] at e; injection e with e; exact .inr (by omega)
/-- The records grow by one. -/
theorem JE.grow_recs (h : JE w base J B file rv ev us rs es off) {wA wB : World} {rv' x : Value} {b : List UInt8} (hA : Kept Kno w wA) (hx : RecIn wA base x b) (hxn : ∀ k, x.ownBlock = some k → w.heap.size ≤ k) (hg : wA.grownBy wB rv.ownBlock) (hown : wB.ownsRow base 30 1 rv' (rs.length + 1) (us ++ [x]))
    (hat : rv'.ownBlock = rv.ownBlock ∨ rv'.ownBlock = some wA.heap.size) :
    JE (wB.setCell ⟨J, 2, none⟩ rv') base J B file rv' ev (us ++ [x]) (rs ++ [b]) es off ∧ JStep J rv ev rv' ev us (us ++ [x]) w (wB.setCell ⟨J, 2, none⟩ rv') := by
  have hA' := h.kept0 hA
  have hk1 : Kept (Kown rv) wA wB := (Kept.refl (Kown rv) wA).grown hg (fun k _ e => e)
  have hk2 : Kept (Kone J) wB (wB.setCell ⟨J, 2, none⟩ rv') := Kept.setIn (S := Kone J) (Kept.refl _ _) (p := ⟨J, 2, none⟩) (Eq.refl J) _
  have hJ : rv'.ownBlock ≠ some J := fun e => by
    rcases hat with h1 | h1
    · exact hA'.J_rv (h1 ▸ e)
    · rw [h1] at e; injection e with e; have := hA'.blk.lt; omega
  have hrrB : RR wB base rv' (us ++ [x]) (rs ++ [b]) := hA'.rr.grow hx hg hown
  have hJx : x.ownBlock ≠ some J := fun e => by have := hxn J e; have := h.blk.lt; omega
  have hbB : Blk wB J 90 (jCells B file rv ev off) := hA'.blk.kept hk1 (fun e => hA'.J_rv e)
  refine ⟨⟨h.low, hbB.set_ 2 rv', ?_, ?_⟩, ?_, ?_, ?_⟩
  · refine hrrB.kept hk2 (fun k e e' => by unfold Kone at e'; subst e'; exact hJ e) (fun u hu k e e' => ?_)
    unfold Kone at e'; subst e'
    rcases List.mem_append.1 hu with hu | hu
    · exact hA'.J_u hu e
    · rw [List.mem_singleton.1 hu] at e; exact hJx e
  · exact (hA'.er.kept hk1 (fun k e e' => hA'.rr.rv_ev hA'.er e' e)).kept hk2 (fun k e e' => by unfold Kone at e'; subst e'; exact hA'.J_ev e)
  · exact ((hA.mono (T := fun k => k = J ∨ rv.ownBlock = some k ∨ ev.ownBlock = some k) (fun _ _ h => h.elim)).trans hk1 (fun k _ e => .inr (.inl e))).trans hk2 (fun k _ e => .inl e)
  · have hs := hA.size
    rintro k (e | e | e | ⟨u, hu, e⟩)
    · exact .inl (.inl e)
    · rcases hat with h1 | h1
      · exact .inl (.inr (.inl (h1 ▸ e)))
      · rw [h1] at e; injection e with e; exact .inr (by omega)
    · exact .inl (.inr (.inr (.inl e)))
    · rcases List.mem_append.1 hu with hu | hu
      · exact .inl (.inr (.inr (.inr ⟨u, hu, e⟩)))
      · rw [List.mem_singleton.1 hu] at e; exact .inr (hxn k e)
  · have hs := hA.size
    rintro k (e | e)
    · rcases hat with h1 | h1
      · exact .inl (.inl (h1 ▸ e))
      · rw [h1] at e; injection e with e; exact .inr (by omega)
    · exact .inl (.inr e)
end

end Go.Proofs.Yteoodgcpkgfomaa
