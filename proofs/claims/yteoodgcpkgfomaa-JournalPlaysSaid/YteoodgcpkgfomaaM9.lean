/-
  Contracts and plain laws that the claim's theorem rests on, some texts in one file.
-/
import Derived.Test.YteoodgcpkgfomaaM8
import Derived.Deep.RegionLaw
import Derived.Lib.SlBytesConst
/-
  Journal: the journal as its document knows it; Sync, Truncate.
-/
namespace Go.Proofs.Yteoodgcpkgfomaa
open Go.RowKit
set_option linter.unusedVariables false

/-- A journal over a disk: the disk, the records, whether the power was seen to fail. -/
structure JA where
  a : Ab
  rs : List (List UInt8)
  off : Bool
/-- A change that the disk has been asked for: p is its answer; rs the records if it was carried out. -/
def JA.done (s : JA) (p : Ab × Int) (rs : List (List UInt8)) : JA × Int := (⟨p.1, if p.2 = 0 then rs else s.rs, decide (p.2 = 220)⟩, p.2)
def JA.sync (s : JA) (f : Int) : JA × Int := if s.off then (s, 220) else s.done (s.a.sync f) s.rs
def JA.trunc (s : JA) (f n : Int) : JA × Int :=
  if s.off then (s, 220) else if n < 0 ∨ (s.rs.length : Int) < n then (s, 1) else s.done (s.a.trunc f ((frames (s.rs.take n.toNat)).length : Nat)) (s.rs.take n.toNat)
def JA.append (s : JA) (f : Int) (b : List UInt8) : JA × Int := if s.off then (s, 220) else if 1048576 < b.length then (s, 2) else s.done (s.a.append f (frame b)) (s.rs ++ [b])
def JA.rewrite (s : JA) (f : Int) (bs : List (List UInt8)) : JA × Int := if s.off then (s, 220) else if (bs.any fun b => decide (1048576 < b.length)) then (s, 2) else s.done (s.a.replace f (frames bs)) bs

/-- The journal and its disk lie apart. -/
def JApart (J B : Nat) (fs : List File) (rv ev : Value) (us : List Value) : Prop := ∀ k, JOwn J rv ev us k → ¬ DK B fs k
/-- What a call of a journal leaves. -/
def JTurn (base J B : Nat) (file : Int) (fs : List File) (rv ev : Value) (us : List Value) (s' : JA) (w w' : World) : Prop :=
  ∃ fs' rv' ev' us', Is w' base B fs' s'.a ∧ Jr w' base J B file rv' ev' us' s'.rs s'.off ∧ JApart J B fs' rv' ev' us' ∧ Kept (fun k => JOwn J rv ev us k ∨ DK B fs k) w w' ∧
    (∀ k, DK B fs' k → DK B fs k ∨ w.heap.size ≤ k) ∧ (∀ k, JOwn J rv' ev' us' k → JOwn J rv ev us k ∨ w.heap.size ≤ k)
def JRet (base J B : Nat) (file : Int) (fs : List File) (rv ev : Value) (us : List Value) (p : JA × Int) (w : World) (e : Ending) (w' : World) : Prop := e = .returned (.int .i64 p.2) ∧ JTurn base J B file fs rv ev us p.1 w w'

section
variable {w w' : World} {base J B : Nat} {file : Int} {rv ev : Value} {us : List Value} {fs : List File} {rs : List (List UInt8)} {off : Bool} {a : Ab}
theorem jturn0 (hj : Jr w base J B file rv ev us rs off) (hi : Is w base B fs a) (ha : JApart J B fs rv ev us) (hk : Kept Kno w w') : JTurn base J B file fs rv ev us ⟨a, rs, off⟩ w w' :=
  ⟨fs, rv, ev, us, hi.kept0 hk, hj.kept0 hk, ha, hk.mono (fun _ _ h => h.elim), fun k h => .inl h, fun k h => .inl h⟩
/-- The disk was asked, and its answer noted. -/
theorem jturn_note {w1 : World} {a' : Ab} (c : Int) (hj : Jr w base J B file rv ev us rs false) (hi : Is w base B fs a) (ha : JApart J B fs rv ev us) (ht : Turn base B fs a' w w1) : JTurn base J B file fs rv ev us ⟨a', rs, decide (c = 220)⟩ w (noteTo J c w1) ∧
    ∃ fs', Is (noteTo J c w1) base B fs' a' ∧ Jr (noteTo J c w1) base J B file rv ev us rs (decide (c = 220)) ∧ JApart J B fs' rv ev us ∧ Kept (fun k => JOwn J rv ev us k ∨ DK B fs k) w (noteTo J c w1) ∧ (∀ k, DK B fs' k → DK B fs k ∨ w.heap.size ≤ k) := by
  obtain ⟨fs', hi', hk', hdk⟩ := ht.is
  have hj1 : Jr w1 base J B file rv ev us rs false := hj.kept hk' (fun k h => ha k h)
  have ha1 : JApart J B fs' rv ev us := fun k h h' => by
    rcases hdk k h' with h2 | h2
    · exact ha k h h2
    · have := (hj.own_low h).2; omega
  have key : ∃ fs', Is (noteTo J c w1) base B fs' a' ∧ Jr (noteTo J c w1) base J B file rv ev us rs (decide (c = 220)) ∧ JApart J B fs' rv ev us ∧ Kept (fun k => JOwn J rv ev us k ∨ DK B fs k) w (noteTo J c w1) ∧ (∀ k, DK B fs' k → DK B fs k ∨ w.heap.size ≤ k) := by
    unfold noteTo
    by_cases hc : c = 220
    · rw [if_pos hc, decide_eq_true hc]
      have hkJ : Kept (Kone J) w1 (w1.setCell ⟨J, 4, none⟩ (.bool true)) := Kept.setIn (S := Kone J) (Kept.refl _ _) (p := ⟨J, 4, none⟩) (Eq.refl J) _
      refine ⟨fs', ⟨hi'.1.kept hkJ (fun e => ha1 _ (.inl rfl) (.inl e.symm)) (fun f hf k e e' => ha1 _ (.inl rfl) (.inr ⟨f, hf, by unfold Kone at e'; subst e'; exact e⟩)), hi'.2⟩, hj1.set_off true, ha1, ?_, hdk⟩
      exact (hk'.mono (T := fun k => JOwn J rv ev us k ∨ DK B fs k) (fun k _ h => .inr h)).trans hkJ (fun k _ e => .inl (.inl e))
    · rw [if_neg hc, decide_eq_false hc]
      exact ⟨fs', hi', hj1, ha1, hk'.mono (fun k _ h => .inr h), hdk⟩
  refine ⟨?_, key⟩
  obtain ⟨fs2, k1, k2, k3, k4, k5⟩ := key
  exact ⟨fs2, rv, ev, us, k1, k2, k3, k4, k5, fun k h => .inl h⟩
theorem jr_turn {w1 : World} {a' : Ab} (hj : Jr w base J B file rv ev us rs off) (ha : JApart J B fs rv ev us) (ht : Turn base B fs a' w w1) : Jr w1 base J B file rv ev us rs off := by
  obtain ⟨fs', hi', hk', hdk⟩ := ht.is
  exact hj.kept hk' (fun k h => ha k h)
theorem JTurn.drew (h : JTurn base J B file fs rv ev us ⟨a, rs, off⟩ w w') {w2 : World} (hk : Kept Kno w' w2) : JTurn base J B file fs rv ev us ⟨a, rs, off⟩ w w2 := by
  obtain ⟨fs', rv', ev', us', h1, h2, h3, h4, h5, h6⟩ := h
  exact ⟨fs', rv', ev', us', h1.kept0 hk, h2.kept0 hk, h3, h4.then0 hk, h5, h6⟩
theorem JTurn.before (hk : Kept Kno w w') {w2 : World} {s' : JA} (h : JTurn base J B file fs rv ev us s' w' w2) : JTurn base J B file fs rv ev us s' w w2 := by
  obtain ⟨fs', rv', ev', us', h1, h2, h3, h4, h5, h6⟩ := h
  have := hk.size
  refine ⟨fs', rv', ev', us', h1, h2, h3, (hk.mono (T := fun k => JOwn J rv ev us k ∨ DK B fs k) (fun _ _ h => h.elim)).trans h4 (fun _ _ h => h), fun k h => ?_, fun k h => ?_⟩
  · rcases h5 k h with h | h
    · exact .inl h
    · exact .inr (by omega)
  · rcases h6 k h with h | h
    · exact .inl h
    · exact .inr (by omega)
end

set_option maxRecDepth 100000 in
set_option maxHeartbeats 1000000 in
theorem jsync_any {w : World} {base J B : Nat} {file : Int} {rv ev : Value} {us : List Value} {fs : List File} (s : JA) (hj : Jr w base J B file rv ev us s.rs s.off) (hi : Is w base B fs s.a) (ha : JApart J B fs rv ev us) :
    Calls Try.prog 43 #[.pointer (some ⟨J, 0, none⟩)] w (JRet base J B file fs rv ev us (s.sync file) w) := by
  obtain ⟨a, rs, off⟩ := s
  simp only at hj hi
  have c0 := hj.c_disk
  have c1 := hj.c_file
  have c4 := hj.c_off
  have f4 := hj.blk.frozen 4
  have HJ := Lib.hid hj
  have HI := Lib.hid hi
  have HA := Lib.hid ha
  clear hj hi ha
  unfold JA.sync
  cases off with
  | true =>
    simp only [if_true]
    have HT := Lib.hid (jturn0 HJ.out HI.out HA.out (Kept.refl Kno w))
    go_enter Try.func43, Try.ntmps43
    go_wp2
    go_ret
    exact ⟨rfl, HT.out⟩
  | false =>
    simp only [Bool.false_eq_true, if_false]
    go_enter Try.func43, Try.ntmps43
    go_wp2_with fail
    have HJd := Lib.hid (HJ.out.kept0 (Kept.drew (Kept.refl Kno w)))
    have HId := Lib.hid (HI.out.kept0 (Kept.drew (Kept.refl Kno w)))
    go_region_with (first
      | (go_at_call 53
         refine (sync_any file HId.out).mono ?_
         rintro e w1 ⟨rfl, ht⟩
         have HTN := Lib.hid ((jturn_note (a.sync file).2 HJd.out HId.out HA.out ht).1.before (Kept.drew (Kept.refl Kno w)))
         have d4 := (jr_turn HJd.out HA.out ht).c_off
         have g4 := (jr_turn HJd.out HA.out ht).blk.frozen 4)
      | (go_at_call 63
         refine (note_any J _ false w1 d4 g4).mono ?_
         rintro e w2 ⟨rfl, rfl⟩))
    all_goals
      go_wp2
      go_ret
      refine ⟨rfl, ?_⟩
      have h9 := HTN.out
      simpa [JA.done] using h9

end Go.Proofs.Yteoodgcpkgfomaa
/-
  Journal: Append.
-/
namespace Go.Proofs.Yteoodgcpkgfomaa
open Go.RowKit
set_option linter.unusedVariables false

/-- A journal whose ends may be ahead of its records. -/
structure JE (w : World) (base J B : Nat) (file : Int) (rv ev : Value) (us : List Value) (rs es : List (List UInt8)) (off : Bool) : Prop where
  low : base ≤ J
  blk : Blk w J 90 (jCells B file rv ev off)
  rr : RR w base rv us rs
  er : ER w base ev es

section
variable {w w' w2 : World} {base J B : Nat} {file : Int} {rv ev : Value} {us : List Value} {fs : List File} {rs es : List (List UInt8)} {off : Bool} {a : Ab}
theorem Jr.je (h : Jr w base J B file rv ev us rs off) : JE w base J B file rv ev us rs rs off := ⟨h.low, h.blk, h.rr, h.er⟩
theorem JE.jr (h : JE w base J B file rv ev us rs rs off) (hf : (frames rs).length ≤ 20000000) : Jr w base J B file rv ev us rs off := ⟨h.low, h.blk, h.rr, h.er, hf⟩
theorem JE.kept0 (h : JE w base J B file rv ev us rs es off) (hk : Kept Kno w w') : JE w' base J B file rv ev us rs es off := ⟨h.low, h.blk.kept hk (fun h => h), h.rr.kept0 hk, h.er.kept0 hk⟩
theorem JE.own_low (h : JE w base J B file rv ev us rs es off) {k : Nat} (hk : JOwn J rv ev us k) : base ≤ k ∧ k < w.heap.size := by
  rcases hk with rfl | e | e | ⟨u, hu, e⟩
  · exact ⟨h.low, h.blk.lt⟩
  · exact own_base h.rr.row e
  · exact own_base h.er e
  · obtain ⟨b, hb⟩ := h.rr.at hu
    exact ⟨(hb.2 k e).1, (hb.2 k e).2.lt⟩
theorem JE.J_rv (h : JE w base J B file rv ev us rs es off) : rv.ownBlock ≠ some J := fun e => absurd (h.blk.bt.one (own_bt h.rr.row e)) (by decide)
theorem JE.J_ev (h : JE w base J B file rv ev us rs es off) : ev.ownBlock ≠ some J := fun e => absurd (h.blk.bt.one (own_bt h.er e)) (by decide)
theorem JE.J_u (h : JE w base J B file rv ev us rs es off) {u : Value} (hu : u ∈ us) : u.ownBlock ≠ some J := fun e => by
  obtain ⟨b, hb⟩ := h.rr.at hu
  exact absurd (h.blk.bt.one (hb.2 _ e).2) (by decide)
theorem is_far (hi : Is w base B fs a) {S : Nat → Prop} (hk : Kept S w w') (hS : ∀ k, S k → ¬ DK B fs k) : Is w' base B fs a :=
  ⟨hi.1.kept hk (fun e => hS _ e (.inl rfl)) (fun f hf k e e' => hS k e' (.inr ⟨f, hf, e⟩)), hi.2⟩

/-- What has changed since: only the journal's own blocks; what it owns now it owned, or is new. -/
def JStep (J : Nat) (rv ev rv' ev' : Value) (us us' : List Value) (w w' : World) : Prop :=
  Kept (fun k => k = J ∨ rv.ownBlock = some k ∨ ev.ownBlock = some k) w w' ∧ (∀ k, JOwn J rv' ev' us' k → JOwn J rv ev us k ∨ w.heap.size ≤ k) ∧
    ∀ k, (rv'.ownBlock = some k ∨ ev'.ownBlock = some k) → (rv.ownBlock = some k ∨ ev.ownBlock = some k) ∨ w.heap.size ≤ k
theorem JStep.turn {rv' ev' : Value} {us' : List Value} (h : JStep J rv ev rv' ev' us us' w w') (hi : Is w base B fs a) (ha : JApart J B fs rv ev us) (hj : Jr w' base J B file rv' ev' us' rs off) : JTurn base J B file fs rv ev us ⟨a, rs, off⟩ w w' := by
  have hw : ∀ k, (k = J ∨ rv.ownBlock = some k ∨ ev.ownBlock = some k) → JOwn J rv ev us k := fun k e => by
    rcases e with e | e | e
    · exact .inl e
    · exact .inr (.inl e)
    · exact .inr (.inr (.inl e))
  refine ⟨fs, rv', ev', us', is_far hi h.1 (fun k e => ha k (hw k e)), hj, fun k hk hd => ?_, h.1.mono (fun k _ e => .inl (hw k e)), fun k h => .inl h, h.2.1⟩
  rcases h.2.1 k hk with h3 | h3
  · exact ha k h3 hd
  · have := (hi.low hd).2; omega
theorem JStep.trans {rv1 ev1 rv2 ev2 : Value} {us1 us2 : List Value} (h : JStep J rv ev rv1 ev1 us us1 w w') (h2 : JStep J rv1 ev1 rv2 ev2 us1 us2 w' w2) : JStep J rv ev rv2 ev2 us us2 w w2 := by
  have hs := h.1.size
  refine ⟨h.1.trans h2.1 (fun i hi e => ?_), fun k hk => ?_, fun k hk => ?_⟩
  · rcases e with e | e
    · exact .inl e
    · rcases h.2.2 i e with h3 | h3
      · exact .inr h3
      · omega
  · rcases h2.2.1 k hk with h3 | h3
    · exact h.2.1 k h3
    · exact .inr (by omega)
  · rcases h2.2.2 k hk with h3 | h3
    · exact h.2.2 k h3
    · exact .inr (by omega)
/-- A turn of the journal behind a turn of its disk. -/
theorem jturn_after {fsq : List File} {s' : JA} (hk : Kept (fun k => JOwn J rv ev us k ∨ DK B fs k) w w') (hd : ∀ k, DK B fsq k → DK B fs k ∨ w.heap.size ≤ k) (h : JTurn base J B file fsq rv ev us s' w' w2) : JTurn base J B file fs rv ev us s' w w2 := by
  obtain ⟨fs', rv', ev', us', h1, h2, h3, h4, h5, h6⟩ := h
  have hs := hk.size
  refine ⟨fs', rv', ev', us', h1, h2, h3, hk.trans h4 (fun i hi e => ?_), fun k h => ?_, fun k h => ?_⟩
  · rcases e with e | e
    · exact .inl e
    · rcases hd i e with h | h
      · exact .inr h
      · omega
  · rcases h5 k h with h | h
    · exact hd k h
    · exact .inr (by omega)
  · rcases h6 k h with h | h
    · exact .inl h
    · exact .inr (by omega)

/-- The ends grow by one. -/
theorem JE.grow_ends (h : JE w base J B file rv ev us rs es off) {wA wB : World} {ev' : Value} {b : List UInt8} (hA : Kept Kno w wA) (hg : wA.grownBy wB ev.ownBlock) (hown : wB.ownsRow base 3 1 ev' (es.length + 1) (eVal es ++ [.int .i64 ((frames (es ++ [b])).length : Nat)]))
    (hat : ev'.ownBlock = ev.ownBlock ∨ ev'.ownBlock = some wA.heap.size) :
    JE (wB.setCell ⟨J, 3, none⟩ ev') base J B file rv ev' us rs (es ++ [b]) off ∧ JStep J rv ev rv ev' us us w (wB.setCell ⟨J, 3, none⟩ ev') := by
  have hA' := h.kept0 hA
  have hk1 : Kept (Kown ev) wA wB := (Kept.refl (Kown ev) wA).grown hg (fun k _ e => e)
  have hk2 : Kept (Kone J) wB (wB.setCell ⟨J, 3, none⟩ ev') := Kept.setIn (S := Kone J) (Kept.refl _ _) (p := ⟨J, 3, none⟩) (Eq.refl J) _
  have hJ : ev'.ownBlock ≠ some J := fun e => by
    rcases hat with h1 | h1
    · exact hA'.J_ev (h1 ▸ e)
    · rw [h1] at e; injection e with e; have := hA'.blk.lt; omega
  have hrrB : RR wB base rv us rs := hA'.rr.kept hk1 (fun k e e' => hA'.rr.rv_ev hA'.er e e') (fun u hu k e e' => by obtain ⟨b', hb'⟩ := hA'.rr.at hu; exact hA'.er.u_ev hb' e e')
  have hbB : Blk wB J 90 (jCells B file rv ev off) := hA'.blk.kept hk1 (fun e => hA'.J_ev e)
  refine ⟨⟨h.low, hbB.set_ 3 ev', ?_, ?_⟩, ?_, ?_, ?_⟩
  · exact hrrB.kept hk2 (fun k e e' => by unfold Kone at e'; subst e'; exact hA'.J_rv e) (fun u hu k e e' => by unfold Kone at e'; subst e'; exact hA'.J_u hu e)
  · refine ER.kept (S := Kone J) (w := wB) ?_ hk2 (fun k e e' => by unfold Kone at e'; subst e'; exact hJ e)
    unfold ER
    rw [eVal_snoc, List.length_append]
    exact hown
  · exact ((hA.mono (T := fun k => k = J ∨ rv.ownBlock = some k ∨ ev.ownBlock = some k) (fun _ _ h => h.elim)).trans hk1 (fun k _ e => .inr (.inr e))).trans hk2 (fun k _ e => .inl e)
  · have hs := hA.size
    rintro k (e | e | e | e)
    · exact .inl (.inl e)
    · exact .inl (.inr (.inl e))
    · rcases hat with h1 | h1
      · exact .inl (.inr (.inr (.inl (h1 ▸ e))))
      · rw [h1] at e; injection e with e; exact .inr (by omega)
    · exact .inl (.inr (.inr (.inr e)))
  · have hs := hA.size
    rintro k (e | e)
    · exact .inl (.inl e)
    · rcases hat with h1 | h1
      · exact .inl (.inr (h1 ▸ e))
      · rw [h1] at e; injection e with e; exact .inr (by omega)
/-- The records grow by one. -/
theorem JE.grow_recs (h : JE w base J B file rv ev us rs es off) {wA wB : World} {rv' x : Value} {b : List UInt8} (hA : Kept Kno w wA) (hx : RecIn wA base x b) (hxn : ∀ k, x.ownBlock = some k → w.heap.size ≤ k) (hg : wA.grownBy wB rv.ownBlock) (hown : wB.ownsRow base 30 1 rv' (rs.length + 1) (us ++ [x]))
    (hat : rv'.ownBlock = rv.ownBlock ∨ rv'.ownBlock = some wA.heap.size) :
    JE (wB.setCell ⟨J, 2, none⟩ rv') base J B file rv' ev (us ++ [x]) (rs ++ [b]) es off ∧ JStep J rv ev rv' ev us (us ++ [x]) w (wB.setCell ⟨J, 2, none⟩ rv') := by
  have hA' := h.kept0 hA
  have hk1 : Kept (Kown rv) wA wB := (Kept.refl (Kown rv) wA).grown hg (fun k _ e => e)
  have hk2 : Kept (Kone J) wB (wB.setCell ⟨J, 2, none⟩ rv') := Kept.setIn (S := Kone J) (Kept.refl _ _) (p := ⟨J, 2, none⟩) (Eq.refl J) _
  have hJ : rv'.ownBlock ≠ some J := fun e => by
    rcases hat with h1 | h1
    · exact hA'.J_rv (h1 ▸ e)
    · rw [h1] at e; injection e with e; have := hA'.blk.lt; omega
  have hrrB : RR wB base rv' (us ++ [x]) (rs ++ [b]) := hA'.rr.grow hx hg hown
  have hJx : x.ownBlock ≠ some J := fun e => by have := hxn J e; have := h.blk.lt; omega
  have hbB : Blk wB J 90 (jCells B file rv ev off) := hA'.blk.kept hk1 (fun e => hA'.J_rv e)
  refine ⟨⟨h.low, hbB.set_ 2 rv', ?_, ?_⟩, ?_, ?_, ?_⟩
  · refine hrrB.kept hk2 (fun k e e' => by unfold Kone at e'; subst e'; exact hJ e) (fun u hu k e e' => ?_)
    unfold Kone at e'; subst e'
    rcases List.mem_append.1 hu with hu | hu
    · exact hA'.J_u hu e
    · rw [List.mem_singleton.1 hu] at e; exact hJx e
  · exact (hA'.er.kept hk1 (fun k e e' => hA'.rr.rv_ev hA'.er e' e)).kept hk2 (fun k e e' => by unfold Kone at e'; subst e'; exact hA'.J_ev e)
  · exact ((hA.mono (T := fun k => k = J ∨ rv.ownBlock = some k ∨ ev.ownBlock = some k) (fun _ _ h => h.elim)).trans hk1 (fun k _ e => .inr (.inl e))).trans hk2 (fun k _ e => .inl e)
  · have hs := hA.size
    rintro k (e | e | e | ⟨u, hu, e⟩)
    · exact .inl (.inl e)
    · rcases hat with h1 | h1
      · exact .inl (.inr (.inl (h1 ▸ e)))
      · rw [h1] at e; injection e with e; exact .inr (by omega)
    · exact .inl (.inr (.inr (.inl e)))
    · rcases List.mem_append.1 hu with hu | hu
      · exact .inl (.inr (.inr (.inr ⟨u, hu, e⟩)))
      · rw [List.mem_singleton.1 hu] at e; exact .inr (hxn k e)
  · have hs := hA.size
    rintro k (e | e)
    · rcases hat with h1 | h1
      · exact .inl (.inl (h1 ▸ e))
      · rw [h1] at e; injection e with e; exact .inr (by omega)
    · exact .inl (.inr e)
end

end Go.Proofs.Yteoodgcpkgfomaa
/-
  Journal: the contract of Append.
-/
namespace Go.Proofs.Yteoodgcpkgfomaa
open Go.RowKit
set_option linter.unusedVariables false

/-- Where a region ends, if it ends at all. -/
def Mid (N : Act → World → Prop) : Exit → Act → World → Prop
  | .normal, a, w => N a w
  | _, _, _ => False
theorem Mid.out {N : Act → World → Prop} {e : Exit} {a : Act} {w : World} (h : Mid N e a w) : e = .normal ∧ N a w := by
  cases e <;> first | exact ⟨rfl, h⟩ | exact h.elim

/-- A call of one argument inside a drawn region, by its contract. -/
theorem step_call1 {P : Program} {w : World} {ops : Array Oper} {o : Oper} {a : Act} {K : Act → World → Prop} {Q : Exit → Act → World → Prop} {E : Prop} (hgd : o.guard = none) (f : FuncId) (x : Operand) (t : TypeId)
    (ho : o.op = .call { callee := .value (.func f), args := #[x], argTypes := #[t] }) (he : ∀ args w, (callFunc f args).run P w = .ok (.enter f args) w) (v : Value) (hx : a.eval x = v) {R : Ending → World → Prop} (hc : Calls P f #[v] w R)
    (hR : ∀ e w', R e w' → ∃ u, e = .returned u ∧ K (a.put o.dst u) w') : if Region.wanted o (yielded ops a.tmps) = true then Oper.wp P o a w K Q else E := by
  have hw : Region.wanted o (yielded ops a.tmps) = true := by simp [Region.wanted, hgd]
  rw [if_pos hw]
  unfold Oper.wp execOp
  have hres0 : ∀ ρ : Operand → Value, ρ (.func f) = .func (.func f) #[] #[] → ρ x = v → (resolve ρ { callee := .value (.func f), args := #[x], argTypes := #[t] } o.type).run P w = .ok { target := .fn (.func f) #[], args := #[v] } w := by
    intro ρ h1 h2
    simp [resolve, go_sem, h1, h2]
  have hres := hres0 a.eval rfl hx
  simp only [ho, Sem.run_bind, hres, Result.andThen_ok]
  simp [invoke, go_sem, he, Oper.upon]
  refine hc.mono ?_
  intro e w' hr
  obtain ⟨u, rfl, hk⟩ := hR e w' hr
  exact hk

theorem appendText_nil (b : List UInt8) (w : World) (hb : b.length ≤ 16000000) : Calls Try.prog 32 #[.slice none 0 0, strOf b] w (RetB (frame b) w) := by
  have h := appendText_any (.slice none 0 0) [] ⟨b.toArray⟩ w ⟨none, 0, rfl, by simp, by simp, fun _ => ⟨rfl, rfl⟩, (fun ad h => by cases h)⟩ (by show 0 + b.length ≤ 16000000; omega)
  have e : ([] : List UInt8) ++ (leb (⟨b.toArray⟩ : ByteArray).size ++ sbytes ⟨b.toArray⟩) = frame b := by
    simp only [List.nil_append, frame, sbytes]
    rfl
  rw [e] at h
  exact h

set_option maxRecDepth 100000 in
set_option maxHeartbeats 1000000 in
theorem jappend_no {w : World} {base J B : Nat} {file : Int} {rv ev : Value} {us : List Value} {fs : List File} (s : JA) (v : Value) (b : List UInt8) (hj : Jr w base J B file rv ev us s.rs s.off) (hi : Is w base B fs s.a) (ha : JApart J B fs rv ev us) (hb : Bs w v b)
    (hno : s.off = true ∨ 1048576 < b.length) :
    Calls Try.prog 28 #[.pointer (some ⟨J, 0, none⟩), v] w (JRet base J B file fs rv ev us (s.append file b) w) := by
  obtain ⟨a, rs, off⟩ := s
  simp only at hj hi hno
  have c4 := hj.c_off
  have HT := Lib.hid (jturn0 hj hi ha (Kept.refl Kno w))
  obtain ⟨A, cap, rfl, -⟩ := hb
  clear hj hi ha
  unfold JA.append
  cases off with
  | true =>
    simp only [if_true]
    go_enter Try.func28, Try.ntmps28
    go_wp2
    go_ret
    exact ⟨rfl, HT.out⟩
  | false =>
    have hlen : 1048576 < b.length := by simpa using hno
    simp only [Bool.false_eq_true, if_false, if_pos hlen]
    have hl2 : (1048576 : Int) < (b.length : Int) := by omega
    go_enter Try.func28, Try.ntmps28
    go_wp2
    go_ret
    exact ⟨rfl, HT.out⟩

set_option maxRecDepth 100000 in
set_option maxHeartbeats 4000000 in
theorem jappend_yes {w : World} {base J B : Nat} {file : Int} {rv ev : Value} {us : List Value} {fs : List File} (a : Ab) (rs : List (List UInt8)) (v : Value) (b : List UInt8) (hj : Jr w base J B file rv ev us rs false) (hi : Is w base B fs a) (ha : JApart J B fs rv ev us) (hb : Bs w v b)
    (hbJ : ∀ w1, Kept (fun k => JOwn J rv ev us k ∨ DK B fs k) w w1 → Bs w1 v b) (hlen : b.length ≤ 1048576) (hfit : (a.append file (frame b)).2 = 0 → (frames (rs ++ [b])).length ≤ 20000000) (hbase : base ≤ w.heap.size) :
    Calls Try.prog 28 #[.pointer (some ⟨J, 0, none⟩), v] w (JRet base J B file fs rv ev us ((⟨a, rs, false⟩ : JA).done (a.append file (frame b)) (rs ++ [b])) w) := by
  obtain ⟨i0, hi0, hz0, hz1, hz2⟩ := info_parts info_byte
  obtain ⟨j0, hj0, hy0, hy1, hy2⟩ := info_parts info_recs
  obtain ⟨k0, hk0, hx0, hx1, hx2⟩ := info_parts info_ends
  have c0 := hj.c_disk
  have c1 := hj.c_file
  have c4 := hj.c_off
  have HJ := Lib.hid hj
  have HI := Lib.hid hi
  have HA := Lib.hid ha
  have HB := Lib.hid hb
  have HBJ := Lib.hid hbJ
  have HF := Lib.hid hfit
  have t1 := run_string_bs (P := Try.prog) 30 9 5 hb Try.underlying30 Try.underlying5 Try.underlying9
  obtain ⟨A, cap, rfl, -⟩ := hb
  obtain ⟨⟨a', c⟩, hp⟩ : ∃ p, p = a.append file (frame b) := ⟨_, rfl⟩
  have HP := Lib.hid hp
  have hl2 : ¬ (1048576 : Int) < (b.length : Int) := by omega
  rw [← hp]
  clear hj hi ha hbJ hfit hp
  have hat := fun w => appendText_nil b w (by omega)
  simp only [strOf] at hat
  have HAT := Lib.hid hat
  clear hat
  go_enter Try.func28, Try.ntmps28
  go_wp2_with fail
  refine (HAT.out w).mono ?_
  rintro e w1 ⟨A1, cap1, rfl, hown1, hk1⟩
  have HO1 := Lib.hid hown1
  have HJ1 := Lib.hid (HJ.out.kept0 hk1)
  have HI1 := Lib.hid (HI.out.kept0 hk1)
  clear hown1 c0 c1 c4 t1
  have c0 := HJ1.out.c_disk
  have c1 := HJ1.out.c_file
  have c4 := HJ1.out.c_off
  go_wp2_with fail
  have HJd := Lib.hid (HJ1.out.kept0 (Kept.drew (Kept.refl Kno w1)))
  have HId := Lib.hid (HI1.out.kept0 (Kept.drew (Kept.refl Kno w1)))
  have HOd := Lib.hid (own_kept HO1.out (Kept.drew (Kept.refl Kno w1)) (fun _ _ h => h))
  have hap := append_any file _ (frame b) HId.out (OwnB.bs HOd.out)
  rw [← HP.out] at hap
  have HAP := Lib.hid hap
  clear hap
  refine wp_mono (Q := Mid fun a3 w3 => a3 = { tmps := #[.pointer (some ⟨J, 0, none⟩), .slice A b.length cap, undef, undef, .int .i64 0, .slice A1 (frame b).length cap1, .int .i64 c, .pointer (some ⟨J, 0, none⟩), .pointer (some ⟨J, 0, none⟩), .pointer (some ⟨J, 4, none⟩), .bool false, .slice A b.length cap, .int .i64 b.length, .bool false, .slice A b.length cap, .string ⟨b.toArray⟩, .slice A1 (frame b).length cap1, .pointer (some ⟨J, 0, none⟩), .pointer (some ⟨J, 0, none⟩), .pointer (some ⟨J, 0, none⟩), .pointer (some ⟨J, 0, none⟩), .pointer (some ⟨B, 0, none⟩), .pointer (some ⟨J, 0, none⟩), .pointer (some ⟨J, 0, none⟩), .pointer (some ⟨J, 1, none⟩), .int .i64 file, .slice A1 (frame b).length cap1, .int .i64 c, .int .i64 c, undef, undef, undef, undef, undef, undef, undef, undef, undef, undef, undef, undef, undef, undef, undef, undef, undef, undef, undef, undef, undef, undef, undef, undef, undef, undef, undef, undef], defers := [] } ∧ ∃ fsq, Is w3 base B fsq a' ∧ Jr w3 base J B file rv ev us rs (decide (c = 220)) ∧ JApart J B fsq rv ev us ∧ Kept (fun k => JOwn J rv ev us k ∨ DK B fs k) w w3 ∧ (∀ k, DK B fsq k → DK B fs k ∨ w.heap.size ≤ k)) ?_ ?_
  · go_region_with (first
      | (go_at_call 33
         refine HAP.out.mono ?_
         rintro e w2 ⟨rfl, ht⟩
         have HTN := Lib.hid ((jturn_note c HJd.out HId.out HA.out ht).2)
         have d4 := (jr_turn HJd.out HA.out ht).c_off
         have g4 := (jr_turn HJd.out HA.out ht).blk.frozen 4
         clear ht)
      | (go_at_call 63
         refine (note_any J _ false w2 d4 g4).mono ?_
         rintro e w3 ⟨rfl, hw3⟩
         rw [← hw3] at HTN
         clear hw3))
    all_goals
      go_wp2
      obtain ⟨fsq, q1, q2, q3, q4, q5⟩ := HTN.out
      have hkd := hk1.then0 (Kept.drew (Kept.refl Kno w1))
      have hsz := hkd.size
      exact ⟨rfl, fsq, q1, q2, q3, (hkd.mono (T := fun k => JOwn J rv ev us k ∨ DK B fs k) (fun _ _ h => h.elim)).trans q4 (fun _ _ h => h), fun k h => (q5 k h).imp_right (fun h => by omega)⟩
  intro e a3 w3 hmid
  obtain ⟨rfl, rfl, fsq, hiq, hjq, haq, hkq, hdkq⟩ := hmid.out
  clear HAP HJd HId HOd c0 c1 c4
  by_cases hc : c = 0
  · subst hc
    rw [decide_eq_false (show ¬ (0 : Int) = 220 by decide)] at hjq
    have HIQ := Lib.hid hiq
    have HJQ := Lib.hid hjq
    have HAQ := Lib.hid haq
    have HKQ := Lib.hid hkq
    have HDQ := Lib.hid hdkq
    have hFb : (frames rs).length ≤ 20000000 := HJ.out.fit
    have hMb : (frame b).length ≤ 1048590 := by have := (leb_length b.length).2; rw [frame_length]; omega
    have hwb : base ≤ w3.heap.size := Nat.le_trans hbase hkq.size
    clear hiq hjq haq hkq hdkq
    have c3 := HJQ.out.c_ends
    have f3 := HJQ.out.blk.frozen 3
    have lJ := HJQ.out.blk.lt
    obtain ⟨Ae, ce, hev⟩ := own_form HJQ.out.er
    have HEV := Lib.hid hev
    rw [hev] at c3
    have HJQd := Lib.hid (HJQ.out.kept0 (Kept.drew (Kept.refl Kno w3)))
    have m1 : rs.length + 1 ≤ maxLen := by have := HJQ.out.cnt; simp only [maxLen]; omega
    have hcn : rs.length ≤ 20000000 := HJQ.out.cnt
    have hwr : IntKind.i64.wrap (((frames rs).length : Int) + ((frame b).length : Int)) = (((frames (rs ++ [b])).length : Nat) : Int) := by
      rw [IntWalk.i64_in _ (by omega), frames_snoc, List.length_append]; omega
    clear hev
    go_wp2_with fail
    refine wp_mono (Q := Mid fun a5 w6 => ∃ A5 cap5, a5 = { tmps := #[.pointer (some ⟨J, 0, none⟩), .slice A b.length cap, undef, undef, .int .i64 0, .slice A1 (frame b).length cap1, .int .i64 0, .pointer (some ⟨J, 0, none⟩), .pointer (some ⟨J, 0, none⟩), .pointer (some ⟨J, 4, none⟩), .bool false, .slice A b.length cap, .int .i64 b.length, .bool false, .slice A b.length cap, .string ⟨b.toArray⟩, .slice A1 (frame b).length cap1, .pointer (some ⟨J, 0, none⟩), .pointer (some ⟨J, 0, none⟩), .pointer (some ⟨J, 0, none⟩), .pointer (some ⟨J, 0, none⟩), .pointer (some ⟨B, 0, none⟩), .pointer (some ⟨J, 0, none⟩), .pointer (some ⟨J, 0, none⟩), .pointer (some ⟨J, 1, none⟩), .int .i64 file, .slice A1 (frame b).length cap1, .int .i64 0, .int .i64 0, .int .i64 0, .bool false, undef, .pointer (some ⟨J, 0, none⟩), .pointer (some ⟨J, 0, none⟩), .pointer (some ⟨J, 0, none⟩), .pointer (some ⟨J, 3, none⟩), .slice Ae rs.length ce, .pointer (some ⟨J, 0, none⟩), .int .i64 ((frames rs).length : Nat), .slice A1 (frame b).length cap1, .int .i64 (frame b).length, .int .i64 (((frames (rs ++ [b])).length : Nat) : Int), .slice (some ⟨w3.heap.size, 0, none⟩) 1 1, .slice A5 (rs.length + 1) cap5, .pointer (some ⟨J, 0, none⟩), .pointer (some ⟨J, 3, none⟩), undef, undef, undef, undef, undef, undef, undef, undef, undef, undef, undef], defers := [] } ∧ JE w6 base J B file rv (.slice A5 (rs.length + 1) cap5) us rs (rs ++ [b]) false ∧ JStep J rv ev rv (.slice A5 (rs.length + 1) cap5) us us w3 w6) ?_ ?_
    · go_region_law (first
        | (refine step_call1 (by rfl) 64 _ _ (by rfl) (enters_of Try.func64 (by kernel_rfl) rfl) _ (by rfl) (size_j HJQd.out) ?_
           rintro e w4 ⟨rfl, nn, rfl⟩
           have c3n : (w3.drewN (1 + nn)).cell? ⟨J, 3, none⟩ = some (.slice Ae rs.length ce) := c3
           have c3m : ∀ o, ((w3.drewN (1 + nn)).alloc o).cell? ⟨J, 3, none⟩ = some (.slice Ae rs.length ce) := fun o => Kept.cell_some ((Kept.drewN (Kept.refl Kno w3) (1 + nn)).alloc o) c3 (fun h => h)
           refine ⟨_, rfl, ?_⟩)
        | (refine step_append_rd _ (by rfl) _ _ 31 (by rfl) base 3 k0 _ 1 8 Try.underlying31 hk0 hx0 hx1 hx2 rfl (by omega) (.slice Ae rs.length ce) rs.length (eVal rs) (by rfl) (by have h9 := HJQ.out.er; rw [HEV.out] at h9; exact World.ownsRow.alloc (own_kept h9 (Kept.drewN (Kept.drew (Kept.refl Kno w3)) nn) (fun _ _ h => h)) _) _ 1 [.int .i64 (((frames (rs ++ [b])).length : Nat) : Int)] (by rfl) (by rw [← hwr]; exact Rd.one _ _ _ rfl) (by simp [Value.oneCell']) m1 (by omega) (by simp; omega) ?_
           intro A5 cap5 w5 hown5 hg5 hat5
           have hk5 : Kept (Kown (.slice Ae rs.length ce)) w3 w5 := ((Kept.drewN (Kept.refl _ w3) (1 + nn)).alloc _).grown hg5 (fun k _ e => e)
           have hJe : ¬ Kown (.slice Ae rs.length ce) J := by have h9 := HJQ.out.je.J_ev; rw [HEV.out] at h9; exact h9
           have q3 := hk5.cell_some c3 hJe
           have q3' := hk5.frozen_no f3 lJ hJe
           have HG := Lib.hid (HJQ.out.je.grow_ends (b := b) ((Kept.drewN (Kept.refl Kno w3) (1 + nn)).alloc _) (by rw [HEV.out]; exact hg5) hown5 (by rw [HEV.out]; exact hat5))))
      all_goals
        exact ⟨A5, cap5, rfl, HG.out.1, HG.out.2⟩
    intro e a5 w6 hmid
    obtain ⟨rfl, A5, cap5, rfl, hje, hst⟩ := hmid.out
    have hk6 : Kept (fun k => JOwn J rv ev us k ∨ DK B fs k) w w6 := HKQ.out.trans hst.1 (fun k _ e => by
      rcases e with e | e | e
      · exact .inl (.inl e)
      · exact .inl (.inr (.inl e))
      · exact .inl (.inr (.inr (.inl e))))
    have HB6 := Lib.hid (HBJ.out w6 hk6)
    have HJE := Lib.hid hje
    have HST := Lib.hid hst
    have hw6 : base ≤ w6.heap.size := Nat.le_trans hwb hst.1.size
    have c2 := hje.blk.cell 2
    have f2 := hje.blk.frozen 2
    have l2 := hje.blk.lt
    obtain ⟨Ar, cr, hrv⟩ := own_form hje.rr.row
    have HRV := Lib.hid hrv
    have c2' : w6.cell? ⟨J, 2, none⟩ = some (.slice Ar rs.length cr) := by rw [← hrv]; exact c2
    clear hje hst c2 hk6 hrv c3 f3 lJ HJQd hwr
    have m2 : 0 + b.length ≤ maxLen := by simp only [maxLen]; omega
    go_wp2_with fail
    refine wp_mono (Q := Mid fun a7 w10 => (∃ X7 X8 X9 : Value, a7 = { tmps := #[.pointer (some ⟨J, 0, none⟩), .slice A b.length cap, undef, undef, .int .i64 0, .slice A1 (frame b).length cap1, .int .i64 0, .pointer (some ⟨J, 0, none⟩), .pointer (some ⟨J, 0, none⟩), .pointer (some ⟨J, 4, none⟩), .bool false, .slice A b.length cap, .int .i64 b.length, .bool false, .slice A b.length cap, .string ⟨b.toArray⟩, .slice A1 (frame b).length cap1, .pointer (some ⟨J, 0, none⟩), .pointer (some ⟨J, 0, none⟩), .pointer (some ⟨J, 0, none⟩), .pointer (some ⟨J, 0, none⟩), .pointer (some ⟨B, 0, none⟩), .pointer (some ⟨J, 0, none⟩), .pointer (some ⟨J, 0, none⟩), .pointer (some ⟨J, 1, none⟩), .int .i64 file, .slice A1 (frame b).length cap1, .int .i64 0, .int .i64 0, .int .i64 0, .bool false, undef, .pointer (some ⟨J, 0, none⟩), .pointer (some ⟨J, 0, none⟩), .pointer (some ⟨J, 0, none⟩), .pointer (some ⟨J, 3, none⟩), .slice Ae rs.length ce, .pointer (some ⟨J, 0, none⟩), .int .i64 ((frames rs).length : Nat), .slice A1 (frame b).length cap1, .int .i64 (frame b).length, .int .i64 (((frames (rs ++ [b])).length : Nat) : Int), .slice (some ⟨w3.heap.size, 0, none⟩) 1 1, .slice A5 (rs.length + 1) cap5, .pointer (some ⟨J, 0, none⟩), .pointer (some ⟨J, 3, none⟩), .pointer (some ⟨J, 0, none⟩), .pointer (some ⟨J, 0, none⟩), .pointer (some ⟨J, 0, none⟩), .pointer (some ⟨J, 2, none⟩), .slice Ar rs.length cr, .slice A b.length cap, X7, X8, X9, .pointer (some ⟨J, 0, none⟩), .pointer (some ⟨J, 2, none⟩)], defers := [] }) ∧ ∃ rv' us', JE w10 base J B file rv' (.slice A5 (rs.length + 1) cap5) us' (rs ++ [b]) (rs ++ [b]) false ∧ JStep J rv (.slice A5 (rs.length + 1) cap5) rv' (.slice A5 (rs.length + 1) cap5) us us' w6 w10) ?_ ?_
    · go_region_law (first
        | (refine step_append_rd _ (by rfl) _ _ 30 (by rfl) w6.heap.size 5 i0 _ 1 1 Try.underlying30 hi0 hz0 hz1 hz2 rfl (by omega) (.slice none 0 0) 0 [] (by rfl) (World.ownsRow_nil _ _ _ _) _ b.length (b.map bv) (by rfl) (Rd.drew HB6.out) (bvs_one b) m2 (by omega) (by simp) ?_
           intro A7 cap7 w7 hown7 hg7 hat7
           have hk7 : Kept Kno w6 w7 := (Kept.drew (Kept.refl _ w6)).grown hg7 (fun k _ e => by cases e)
           have HO7 : Hid (OwnB w7 w6.heap.size 5 (.slice A7 b.length cap7) b) := Lib.hid (by have h9 := hown7; rw [Nat.zero_add, List.nil_append] at h9; exact h9)
           have c7 := hk7.cell_some c2' (fun h => h)
           have c7m : ∀ o, (w7.alloc o).cell? ⟨J, 2, none⟩ = some (.slice Ar rs.length cr) := fun o => Kept.cell_some (hk7.alloc o) c2' (fun h => h)
           have hs7 := hk7.size
           rw [Nat.zero_add]
           clear hown7 hg7 hat7)
        | (refine step_append_rd _ (by rfl) _ _ 45 (by rfl) base 30 j0 _ 1 24 Try.underlying45 hj0 hy0 hy1 hy2 rfl (by omega) (.slice Ar rs.length cr) rs.length us (by rfl) (by have h9 := HJE.out.rr.row; rw [HRV.out] at h9; exact World.ownsRow.alloc (own_kept h9 hk7 (fun _ _ h => h)) _) _ 1 [.slice A7 b.length cap7] (by rfl) (Rd.one _ _ _ rfl) (by simp [Value.oneCell']) m1 (by omega) (by simp; omega) ?_
           intro A9 cap9 w9 hown9 hg9 hat9
           have hk9 : Kept (Kown (.slice Ar rs.length cr)) w6 w9 := ((hk7.mono (T := Kown (.slice Ar rs.length cr)) (fun _ _ h => h.elim)).alloc _).grown hg9 (fun k _ e => e)
           have hJr : ¬ Kown (.slice Ar rs.length cr) J := by have h9 := HJE.out.J_rv; rw [HRV.out] at h9; exact h9
           have q2 := hk9.cell_some c2' hJr
           have q2' := hk9.frozen_no f2 l2 hJr
           have hO := own_kept HO7.out ((Kept.refl Kno w7).alloc (.cells #[.slice A7 b.length cap7] 30)) (fun _ _ h => h)
           have HG := Lib.hid (HJE.out.grow_recs (b := b) (hk7.alloc _) ((RecIn.own hO).rebase hw6) (fun k e => (own_base hO e).1) (by rw [HRV.out]; exact hg9) hown9 (by rw [HRV.out]; exact hat9))))
      all_goals
        exact ⟨⟨_, _, _, rfl⟩, _, _, HG.out.1, HG.out.2⟩
    intro e a7 w10 hmid
    obtain ⟨rfl, ⟨X7, X8, X9, rfl⟩, rv', us', hje2, hst2⟩ := hmid.out
    have hjf : Jr w10 base J B file rv' (.slice A5 (rs.length + 1) cap5) us' (rs ++ [b]) false := hje2.jr (HF.out (by rw [← HP.out]))
    have HTN := Lib.hid (jturn_after HKQ.out HDQ.out ((HST.out.trans hst2).turn HIQ.out HAQ.out hjf))
    clear hje2 hst2 hjf
    go_wp2
    go_ret
    refine ⟨rfl, ?_⟩
    have h9 := HTN.out
    simpa [JA.done] using h9
  · have HTN := Lib.hid (show JTurn base J B file fs rv ev us ⟨a', rs, decide (c = 220)⟩ w w3 from ⟨fsq, rv, ev, us, hiq, hjq, haq, hkq, hdkq, fun k h => .inl h⟩)
    clear hiq hjq haq hkq hdkq
    go_wp2
    go_ret
    refine ⟨rfl, ?_⟩
    have h9 := HTN.out
    simpa [JA.done, hc] using h9

end Go.Proofs.Yteoodgcpkgfomaa
/-
  Journal: Open.
-/
namespace Go.Proofs.Yteoodgcpkgfomaa
open Go.RowKit
set_option linter.unusedVariables false

/-- What Open does: the disk behind it, its answer, the records. -/
def jopen (a : Ab) (f : Int) : Ab × Int × Option (List (List UInt8)) :=
  if (a.read f).2 ≠ 0 then (a, (a.read f).2, none)
  else if (scan (a.read f).1).2.1 = (a.read f).1.length then (a, 0, some (scan (a.read f).1).1)
  else if (loadAt (a.read f).1).2 = false then (a, 230, none)
  else if (a.trunc f ((scan (a.read f).1).2.1 : Nat)).2 = 0 then ((a.trunc f ((scan (a.read f).1).2.1 : Nat)).1, 0, some (scan (a.read f).1).1)
  else ((a.trunc f ((scan (a.read f).1).2.1 : Nat)).1, (a.trunc f ((scan (a.read f).1).2.1 : Nat)).2, none)

def OpenVal (B : Nat) (f : Int) (fs' : List File) (code : Int) (w w' : World) (e : Ending) : Option (List (List UInt8)) → Prop
  | none => e = .returned (.tuple #[.pointer none, .int .i64 code])
  | some rs => ∃ J rv ev us, e = .returned (.tuple #[.pointer (some ⟨J, 0, none⟩), .int .i64 code]) ∧ Jr w' w.heap.size J B f rv ev us rs false ∧ JApart J B fs' rv ev us
def OpenOk (base B : Nat) (f : Int) (fs : List File) (r : Ab × Int × Option (List (List UInt8))) (w : World) (e : Ending) (w' : World) : Prop :=
  ∃ fs', Is w' base B fs' r.1 ∧ Kept (DK B fs) w w' ∧ (∀ k, DK B fs' k → DK B fs k ∨ w.heap.size ≤ k) ∧ OpenVal B f fs' r.2.1 w w' e r.2.2

theorem Jr.rebase {w : World} {base base' J B : Nat} {file : Int} {rv ev : Value} {us : List Value} {rs : List (List UInt8)} {off : Bool} (h : Jr w base J B file rv ev us rs off) (hb : base' ≤ base) : Jr w base' J B file rv ev us rs off :=
  ⟨Nat.le_trans hb h.low, h.blk, h.rr.rebase hb, h.er.rebase hb, h.fit⟩

/-- The journal that load has filled. -/
theorem load_jr {w w1 w2 : World} {B : Nat} {f : Int} {l : List UInt8} {rv ev : Value} {us : List Value} {o : Obj} (hk1 : Kept Kno w w1) (hl : l.length ≤ 1000000) (hk2 : Kept (Kone w1.heap.size) (w1.alloc o) w2) (hb : Blk w2 w1.heap.size 90 (jCells B f rv ev false))
    (hr : RR w2 (w1.alloc o).heap.size rv us (scan l).1) (he : ER w2 (w1.alloc o).heap.size ev (scan l).1) : Jr w2 w.heap.size w1.heap.size B f rv ev us (scan l).1 false ∧ Kept Kno w w2 := by
  have hs := hk1.size
  have hz : (w1.alloc o).heap.size = w1.heap.size + 1 := by simp
  rw [hz] at hr he
  have hsc := scan_any l
  refine ⟨⟨hs, hb, hr.rebase (by omega), he.rebase (by omega), ?_⟩, (hk1.alloc o).trans hk2 (fun i hi e => by unfold Kone at e; omega)⟩
  rw [← hsc.1]; omega

set_option maxRecDepth 100000 in
set_option maxHeartbeats 2000000 in
theorem open_any (base B : Nat) (f : Int) (fs : List File) (a : Ab) (w : World) (hi : Is w base B fs a) (hl : (a.read f).1.length ≤ 1000000) :
    Calls Try.prog 27 #[.pointer (some ⟨B, 0, none⟩), .int .i64 f] w (OpenOk base B f fs (jopen a f) w) := by
  have HI := Lib.hid hi
  clear hi
  obtain ⟨⟨l, c⟩, hr⟩ : ∃ p, p = a.read f := ⟨_, rfl⟩
  have HR := Lib.hid hr
  unfold jopen
  rw [← hr] at hl ⊢
  simp only at hl ⊢
  clear hr
  by_cases hc : c = 0
  · rw [if_neg (by simpa using hc)]
    subst hc
    have hsc := scan_any l
    have hla : (loadAt l).1 = (scan l).2.1 := rfl
    have HSC := Lib.hid hsc
    by_cases he : (scan l).2.1 = l.length
    · rw [if_pos he]
      have HE := Lib.hid he
      clear hsc he hla
      go_enter Try.func27, Try.ntmps27
      go_wp2_with fail
      refine (read_any f HI.out).mono ?_
      rw [← HR.out]
      rintro e w1 ⟨A1, cap1, rfl, hown1, hk1⟩
      have HO1 := Lib.hid hown1
      clear hown1
      go_wp2_with fail
      refine (load_any w1.heap.size B f _ l _ (Blk.new w1 90 #[.pointer (some ⟨B, 0, none⟩), .int .i64 f, .slice none 0 0, .slice none 0 0, .bool false]) (Rd.kept0 (OwnB.bs HO1.out) ((Kept.refl Kno w1).alloc _)) hl).mono ?_
      rintro e w2 ⟨he2, hk2, rv, ev, us, hb2, hr2, her2⟩
      obtain ⟨hjr, hk⟩ := load_jr hk1 hl hk2 hb2 hr2 her2
      have e9 : loadAt l = (l.length, decide ((scan l).2.2 = 20) && unfin l (scan l).2.1) := by simp only [loadAt, HE.out]
      rw [e9] at he2
      subst he2
      generalize (decide ((scan l).2.2 = 20) && unfin l (scan l).2.1) = tt
      have HJR := Lib.hid hjr
      have HI2 := Lib.hid (HI.out.kept0 hk)
      clear hk2 hb2 hr2 her2 e9 hjr
      go_wp2
      go_ret2
      refine ⟨fs, HI2.out, hk.mono (fun _ _ h => h.elim), fun k h => .inl h, w1.heap.size, rv, ev, us, rfl, HJR.out, fun k h h' => ?_⟩
      have := (HJR.out.own_low h).1
      have := (HI.out.low h').2
      omega
    · rw [if_neg he]
      obtain ⟨N, hN⟩ : ∃ N, N = (scan l).2.1 := ⟨_, rfl⟩
      have hNl : N ≤ l.length := by rw [hN]; exact hsc.2.2.2.1
      have hNe : N ≠ l.length := by rw [hN]; exact he
      have hi1 : ((N : Int) == (l.length : Int)) = false := by simp; omega
      rw [← hN]
      have HN := Lib.hid hN
      clear hsc he hla hN
      by_cases ht : (loadAt l).2 = false
      · rw [if_pos ht]
        have HE : Hid (loadAt l = (N, false)) := Lib.hid (by rw [HN.out]; ext1; rfl; exact ht)
        clear ht
        go_enter Try.func27, Try.ntmps27
        go_wp2_with fail
        refine (read_any f HI.out).mono ?_
        rw [← HR.out]
        rintro e w1 ⟨A1, cap1, rfl, hown1, hk1⟩
        have HO1 := Lib.hid hown1
        clear hown1
        go_wp2_with fail
        refine (load_any w1.heap.size B f _ l _ (Blk.new w1 90 #[.pointer (some ⟨B, 0, none⟩), .int .i64 f, .slice none 0 0, .slice none 0 0, .bool false]) (Rd.kept0 (OwnB.bs HO1.out) ((Kept.refl Kno w1).alloc _)) hl).mono ?_
        rintro e w2 ⟨he2, hk2, rv, ev, us, hb2, hr2, her2⟩
        obtain ⟨hjr, hk⟩ := load_jr hk1 hl hk2 hb2 hr2 her2
        rw [HE.out] at he2
        subst he2
        have HI2 := Lib.hid (HI.out.kept0 hk)
        clear hk2 hb2 hr2 her2 hjr
        go_wp2
        go_ret2
        exact ⟨fs, HI2.out, hk.mono (fun _ _ h => h.elim), fun k h => .inl h, rfl⟩
      · rw [if_neg ht]
        have HE : Hid (loadAt l = (N, true)) := Lib.hid (by rw [HN.out]; ext1; rfl; simpa using ht)
        clear ht
        obtain ⟨⟨a', c'⟩, hp⟩ : ∃ p, p = a.trunc f (N : Nat) := ⟨_, rfl⟩
        rw [← hp]
        have HP := Lib.hid hp
        clear hp
        simp only
        by_cases hc' : c' = 0
        · subst hc'
          rw [if_pos rfl]
          go_enter Try.func27, Try.ntmps27
          go_wp2_with fail
          refine (read_any f HI.out).mono ?_
          rw [← HR.out]
          rintro e w1 ⟨A1, cap1, rfl, hown1, hk1⟩
          have HO1 := Lib.hid hown1
          clear hown1
          go_wp2_with fail
          refine (load_any w1.heap.size B f _ l _ (Blk.new w1 90 #[.pointer (some ⟨B, 0, none⟩), .int .i64 f, .slice none 0 0, .slice none 0 0, .bool false]) (Rd.kept0 (OwnB.bs HO1.out) ((Kept.refl Kno w1).alloc _)) hl).mono ?_
          rintro e w2 ⟨he2, hk2, rv, ev, us, hb2, hr2, her2⟩
          obtain ⟨hjr, hk⟩ := load_jr hk1 hl hk2 hb2 hr2 her2
          rw [HE.out] at he2
          subst he2
          have HI2 := Lib.hid (HI.out.kept0 hk)
          have HJR := Lib.hid hjr
          clear hk2 hb2 hr2 her2 hjr
          go_wp2_with fail
          have htr := trunc_any f (N : Nat) HI2.out
          rw [← HP.out] at htr
          refine htr.mono ?_
          rintro e w3 ⟨rfl, htn⟩
          obtain ⟨fs3, hi3, hk3, hd3⟩ := htn.is
          have hlo := hk.size
          have HF : Hid (Is w3 base B fs3 a' ∧ Kept (DK B fs) w w3 ∧ (∀ k, DK B fs3 k → DK B fs k ∨ w.heap.size ≤ k) ∧ Jr w3 w.heap.size w1.heap.size B f rv ev us (scan l).1 false ∧ JApart w1.heap.size B fs3 rv ev us) := Lib.hid (by
            have hap : ∀ k, JOwn w1.heap.size rv ev us k → ¬ DK B fs k := fun k h h' => by
              have := (HJR.out.own_low h).1
              have := (HI.out.low h').2
              omega
            refine ⟨hi3, (hk.mono (T := DK B fs) (fun _ _ h => h.elim)).trans hk3 (fun _ _ h => h), fun k h => (hd3 k h).imp_right (fun h => by omega), HJR.out.kept hk3 hap, fun k h h' => ?_⟩
            rcases hd3 k h' with h2 | h2
            · exact hap k h h2
            · have := (HJR.out.own_low h).2; omega)
          clear htn hi3 hk3 hd3 htr
          go_wp2
          go_ret2
          exact ⟨fs3, HF.out.1, HF.out.2.1, HF.out.2.2.1, w1.heap.size, rv, ev, us, rfl, HF.out.2.2.2.1, HF.out.2.2.2.2⟩
        · rw [if_neg hc']
          go_enter Try.func27, Try.ntmps27
          go_wp2_with fail
          refine (read_any f HI.out).mono ?_
          rw [← HR.out]
          rintro e w1 ⟨A1, cap1, rfl, hown1, hk1⟩
          have HO1 := Lib.hid hown1
          clear hown1
          go_wp2_with fail
          refine (load_any w1.heap.size B f _ l _ (Blk.new w1 90 #[.pointer (some ⟨B, 0, none⟩), .int .i64 f, .slice none 0 0, .slice none 0 0, .bool false]) (Rd.kept0 (OwnB.bs HO1.out) ((Kept.refl Kno w1).alloc _)) hl).mono ?_
          rintro e w2 ⟨he2, hk2, rv, ev, us, hb2, hr2, her2⟩
          obtain ⟨hjr, hk⟩ := load_jr hk1 hl hk2 hb2 hr2 her2
          rw [HE.out] at he2
          subst he2
          have HI2 := Lib.hid (HI.out.kept0 hk)
          have HJR := Lib.hid hjr
          clear hk2 hb2 hr2 her2 hjr
          go_wp2_with fail
          have htr := trunc_any f (N : Nat) HI2.out
          rw [← HP.out] at htr
          refine htr.mono ?_
          rintro e w3 ⟨rfl, htn⟩
          obtain ⟨fs3, hi3, hk3, hd3⟩ := htn.is
          have hlo := hk.size
          have HF : Hid (Is w3 base B fs3 a' ∧ Kept (DK B fs) w w3 ∧ (∀ k, DK B fs3 k → DK B fs k ∨ w.heap.size ≤ k) ∧ Jr w3 w.heap.size w1.heap.size B f rv ev us (scan l).1 false ∧ JApart w1.heap.size B fs3 rv ev us) := Lib.hid (by
            have hap : ∀ k, JOwn w1.heap.size rv ev us k → ¬ DK B fs k := fun k h h' => by
              have := (HJR.out.own_low h).1
              have := (HI.out.low h').2
              omega
            refine ⟨hi3, (hk.mono (T := DK B fs) (fun _ _ h => h.elim)).trans hk3 (fun _ _ h => h), fun k h => (hd3 k h).imp_right (fun h => by omega), HJR.out.kept hk3 hap, fun k h h' => ?_⟩
            rcases hd3 k h' with h2 | h2
            · exact hap k h h2
            · have := (HJR.out.own_low h).2; omega)
          clear htn hi3 hk3 hd3 htr
          go_wp2
          go_ret2
          exact ⟨fs3, HF.out.1, HF.out.2.1, HF.out.2.2.1, rfl⟩
  · rw [if_pos (by simpa using hc)]
    go_enter Try.func27, Try.ntmps27
    go_wp2_with fail
    refine (read_any f HI.out).mono ?_
    rw [← HR.out]
    rintro e w1 ⟨A1, cap1, rfl, hown1, hk1⟩
    clear hown1
    go_wp2
    go_ret2
    exact ⟨fs, HI.out.kept0 hk1, hk1.mono (fun _ _ h => h.elim), fun k h => .inl h, rfl⟩

end Go.Proofs.Yteoodgcpkgfomaa
/-
  Disk: begun.
-/
namespace Go.Proofs.Yteoodgcpkgfomaa
open Go.RowKit
set_option linter.unusedVariables false

def ab0 (room : Int) : Ab := ⟨room, List.replicate 8 ([], 0), false, 0⟩
theorem is_new (w : World) (base : Nat) (room : Int) (hb : base ≤ w.heap.size) (h0 : 0 ≤ room) (h1 : room ≤ 16777216) :
    Is (w.alloc (.cells (dCells room (List.replicate 8 noFile) false 0).toArray 87)) base w.heap.size (List.replicate 8 noFile) (ab0 room) :=
  ⟨dsk_new w base room hb h0 h1, by simp [ab0, noFile, File.ab]⟩

theorem bs_lit (w : World) (l : List UInt8) (fr : Nat × Nat) (t : TypeId) : Bs (w.alloc (.cells (l.map bv).toArray t fr)) (.slice (some ⟨w.heap.size, 0, none⟩) l.length l.length) l := by
  refine ⟨_, _, rfl, by simp, by simp, (fun h => by cases h), fun ad hA j u hj => ?_⟩
  cases hA
  rw [add_lit0, Nat.zero_add, cell_of_row _ w.heap.size j (l.map bv).toArray t fr (heap_alloc_new w _)]
  simpa using hj
theorem keep_nil (w : World) : KeepIn w (.slice none 0 0) [] := ⟨none, 0, rfl, by simp, by simp, fun h => by simp at h⟩

set_option maxHeartbeats 2000000 in
theorem begun_any (w : World) : Calls Try.prog 24 #[] w (RetNew (.bool true) w) := by
  have kc := fun (w : World) (C : Array Value) (n c : Nat) => Lib.run_convert_bytes_const (P := Try.prog) w 30 5 C n c Try.underlying30 Try.underlying5
  go_enter Try.func24, Try.ntmps24
  go_wp2_with fail
  refine (new_ok 3 _ (by omega) (by omega)).mono ?_
  rintro e w1 ⟨rfl, hw1⟩
  have hk1 : Kept Kno w w1 := by rw [hw1]; exact (Kept.refl _ _).alloc _
  have hn1 : Is w1 w.heap.size w.heap.size (List.replicate 8 noFile) (ab0 3) := by rw [hw1]; exact is_new w _ 3 (Nat.le_refl _) (by omega) (by omega)
  have HN1 := Lib.hid hn1
  clear hw1 hn1
  go_wp2_with fail
  refine (append_any 0 _ [97, 98] (HN1.out.kept0 ((Kept.refl _ _).alloc _)) (bs_lit w1 [97, 98] _ _)).mono ?_
  rintro e w2 ⟨he, ht⟩
  obtain ⟨fs2, hi2, hkk2, -⟩ := ht.is
  have hk2 : Kept Kno w w2 := (HN1.out.kept0 ((Kept.refl _ _).alloc _)).kept (hk1.alloc _) (Nat.le_refl _) hkk2
  have HI2 := Lib.hid hi2
  have ec : ((ab0 3).append 0 [97, 98]).2 = 0 := by decide
  rw [ec] at he
  subst he
  clear ht hi2 hkk2 HN1 ec
  go_wp2_with fail
  refine (sync_any 0 HI2.out).mono ?_
  rintro e w3 ⟨he, ht⟩
  obtain ⟨fs3, hi3, hkk3, -⟩ := ht.is
  have hk3 : Kept Kno w w3 := HI2.out.kept hk2 (Nat.le_refl _) hkk3
  have HI3 := Lib.hid hi3
  have ec : (((ab0 3).append 0 [97, 98]).1.sync 0).2 = 0 := by decide
  rw [ec] at he
  subst he
  clear ht hi3 hkk3 HI2 ec
  go_wp2_with fail
  refine (append_any 0 _ [99] (HI3.out.kept0 ((Kept.refl _ _).alloc _)) (bs_lit w3 [99] _ _)).mono ?_
  rintro e w4 ⟨he, ht⟩
  obtain ⟨fs4, hi4, hkk4, -⟩ := ht.is
  have hk4 : Kept Kno w w4 := (HI3.out.kept0 ((Kept.refl _ _).alloc _)).kept (hk3.alloc _) (Nat.le_refl _) hkk4
  have HI4 := Lib.hid hi4
  have ec : ((((ab0 3).append 0 [97, 98]).1.sync 0).1.append 0 [99]).2 = 0 := by decide
  rw [ec] at he
  subst he
  clear ht hi4 hkk4 HI3 ec
  go_wp2_with fail
  refine (append_any 1 _ [100] (HI4.out.kept0 ((Kept.refl _ _).alloc _)) (bs_lit w4 [100] _ _)).mono ?_
  rintro e w5 ⟨he, ht⟩
  obtain ⟨fs5, hi5, hkk5, -⟩ := ht.is
  have hk5 : Kept Kno w w5 := (HI4.out.kept0 ((Kept.refl _ _).alloc _)).kept (hk4.alloc _) (Nat.le_refl _) hkk5
  have HI5 := Lib.hid hi5
  have ec : (((((ab0 3).append 0 [97, 98]).1.sync 0).1.append 0 [99]).1.append 1 [100]).2 = 221 := by decide
  rw [ec] at he
  subst he
  clear ht hi5 hkk5 HI4 ec
  go_wp2_with fail
  refine (crash_any _ [] HI5.out (fun w1 _ => keep_nil w1)).mono ?_
  rintro e w6 ⟨rfl, ht⟩
  obtain ⟨fs6, hi6, hkk6, -⟩ := ht.is
  have hk6 : Kept Kno w w6 := HI5.out.kept hk5 (Nat.le_refl _) hkk6
  have HI6 := Lib.hid hi6
  clear ht hi6 hkk6 HI5
  go_wp2_with fail
  refine (read_any 0 HI6.out).mono ?_
  have ec : (((((((ab0 3).append 0 [97, 98]).1.sync 0).1.append 0 [99]).1.append 1 [100]).1.crash []).read 0) = ([97, 98], 0) := by decide
  rw [ec]
  rintro e w7 ⟨A, cap, rfl, hown, hk7⟩
  have t1 := run_string_bs (P := Try.prog) 30 9 5 hown.bs Try.underlying30 Try.underlying5 Try.underlying9
  simp only [List.length_cons, List.length_nil, Nat.zero_add, Nat.reduceAdd] at t1
  clear hown ec HI6
  go_wp2
  go_ret
  exact ⟨rfl, hk6.then0 hk7⟩

end Go.Proofs.Yteoodgcpkgfomaa
/-
  Journal: what the laws share: same, cut, begun.
-/
namespace Go.Proofs.Yteoodgcpkgfomaa
open Go.RowKit
set_option linter.unusedVariables false

theorem equal_quiet {v u : Value} {l m : List UInt8} {w : World} (hv : Bs w v l) (hu : Bs w u m) (n : Nat) :
    Calls Try.prog 23 #[v, u] (w.drewN n) fun e w' => e = .returned (.bool (decide (l = m))) ∧ w' = w.drewN n :=
  (equal_any v u l m (w.drewN n) (Rd.drewN hv n) (Rd.drewN hu n)).mono fun _ _ ⟨a, b⟩ => ⟨a, b.symm⟩
def SameRel (la lb : List (List UInt8)) (w : World) (i : Value) (wr : World) : Prop :=
  ∃ k : Nat, k ≤ la.length ∧ i = .int .i64 k ∧ la.take k = lb.take k ∧ Kept Kno w wr
theorem take_next {α : Type} {la lb : List α} {k : Nat} {x y : α} (h : la.take k = lb.take k) (hx : la[k]? = some x) (hy : lb[k]? = some y) (e : x = y) : la.take (k + 1) = lb.take (k + 1) := by
  rw [List.take_add_one, List.take_add_one, h, hx, hy, e]

set_option maxHeartbeats 2000000 in
theorem same_j (va vb : Value) (xs ys : List Value) (la lb : List (List UInt8)) (w : World) (ha : LsR w va xs la) (hb : LsR w vb ys lb) (hn : la.length ≤ 100000000) (hm : lb.length ≤ 100000000) :
    Calls Try.prog 30 #[va, vb] w fun e w' => e = .returned (.bool (decide (la = lb))) ∧ Kept Kno w w' := by
  have HA := Lib.hid ha
  have HB := Lib.hid hb
  obtain ⟨Aa, capa, rfl, hca⟩ := ha.form
  obtain ⟨Ab, capb, rfl, hcb⟩ := hb.form
  clear ha hb
  by_cases hl : la.length = lb.length
  · have HL := Lib.hid hl
    have hl1 : ((la.length : Int) == (lb.length : Int)) = true := by rw [hl]; simp
    have hl2 : ((la.length : Int) != (lb.length : Int)) = false := by rw [hl]; simp
    clear hl
    go_enter Try.func30, Try.ntmps30
    go_wp2_with fail
    go_loopw [13] (fun i wr => SameRel la lb w i wr) (fun i _ => la.length - (intOf i).toNat)
    case atStart => exact ⟨0, Nat.zero_le _, rfl, rfl, Kept.refl _ _⟩
    case round =>
      obtain ⟨k, hk, rfl, htk, hkk⟩ := hrel
      have HT := Lib.hid htk
      clear htk
      by_cases hlt : k < la.length
      · have ha := HA.out.kept0 hkk
        have hb := HB.out.kept0 hkk
        have hlb : k < lb.length := by have := HL.out; omega
        have hla := List.getElem?_eq_getElem hlt
        have hlb' := List.getElem?_eq_getElem hlb
        generalize la[k] = p at hla
        generalize lb[k] = q at hlb'
        obtain ⟨ga, oa, ca, x, hva, hx, c1⟩ := ha.at hlt
        obtain ⟨gb, ob, cb, y, hvb, hy, c2⟩ := hb.at hlb
        have hox := ha.2 k x p hx hla
        have hoy := hb.2 k y q hy hlb'
        have HBX := Lib.hid hox
        have HBY := Lib.hid hoy
        obtain ⟨Ax, cx, rfl, -⟩ := hox
        obtain ⟨Ay, cy, rfl, -⟩ := hoy
        injection hva with e1 e2 e3
        injection hvb with e4 e5 e6
        subst e1 e3 e4 e6
        have HLA := Lib.hid hla
        have HLB := Lib.hid hlb'
        have hk0 : (0 : Int) ≤ (k : Int) := by omega
        have hk1 : (k : Int) < (la.length : Int) := by omega
        have hk2 : (k : Int) < (lb.length : Int) := by omega
        clear ha hb hx hy hla hlb' e2 e5
        by_cases hpq : p = q
        · have HPQ := Lib.hid hpq
          have hdec : decide (p = q) = true := by simp [hpq]
          have hq : ∀ n, Calls Try.prog 23 #[.slice Ax p.length cx, .slice Ay q.length cy] (wr.drewN n) fun e w' => e = .returned (.bool true) ∧ w' = wr.drewN n := fun n => by have h9 := equal_quiet HBX.out HBY.out n; rwa [hdec] at h9
          have HQ := Lib.hid hq
          clear hq
          clear hpq
          go_wp2_with fail
          go_quiet ((go_at_call 23; exact Calls.quiet_of_same (HQ.out _)))
          go_wp2
          go_roundw
          case rel => exact ⟨k + 1, by omega, by go_num, take_next HT.out HLA.out HLB.out HPQ.out, hkk.drewN _⟩
          case measure => simp [intOf]; omega
        · have hdec : decide (p = q) = false := by simp [hpq]
          have hq : ∀ n, Calls Try.prog 23 #[.slice Ax p.length cx, .slice Ay q.length cy] (wr.drewN n) fun e w' => e = .returned (.bool false) ∧ w' = wr.drewN n := fun n => by have h9 := equal_quiet HBX.out HBY.out n; rwa [hdec] at h9
          have HQ := Lib.hid hq
          clear hq
          have hne : decide (la = lb) = false := by
            simp only [decide_eq_false_iff_not]
            intro e
            have h1 := HLA.out
            have h2 := HLB.out
            rw [e, h2] at h1
            injection h1 with h1
            exact hpq h1.symm
          have HNE := Lib.hid hne
          clear hpq hne
          go_wp2_with fail
          go_quiet ((go_at_call 23; exact Calls.quiet_of_same (HQ.out _)))
          go_wp2
          go_ret
          exact ⟨by rw [HNE.out]; rfl, hkk.drewN _⟩
      · have hk9 : ¬ (k : Int) < (la.length : Int) := by omega
        have hka : k = la.length := by omega
        have hee : decide (la = lb) = true := by
          have := HT.out
          rw [List.take_of_length_le (by omega), List.take_of_length_le (by have := HL.out; omega)] at this
          simp [this]
        have HEE := Lib.hid hee
        clear hee hka
        go_wp2
        go_ret
        exact ⟨by rw [HEE.out]; rfl, hkk⟩
  · have e2 : decide (la = lb) = false := by simp; exact fun h => hl (by rw [h])
    rw [e2]
    have hl1 : ((la.length : Int) == (lb.length : Int)) = false := by simp; omega
    have hl2 : ((la.length : Int) != (lb.length : Int)) = true := by simp; omega
    clear e2
    go_enter Try.func30, Try.ntmps30
    go_wp2
    go_ret
    exact ⟨rfl, Kept.refl _ _⟩

theorem jappend_any {w : World} {base J B : Nat} {file : Int} {rv ev : Value} {us : List Value} {fs : List File} (s : JA) (v : Value) (b : List UInt8) (hj : Jr w base J B file rv ev us s.rs s.off) (hi : Is w base B fs s.a) (ha : JApart J B fs rv ev us) (hb : Bs w v b)
    (hbJ : ∀ w1, Kept (fun k => JOwn J rv ev us k ∨ DK B fs k) w w1 → Bs w1 v b) (hfit : s.off = false → b.length ≤ 1048576 → (s.a.append file (frame b)).2 = 0 → (frames (s.rs ++ [b])).length ≤ 20000000) (hbase : base ≤ w.heap.size) :
    Calls Try.prog 28 #[.pointer (some ⟨J, 0, none⟩), v] w (JRet base J B file fs rv ev us (s.append file b) w) := by
  by_cases hno : s.off = true ∨ 1048576 < b.length
  · exact jappend_no s v b hj hi ha hb hno
  · obtain ⟨a, rs, off⟩ := s
    simp only [not_or, Bool.not_eq_true] at hno
    obtain ⟨h1, h2⟩ := hno
    subst h1
    simp only [JA.append, Bool.false_eq_true, if_false, if_neg h2]
    exact jappend_yes a rs v b hj hi ha hb hbJ (by omega) (hfit rfl (by omega)) hbase

end Go.Proofs.Yteoodgcpkgfomaa
