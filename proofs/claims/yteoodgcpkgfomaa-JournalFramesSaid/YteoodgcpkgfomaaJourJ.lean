/-
  Journal: the journal as its document knows it; Sync, Truncate.
-/
import Derived.Test.YteoodgcpkgfomaaJourI
namespace Go.Proofs.Yteoodgcpkgfomaa
open Go.RowKit
set_option linter.unusedVariables false

/-- A journal over a disk: the disk, the records, whether the power was seen to fail. -/
structure JA where
  a : Ab
  rs : List (List UInt8)
  off : Bool
/-- A change that the disk has been asked for: p is its answer; rs the records if it was carried out. -/
def JA.done (s : JA) (p : Ab × Int) (rs : List (List UInt8)) : JA × Int := (⟨p.1, if p.2 = 0 then rs else s.rs, decide (p.2 = 220)⟩, p.2)
def JA.sync (s : JA) (f : Int) : JA × Int := if s.off then (s, 220) else s.done (s.a.sync f) s.rs
def JA.trunc (s : JA) (f n : Int) : JA × Int :=
  if s.off then (s, 220) else if n < 0 ∨ (s.rs.length : Int) < n then (s, 1) else s.done (s.a.trunc f ((frames (s.rs.take n.toNat)).length : Nat)) (s.rs.take n.toNat)
def JA.append (s : JA) (f : Int) (b : List UInt8) : JA × Int := if s.off then (s, 220) else if 1048576 < b.length then (s, 2) else s.done (s.a.append f (frame b)) (s.rs ++ [b])
def JA.rewrite (s : JA) (f : Int) (bs : List (List UInt8)) : JA × Int := if s.off then (s, 220) else if (bs.any fun b => decide (1048576 < b.length)) then (s, 2) else s.done (s.a.replace f (frames bs)) bs

/-- The journal and its disk lie apart. -/
def JApart (J B : Nat) (fs : List File) (rv ev : Value) (us : List Value) : Prop := ∀ k, JOwn J rv ev us k → ¬ DK B fs k
/-- What a call of a journal leaves. -/
def JTurn (base J B : Nat) (file : Int) (fs : List File) (rv ev : Value) (us : List Value) (s' : JA) (w w' : World) : Prop :=
  ∃ fs' rv' ev' us', Is w' base B fs' s'.a ∧ Jr w' base J B file rv' ev' us' s'.rs s'.off ∧ JApart J B fs' rv' ev' us' ∧ Kept (fun k => JOwn J rv ev us k ∨ DK B fs k) w w' ∧
    (∀ k, DK B fs' k → DK B fs k ∨ w.heap.size ≤ k) ∧ (∀ k, JOwn J rv' ev' us' k → JOwn J rv ev us k ∨ w.heap.size ≤ k)
def JRet (base J B : Nat) (file : Int) (fs : List File) (rv ev : Value) (us : List Value) (p : JA × Int) (w : World) (e : Ending) (w' : World) : Prop := e = .returned (.int .i64 p.2) ∧ JTurn base J B file fs rv ev us p.1 w w'

section
variable {w w' : World} {base J B : Nat} {file : Int} {rv ev : Value} {us : List Value} {fs : List File} {rs : List (List UInt8)} {off : Bool} {a : Ab}
theorem jturn0 (hj : Jr w base J B file rv ev us rs off) (hi : Is w base B fs a) (ha : JApart J B fs rv ev us) (hk : Kept Kno w w') : JTurn base J B file fs rv ev us ⟨a, rs, off⟩ w w' :=
  ⟨fs, rv, ev, us, hi.kept0 hk, hj.kept0 hk, ha, hk.mono (fun _ _ h => h.elim), fun k h => .inl h, fun k h => .inl h⟩
/-- The disk was asked, and its answer noted. -/
theorem jturn_note {w1 : World} {a' : Ab} (c : Int) (hj : Jr w base J B file rv ev us rs false) (hi : Is w base B fs a) (ha : JApart J B fs rv ev us) (ht : Turn base B fs a' w w1) : JTurn base J B file fs rv ev us ⟨a', rs, decide (c = 220)⟩ w (noteTo J c w1) ∧
    ∃ fs', Is (noteTo J c w1) base B fs' a' ∧ Jr (noteTo J c w1) base J B file rv ev us rs (decide (c = 220)) ∧ JApart J B fs' rv ev us ∧ Kept (fun k => JOwn J rv ev us k ∨ DK B fs k) w (noteTo J c w1) ∧ (∀ k, DK B fs' k → DK B fs k ∨ w.heap.size ≤ k) := by
  obtain ⟨fs', hi', hk', hdk⟩ := ht.is
  have hj1 : Jr w1 base J B file rv ev us rs false := hj.kept hk' (fun k h => ha k h)
  have ha1 : JApart J B fs' rv ev us := fun k h h' => by
    rcases hdk k h' with h2 | h2
    · exact ha k h h2
    · have := (hj.own_low h).2; omega
  have key : ∃ fs', Is (noteTo J c w1) base B fs' a' ∧ Jr (noteTo J c w1) base J B file rv ev us rs (decide (c = 220)) ∧ JApart J B fs' rv ev us ∧ Kept (fun k => JOwn J rv ev us k ∨ DK B fs k) w (noteTo J c w1) ∧ (∀ k, DK B fs' k → DK B fs k ∨ w.heap.size ≤ k) := by
    unfold noteTo
    by_cases hc : c = 220
    · rw [if_pos hc, decide_eq_true hc]
      have hkJ : Kept (Kone J) w1 (w1.setCell ⟨J, 4, none⟩ (.bool true)) := Kept.setIn (S := Kone J) (Kept.refl _ _) (p := ⟨J, 4, none⟩) (Eq.refl J) _
      refine ⟨fs', ⟨hi'.1.kept hkJ (fun e => ha1 _ (.inl rfl) (.inl e.symm)) (fun f hf k e e' => ha1 _ (.inl rfl) (.inr ⟨f, hf, by unfold Kone at e'; subst e'; exact e⟩)), hi'.2⟩, hj1.set_off true, ha1, ?_, hdk⟩
      exact (hk'.mono (T := fun k => JOwn J rv ev us k ∨ DK B fs k) (fun k _ h => .inr h)).trans hkJ (fun k _ e => .inl (.inl e))
    · rw [if_neg hc, decide_eq_false hc]
      exact ⟨fs', hi', hj1, ha1, hk'.mono (fun k _ h => .inr h), hdk⟩
  refine ⟨?_, key⟩
  obtain ⟨fs2, k1, k2, k3, k4, k5⟩ := key
  exact ⟨fs2, rv, ev, us, k1, k2, k3, k4, k5, fun k h => .inl h⟩
theorem jr_turn {w1 : World} {a' : Ab} (hj : Jr w base J B file rv ev us rs off) (ha : JApart J B fs rv ev us) (ht : Turn base B fs a' w w1) : Jr w1 base J B file rv ev us rs off := by
  obtain ⟨fs', hi', hk', hdk⟩ := ht.is
  exact hj.kept hk' (fun k h => ha k h)
theorem JTurn.drew (h : JTurn base J B file fs rv ev us ⟨a, rs, off⟩ w w') {w2 : World} (hk : Kept Kno w' w2) : JTurn base J B file fs rv ev us ⟨a, rs, off⟩ w w2 := by
  obtain ⟨fs', rv', ev', us', h1, h2, h3, h4, h5, h6⟩ := h
  exact ⟨fs', rv', ev', us', h1.kept0 hk, h2.kept0 hk, h3, h4.then0 hk, h5, h6⟩
theorem JTurn.before (hk : Kept Kno w w') {w2 : World} {s' : JA} (h : JTurn base J B file fs rv ev us s' w' w2) : JTurn base J B file fs rv ev us s' w w2 := by
  obtain ⟨fs', rv', ev', us', h1, h2, h3, h4, h5, h6⟩ := h
  have := hk.size
  refine ⟨fs', rv', ev', us', h1, h2, h3, (hk.mono (T := fun k => JOwn J rv ev us k ∨ DK B fs k) (fun _ _ h => h.elim)).trans h4 (fun _ _ h => h), fun k h => ?_, fun k h => ?_⟩
  · rcases h5 k h with h | h
    · exact .inl h
    · exact .inr (by omega)
  · rcases h6 k h with h | h
    · exact .inl h
    · exact .inr (by omega)
end

set_option maxRecDepth 100000 in
set_option maxHeartbeats 1000000 in
theorem jsync_any {w : World} {base J B : Nat} {file : Int} {rv ev : Value} {us : List Value} {fs : List File} (s : JA) (hj : Jr w base J B file rv ev us s.rs s.off) (hi : Is w base B fs s.a) (ha : JApart J B fs rv ev us) :
    Calls Try.prog 43 #[.pointer (some ⟨J, 0, none⟩)] w (JRet base J B file fs rv ev us (s.sync file) w) := by
  obtain ⟨a, rs, off⟩ := s
  simp only at hj hi
  have c0 := hj.c_disk
  have c1 := hj.c_file
  have c4 := hj.c_off
  have f4 := hj.blk.frozen 4
  have HJ := Lib.hid hj
  have HI := Lib.hid hi
  have HA := Lib.hid ha
  clear hj hi ha
  unfold JA.sync
  cases off with
  | true =>
    simp only [if_true]
    have HT := Lib.hid (jturn0 HJ.out HI.out HA.out (Kept.refl Kno w))
    go_enter Try.func43, Try.ntmps43
    go_wp2
    go_ret
    exact ⟨rfl, HT.out⟩
  | false =>
    simp only [Bool.false_eq_true, if_false]
    go_enter Try.func43, Try.ntmps43
    go_wp2_with fail
    have HJd := Lib.hid (HJ.out.kept0 (Kept.drew (Kept.refl Kno w)))
    have HId := Lib.hid (HI.out.kept0 (Kept.drew (Kept.refl Kno w)))
    go_region_with (first
      | (go_at_call 53
         refine (sync_any file HId.out).mono ?_
         rintro e w1 ⟨rfl, ht⟩
         have HTN := Lib.hid ((jturn_note (a.sync file).2 HJd.out HId.out HA.out ht).1.before (Kept.drew (Kept.refl Kno w)))
         have d4 := (jr_turn HJd.out HA.out ht).c_off
         have g4 := (jr_turn HJd.out HA.out ht).blk.frozen 4)
      | (go_at_call 63
         refine (note_any J _ false w1 d4 g4).mono ?_
         rintro e w2 ⟨rfl, rfl⟩))
    all_goals
      go_wp2
      go_ret
      refine ⟨rfl, ?_⟩
      have h9 := HTN.out
      simpa [JA.done] using h9

end Go.Proofs.Yteoodgcpkgfomaa
