/-
  Packet: the writer: numbers, counts, bools, rows.
-/
import Derived.Test.YtffdaohmalmkfaaGreatPakA
import Derived.Deep.RegionHeld3
namespace Go.Proofs.YtffdaohmalmkfaaGreat
open Go.RowKit
set_option linter.unusedVariables false

/-- Block D is a writer that has gathered l, its slice v in memory of its own behind D. -/
structure Wr (w : World) (D : Nat) (v : Value) (l : List UInt8) : Prop where
  blk : Blk w D 104 #[v]
  own : OwnB w D 5 v l
/-- The blocks that a writer may change. -/
def Kw (D : Nat) (v : Value) : Nat → Prop := fun k => k = D ∨ v.ownBlock = some k
/-- What a writer's call leaves: only the writer and its row have changed, and its row is the old one or new. -/
structure WStep (D : Nat) (v : Value) (w : World) (v' : Value) (w' : World) : Prop where
  k : Kept (Kw D v) w w'
  at_ : ∀ k, v'.ownBlock = some k → v.ownBlock = some k ∨ w.heap.size ≤ k
/-- A writer's call. -/
def WrOk (D : Nat) (v : Value) (l : List UInt8) (w : World) (e : Ending) (w' : World) : Prop := ∃ v', e = .returned (.tuple #[]) ∧ Wr w' D v' l ∧ WStep D v w v' w'

theorem Wr.kept {w w' : World} {D : Nat} {v : Value} {l : List UInt8} (h : Wr w D v l) (hk : Kept Kno w w') : Wr w' D v l := ⟨h.blk.kept hk (fun h => h), own_kept h.own hk (fun _ _ h => h)⟩
theorem Wr.lt {w : World} {D : Nat} {v : Value} {l : List UInt8} (h : Wr w D v l) : D < w.heap.size := h.blk.lt
theorem Wr.form {w : World} {D : Nat} {v : Value} {l : List UInt8} (h : Wr w D v l) : ∃ A cap, v = .slice A l.length cap := own_form h.own
theorem Wr.ne {w : World} {D : Nat} {v : Value} {l : List UInt8} (h : Wr w D v l) : v.ownBlock ≠ some D := own_blk_ne h.own h.blk (by decide)
theorem Wr.low {w : World} {D : Nat} {v : Value} {l : List UInt8} (h : Wr w D v l) {k : Nat} (hk : Kw D v k) : D ≤ k := by
  rcases hk with rfl | hk
  · exact Nat.le_refl _
  · exact (own_base h.own hk).1
theorem Wr.hi {w : World} {D : Nat} {v : Value} {l : List UInt8} (h : Wr w D v l) {k : Nat} (hk : Kw D v k) : k < w.heap.size := by
  rcases hk with rfl | hk
  · exact h.blk.lt
  · exact (own_base h.own hk).2
theorem WStep.refl (D : Nat) (v : Value) (w : World) : WStep D v w v w := ⟨Kept.refl _ _, fun k h => .inl h⟩
theorem WStep.trans {D : Nat} {v v1 v2 : Value} {w w1 w2 : World} (h : WStep D v w v1 w1) (h2 : WStep D v1 w1 v2 w2) : WStep D v w v2 w2 := by
  have hs := h.k.size
  refine ⟨h.k.trans h2.k (fun i hi hk => ?_), fun k hk => ?_⟩
  · rcases hk with rfl | hk
    · exact .inl rfl
    · rcases h.at_ i hk with h | h
      · exact .inr h
      · omega
  · rcases h2.at_ k hk with hk | hk
    · exact h.at_ k hk
    · exact .inr (by omega)
theorem WStep.new {D : Nat} {v : Value} {w w' : World} (hk : Kept Kno w w') : WStep D v w v w' := ⟨hk.mono (fun _ _ h => h.elim), fun k h => .inl h⟩
theorem WStep.then0 {D : Nat} {v v1 : Value} {w w1 w2 : World} (h : WStep D v w v1 w1) (hk : Kept Kno w1 w2) : WStep D v w v1 w2 := h.trans (.new hk)
/-- What was there before the writer's blocks is as it was. -/
theorem WStep.old {D B : Nat} {v v' : Value} {w w' : World} {l : List UInt8} (h : WStep D v w v' w') (hw : Wr w D v l) (hB : B ≤ D) : Old B w w' :=
  h.k.old (by have := hw.lt; omega) (fun k hk hs => by have := hw.low hs; omega)
/-- A block that is new behind the writer's. -/
theorem WStep.blk {D g : Nat} {v v' : Value} {w w' : World} {l : List UInt8} {t : TypeId} {cs : Array Value} (h : WStep D v w v' w') (hg : Blk w g t cs) (hn : ¬ Kw D v g) : Blk w' g t cs := hg.kept h.k hn
/-- A block that a writer leaves alone. -/
structure Gd (w : World) (D : Nat) (v : Value) (g : Nat) (t : TypeId) (cs : Array Value) : Prop where
  b : Blk w g t cs
  no : ¬ Kw D v g
theorem Gd.step {w w' : World} {D g : Nat} {v v' : Value} {t : TypeId} {cs : Array Value} (h : Gd w D v g t cs) (hs : WStep D v w v' w') : Gd w' D v' g t cs := by
  refine ⟨h.b.kept hs.k h.no, fun hk => ?_⟩
  have hlt := h.b.lt
  rcases hk with rfl | hk
  · exact h.no (.inl rfl)
  · rcases hs.at_ g hk with h2 | h2
    · exact h.no (.inr h2)
    · omega
theorem Gd.new {w : World} {D : Nat} {v : Value} {l : List UInt8} (h : Wr w D v l) (cs : Array Value) (t : TypeId) : Gd (w.alloc (.cells cs t)) D v w.heap.size t cs :=
  ⟨Blk.new _ _ _, fun hk => by have := h.hi hk; omega⟩
theorem WrOk.after {D : Nat} {v v1 : Value} {l : List UInt8} {w w1 w2 : World} {e : Ending} (h : WStep D v w v1 w1) (h2 : WrOk D v1 l w1 e w2) : WrOk D v l w e w2 := by
  obtain ⟨v2, a, b, c⟩ := h2
  exact ⟨v2, a, b, h.trans c⟩

theorem grow_wr {D m : Nat} {A A2 : Option Addr} {cap cap2 : Nat} {l news : List UInt8} {w w1 w2 : World} (h : Wr w D (.slice A l.length cap) l) (hk : Kept Kno w w1) (hm : news.length = m)
    (hown2 : w2.ownsRow D 5 1 (.slice A2 (l.length + m) cap2) (l.length + m) (l.map bv ++ news.map bv)) (hg2 : w1.grownBy w2 (Value.slice A l.length cap).ownBlock)
    (hat2 : (Value.slice A2 (l.length + m) cap2).ownBlock = (Value.slice A l.length cap).ownBlock ∨ (Value.slice A2 (l.length + m) cap2).ownBlock = some w1.heap.size) :
    WrOk D (.slice A l.length cap) (l ++ news) w (.returned (.tuple #[])) (w2.setCell ⟨D, 0, none⟩ (.slice A2 (l.length + m) cap2)) := by
  obtain ⟨hD, ho⟩ := h
  have hs := hk.size
  have e : (l ++ news).length = l.length + m := by rw [List.length_append, hm]
  have hb2 := (hD.kept hk (fun h => h)).grown hg2 (fun h => own_blk_ne ho hD (by decide) h.symm)
  refine ⟨_, rfl, ⟨hb2.set_ 0 _, ?_⟩, ?_, fun k hk => ?_⟩
  · unfold OwnB
    rw [e, List.map_append]
    exact own_far hown2 (own_blk_ne hown2 hb2 (by decide)) _
  · exact ((hk.mono (T := Kw D (.slice A l.length cap)) (fun _ _ h => h.elim)).grown hg2 (fun k _ h => .inr h)).setIn (p := ⟨D, 0, none⟩) (.inl rfl) _
  · rcases hat2 with h | h
    · rw [h] at hk; exact .inl hk
    · rw [h] at hk; injection hk with hk; exact .inr (by omega)

theorem appendInt_nil (n : Int) (w : World) (hn : I64 n) : Calls Tryz.prog 83 #[.slice none 0 0, .int .i64 n] w (RetB (inum n) w) := appendInt_any _ [] n w (bs_nil _) hn.1 hn.2 (by simp)

set_option maxRecDepth 100000 in
set_option maxHeartbeats 1000000 in
theorem wnumber_any (D : Nat) (v : Value) (l : List UInt8) (n : Int) (w : World) (h : Wr w D v l) (hn : I64 n) (hl : l.length ≤ 1000000000000) :
    Calls Tryz.prog 35 #[.pointer (some ⟨D, 0, none⟩), .int .i64 n] w (WrOk D v (l ++ inum n) w) := by
  obtain ⟨i0, hi, hz0, hz1, hz2⟩ := info_parts info_byte
  obtain ⟨A, cap, rfl⟩ := h.form
  have H := Lib.hid h
  have hlt := h.lt
  have c0 : w.cell? ⟨D, 0, none⟩ = some (.slice A l.length cap) := h.blk.cell 0
  have f0 := h.blk.frozen 0
  have hlen := (leb_length (zz n)).2
  have hne := h.ne
  have m1 : l.length + (inum n).length ≤ maxLen := by unfold inum; simp only [maxLen]; omega
  have m2 : (l.length + (inum n).length) * 1 ≤ 140737488355328 := by unfold inum; omega
  have HN := Lib.hid hn
  clear h hn
  go_enter Tryz.func35, Tryz.ntmps35
  go_region_law
    (first | (rw [if_pos (by rfl)]; go_simp; refine (appendInt_nil n _ HN.out).mono ?_; rintro e w1 ⟨A1, cap1, rfl, hown, hk'⟩; have hk : Kept Kno w w1 := Kept.then0 (Kept.drew (Kept.refl _ w)) hk'; have q0 := hk.cell_some c0 (fun h => h); have q2 := hk.frozen_no f0 hlt (fun h => h); have HO1 : Hid (OwnB w1 w.drew.heap.size 5 (.slice A1 (inum n).length cap1) (inum n)) := Lib.hid hown; clear hk' hown)
           | (refine step_append_rd _ (by rfl) _ _ 22 (by rfl) D 5 i0 _ 1 1 Tryz.underlying22 hi hz0 hz1 hz2 rfl (by decide) (.slice A l.length cap) l.length (l.map bv) (by rfl) (own_kept H.out.own hk (fun _ _ h => h)) (.slice A1 (inum n).length cap1) (inum n).length ((inum n).map bv) (by rfl) HO1.out.bs (bvs_one _) m1 m2 (by have := hk.size; omega) ?_
              intro A2 cap2 w2 hown2 hg2 hat2
              have q1 := hg2.cell q0 (fun e => hne e.symm)
              have q3 : w2.frozen? ⟨D, 0, none⟩ = false := (World.frozen?_of_block (hg2.block D (by have := hk.size; omega) (fun e => hne e.symm))).trans q2))
  all_goals
    go_wp2
    go_end0
    exact grow_wr H.out hk rfl hown2 hg2 hat2

end Go.Proofs.YtffdaohmalmkfaaGreat
