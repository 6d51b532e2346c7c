/-
  Network: what a network is in memory, and the contracts of Len, Lost, Send.
-/
import Derived.Test.YtcpidgpjifmimaaNetA
import Derived.StillTailTactics
import Derived.Deep.RegionLaw
namespace Go.Proofs.Ytcpidgpjifmimaa
open Go.RowKit
set_option linter.unusedVariables false

/-- A message: its number, the slice value of its bytes, and the bytes. -/
structure Pk where
  dst : Int
  v : Value
  l : List UInt8

def Pk.abs (p : Pk) : Int × List UInt8 := (p.dst, p.l)
def pkCells (ps : List Pk) : List Value := ps.flatMap fun p => [.int .i64 p.dst, p.v]
theorem pkCells_length (ps : List Pk) : (pkCells ps).length = ps.length * 2 := by
  induction ps with
  | nil => rfl
  | cons p ps ih => simp only [pkCells, List.flatMap_cons, List.length_append, List.length_cons, List.length_nil] at ih ⊢; omega
theorem pkCells_append (ps qs : List Pk) : pkCells (ps ++ qs) = pkCells ps ++ pkCells qs := by simp [pkCells]

/-- A message's bytes lie in a block of bytes of their own. -/
def PkIn (w : World) (base : Nat) (p : Pk) : Prop := OwnB w base 5 p.v p.l ∧ p.l.length ≤ 140737488355328

/-- The slice value v owns a row of messages that reads as ps. -/
def Row (w : World) (base : Nat) (v : Value) (ps : List Pk) : Prop := w.ownsRow base 44 2 v ps.length (pkCells ps) ∧ ∀ p ∈ ps, PkIn w base p

/-- Block B is a network. -/
def Net (w : World) (base B : Nat) (v : Value) (ps : List Pk) (lost room : Int) : Prop :=
  base ≤ B ∧ Blk w B 35 #[v, .int .i64 lost, .int .i64 room] ∧ Row w base v ps

theorem byte_ne_pk {w : World} {base : Nat} {v : Value} {p : Pk} (h : PkIn w base p) {n : Nat} {xs : List Value} (hr : w.ownsRow base 44 2 v n xs) {k : Nat} (hk : p.v.ownBlock = some k) : v.ownBlock ≠ some k := by
  intro e
  rcases hr.2 with ⟨rfl, _⟩ | ⟨g, cap, cur, rfl, _, hh, _⟩
  · simp [Value.ownBlock] at e
  · have : g = k := by simpa [Value.ownBlock] using e
    subst this
    exact own_blk_ne h.1 (g := g) (t := 44) (cs := cur) hh (by decide) hk

theorem PkIn.kept {w w' : World} {base : Nat} {p : Pk} {S : Nat → Prop} (h : PkIn w base p) (hb : Kept S w w') (hS : ∀ k, p.v.ownBlock = some k → ¬ S k) : PkIn w' base p :=
  ⟨own_kept h.1 hb hS, h.2⟩

/-- What the operations of a network may change: its block and its row. -/
def NK (B : Nat) (v : Value) : Nat → Prop := fun k => k = B ∨ v.ownBlock = some k

theorem Row.kept {w w' : World} {base : Nat} {v : Value} {ps : List Pk} {S : Nat → Prop} (h : Row w base v ps) (hb : Kept S w w') (hv : ∀ k, v.ownBlock = some k → ¬ S k) (hp : ∀ p ∈ ps, ∀ k, p.v.ownBlock = some k → ¬ S k) : Row w' base v ps :=
  ⟨own_kept h.1 hb hv, fun p hpm => (h.2 p hpm).kept hb (hp p hpm)⟩

theorem Net.kept {w w' : World} {base B : Nat} {v : Value} {ps : List Pk} {lost room : Int} {S : Nat → Prop} (h : Net w base B v ps lost room) (hb : Kept S w w') (hB : ¬ S B) (hv : ∀ k, v.ownBlock = some k → ¬ S k) (hp : ∀ p ∈ ps, ∀ k, p.v.ownBlock = some k → ¬ S k) : Net w' base B v ps lost room :=
  ⟨h.1, h.2.1.kept hb hB, h.2.2.kept hb hv hp⟩
theorem Net.kept0 {w w' : World} {base B : Nat} {v : Value} {ps : List Pk} {lost room : Int} (h : Net w base B v ps lost room) (hb : Kept Kno w w') : Net w' base B v ps lost room :=
  h.kept hb (fun h => h) (fun _ _ h => h) (fun _ _ _ _ h => h)

theorem Row.far {w : World} {base g : Nat} {v : Value} {ps : List Pk} {t : TypeId} {cs : Array Value} (h : Row w base v ps) (hb : Blk w g t cs) (h1 : 44 ≠ t) (h2 : 5 ≠ t) (o : Nat) (u : Value) : Row (w.setCell ⟨g, o, none⟩ u) base v ps :=
  ⟨own_far h.1 (own_blk_ne h.1 hb h1) u, fun p hp => ⟨own_far (h.2 p hp).1 (own_blk_ne (h.2 p hp).1 hb h2) u, (h.2 p hp).2⟩⟩
theorem Row.drewN {w : World} {base : Nat} {v : Value} {ps : List Pk} (h : Row w base v ps) (n : Nat) : Row (w.drewN n) base v ps := h
theorem Row.drew {w : World} {base : Nat} {v : Value} {ps : List Pk} (h : Row w base v ps) : Row w.drew base v ps := h

set_option maxHeartbeats 400000 in
theorem len_any (g o n cap : Nat) (A : Option Addr) (w : World) (h : w.cell? ⟨g, o, none⟩ = some (.slice A n cap)) :
    Calls Try.prog 10 #[.pointer (some ⟨g, o, none⟩)] w fun e w' => e = .returned (.int .i64 n) ∧ w = w' := by
  go_enter Try.func10, Try.ntmps10
  go_wp2
  go_ret
  exact ⟨rfl, rfl⟩

set_option maxHeartbeats 400000 in
theorem lost_any (g : Nat) (lost : Int) (w : World) (h : w.cell? ⟨g, 1, none⟩ = some (.int .i64 lost)) :
    Calls Try.prog 11 #[.pointer (some ⟨g, 0, none⟩)] w fun e w' => e = .returned (.int .i64 lost) ∧ w = w' := by
  go_enter Try.func11, Try.ntmps11
  go_wp2
  go_ret
  exact ⟨rfl, rfl⟩

/-- Send where there is no room. -/
def SendNo (base B : Nat) (v : Value) (ps : List Pk) (lost room : Int) (w : World) (e : Ending) (w' : World) : Prop :=
  e = .returned (.bool false) ∧ Net w' base B v ps (lost + 1) room ∧ Kept (Kone B) w w'

set_option maxHeartbeats 400000 in
theorem send_no (base B : Nat) (v x : Value) (ps : List Pk) (lost room dst : Int) (w : World) (h : Net w base B v ps lost room)
    (h0 : 0 ≤ lost) (h1 : lost ≤ 1000000) (hr : room ≤ ps.length) :
    Calls Try.prog 13 #[.pointer (some ⟨B, 0, none⟩), .int .i64 dst, x] w (SendNo base B v ps lost room w) := by
  have H := Lib.hid h
  obtain ⟨hB, hb, hrow, hps⟩ := h
  obtain ⟨A, cap, rfl⟩ := own_form hrow
  have c0 : w.cell? ⟨B, 0, none⟩ = some (.slice A ps.length cap) := hb.cell 0
  have c1 : w.cell? ⟨B, 1, none⟩ = some (.int .i64 lost) := hb.cell 1
  have c2 : w.cell? ⟨B, 2, none⟩ = some (.int .i64 room) := hb.cell 2
  have f1 := hb.frozen 1
  clear hrow hps hb
  go_enter Try.func13, Try.ntmps13
  go_wp2_with fail
  go_quiet (fail)
  go_wp2
  go_ret
  obtain ⟨_, hb, hrow⟩ := H.out
  exact ⟨rfl, ⟨hB, (hb.drewN nq).set_ 1 _, (hrow.drewN nq).far (hb.drewN nq) (by decide) (by decide) 1 _⟩, ((Kept.refl _ _).drewN nq).setIn (Eq.refl B) _⟩

theorem info_pk : (Try.prog.info? 44).map (fun i => (i.zero, i.size, i.bytes)) = some (some (.agg #[.int .i64 0, .slice none 0 0]), 2, 32) := by kernel_rfl

/-- A row or a value that lies where it lay, or in new memory. -/
def Moved (w : World) (v v' : Value) : Prop := v'.ownBlock = v.ownBlock ∨ ∃ k, v'.ownBlock = some k ∧ w.heap.size ≤ k

/-- Send where there is room. -/
def SendYes (base B : Nat) (v : Value) (ps : List Pk) (lost room dst : Int) (l : List UInt8) (w : World) (e : Ending) (w' : World) : Prop :=
  e = .returned (.bool true) ∧ ∃ v' p, p.dst = dst ∧ p.l = l ∧ Net w' base B v' (ps ++ [p]) lost room ∧ Kept (NK B v) w w' ∧ Moved w v v' ∧ (∀ k, p.v.ownBlock = some k → w.heap.size ≤ k)

theorem row_append {w1 w2 : World} {base : Nat} {v v2 : Value} {ps : List Pk} {p : Pk} {o : Obj} (h : Row w1 base v ps) (hp : PkIn w1 base p)
    (h2 : w2.ownsRow base 44 2 v2 (ps.length + 1) (pkCells ps ++ [.int .i64 p.dst, p.v])) (hg : (w1.alloc o).grownBy w2 v.ownBlock) : Row w2 base v2 (ps ++ [p]) := by
  refine ⟨by simpa [pkCells] using h2, fun q hq => ?_⟩
  have hq1 : PkIn w1 base q := by
    rcases List.mem_append.1 hq with hq | hq
    · exact h.2 q hq
    · rw [List.mem_singleton.1 hq]; exact hp
  refine hq1.kept (S := Kown v) (((Kept.refl _ _).alloc o).grown hg (fun k _ e => e)) (fun k hk => byte_ne_pk hq1 h.1 hk)

theorem close_send {w w1 w2 : World} {base B : Nat} {ps : List Pk} {lost room dst : Int} {l : List UInt8} {A A1 A2 : Option Addr} {cap cap1 cap2 b1 : Nat} {o : Obj}
    (H : Net w base B (.slice A ps.length cap) ps lost room) (hk : Kept Kno w w1) (hb1 : w.heap.size ≤ b1) (hbase : base ≤ w.heap.size) (hl : l.length ≤ 140737488355328)
    (hown : OwnB w1 b1 5 (.slice A1 l.length cap1) l)
    (h2 : w2.ownsRow base 44 2 (.slice A2 (ps.length + 1) cap2) (ps.length + 1) (pkCells ps ++ [.int .i64 dst, .slice A1 l.length cap1]))
    (hg : (w1.alloc o).grownBy w2 (Value.slice A ps.length cap).ownBlock)
    (hat : (Value.slice A2 (ps.length + 1) cap2).ownBlock = (Value.slice A ps.length cap).ownBlock ∨ (Value.slice A2 (ps.length + 1) cap2).ownBlock = some (w1.alloc o).heap.size) :
    SendYes base B (.slice A ps.length cap) ps lost room dst l w (.returned (.bool true)) (w2.setCell ⟨B, 0, none⟩ (.slice A2 (ps.length + 1) cap2)) := by
  have hn1 := H.kept0 hk
  have hne := own_blk_ne H.2.2.1 H.2.1 (by decide)
  have hpk : PkIn w1 base ⟨dst, .slice A1 l.length cap1, l⟩ := ⟨own_rebase hown (fun k hk' => by have := (own_base hown hk').1; omega), hl⟩
  have hr2 := row_append (p := ⟨dst, .slice A1 l.length cap1, l⟩) hn1.2.2 hpk h2 hg
  have hb2 : Blk w2 B 35 #[.slice A ps.length cap, .int .i64 lost, .int .i64 room] := (hn1.2.1.alloc o).grown hg (fun e => hne e.symm)
  refine ⟨rfl, .slice A2 (ps.length + 1) cap2, ⟨dst, .slice A1 l.length cap1, l⟩, rfl, rfl, ⟨H.1, hb2.set_ 0 _, hr2.far hb2 (by decide) (by decide) 0 _⟩, ?_, ?_, ?_⟩
  · exact (((Kept.mono hk (fun _ _ h => h.elim)).alloc o).grown hg (fun k _ e => .inr e)).setIn (.inl rfl) _
  · rcases hat with e | e
    · exact .inl e
    · exact .inr ⟨_, e, by have := hk.size; simp; omega⟩
  · intro k hk'; have := (own_base hown hk').1; omega

set_option maxHeartbeats 800000 in
theorem send_yes (base B : Nat) (v x : Value) (ps : List Pk) (lost room dst : Int) (l : List UInt8) (w : World) (h : Net w base B v ps lost room)
    (hx : Bs w x l) (hl : l.length ≤ 140737488355328) (hbase : base ≤ w.heap.size) (hn : ps.length ≤ 1000000) (hr : ps.length < room) :
    Calls Try.prog 13 #[.pointer (some ⟨B, 0, none⟩), .int .i64 dst, x] w (SendYes base B v ps lost room dst l w) := by
  obtain ⟨i0, hi, hz0, hz1, hz2⟩ := info_parts info_pk
  have H := Lib.hid h
  have HX := Lib.hid hx
  obtain ⟨Ax, capx, rfl, hx1, hx2, hx3, hx4⟩ := hx
  clear hx1 hx2 hx3 hx4
  obtain ⟨hB, hb, hrow, hps⟩ := h
  have HR := Lib.hid hrow
  have HB := Lib.hid hb
  have hne := own_blk_ne hrow hb (by decide)
  obtain ⟨A, cap, rfl⟩ := own_form hrow
  have c0 : w.cell? ⟨B, 0, none⟩ = some (.slice A ps.length cap) := hb.cell 0
  have c2 : w.cell? ⟨B, 2, none⟩ = some (.int .i64 room) := hb.cell 2
  have f0 := hb.frozen 0
  have lB := hb.lt
  have m1 : ps.length + 1 ≤ maxLen := by simp only [maxLen]; omega
  clear hrow hps hb
  go_enter Try.func13, Try.ntmps13
  go_wp2_with fail
  go_quiet (fail)
  go_wp2_with fail
  go_region_law (first
     | (refine step_append_rd _ (by rfl) _ _ 31 (by rfl) base 44 i0 _ 2 32 Try.underlying31 hi hz0 hz1 hz2 rfl (by omega) (.slice A ps.length cap) ps.length (pkCells ps) (by rfl) (own_kept (S := Kno) HR.out (hk.alloc _) (fun _ _ h => h)) _ 1 [.int .i64 dst, .slice A1 l.length cap1] (by rfl) (Rd.one _ _ _ rfl) (by simp [Value.oneCell']) m1 (by omega) (hk.alloc_le _ hbase) ?_
        intro A2 cap2 w2 hown2 hg2 hat2
        have q0 : w2.cell? ⟨B, 0, none⟩ = some (.slice A ps.length cap) := hg2.cell ((hk.alloc _).cell_some c0 (fun h => h)) (fun e => hne e.symm)
        have q1 : w2.frozen? ⟨B, 0, none⟩ = false := (World.frozen?_of_block (hg2.block B (by have := hk.size; simp; omega) (fun e => hne e.symm))).trans ((hk.alloc _).frozen_no f0 lB (fun h => h)))
     | (go_simp; go_at_call 25; refine (duplicate_any _ _ l _ ?_ hl).mono ?_; (exact HX.out); rintro e w1 ⟨A1, cap1, rfl, hown, hk'⟩; have hk : Kept Kno w w1 := Kept.then0 (Kept.drewN (Kept.refl _ w) _) hk'; clear hk'; have q : w1.cell? ⟨B, 0, none⟩ = some (.slice A ps.length cap) := hk.cell_some c0 (fun h => h); have lB1 : B < w1.heap.size := Nat.lt_of_lt_of_le lB hk.size))
  all_goals
    go_wp2
    go_ret
    exact close_send H.out hk (Nat.le_refl _) hbase hl hown hown2 hg2 hat2

end Go.Proofs.Ytcpidgpjifmimaa
