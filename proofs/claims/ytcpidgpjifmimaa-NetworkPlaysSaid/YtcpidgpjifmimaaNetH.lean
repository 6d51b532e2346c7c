/-
  The reference's network: what it is in memory; contracts of Look, Send, Take, Double.
-/
import Derived.Test.YtcpidgpjifmimaaNetF
namespace Go.Proofs.Ytcpidgpjifmimaa
open Go.RowKit
set_option linter.unusedVariables false

/-- Block B is a network of the reference. -/
def RNet (w : World) (base B : Nat) (v : Value) (ps : List Pk) (gone room : Int) : Prop :=
  base ≤ B ∧ Blk w B 52 #[.int .i64 room, v, .int .i64 gone] ∧ Row w base v ps

theorem RNet.kept {w w' : World} {base B : Nat} {v : Value} {ps : List Pk} {gone room : Int} {S : Nat → Prop} (h : RNet w base B v ps gone room) (hb : Kept S w w') (hB : ¬ S B) (hv : ∀ k, v.ownBlock = some k → ¬ S k) (hp : ∀ p ∈ ps, ∀ k, p.v.ownBlock = some k → ¬ S k) : RNet w' base B v ps gone room :=
  ⟨h.1, h.2.1.kept hb hB, h.2.2.kept hb hv hp⟩
theorem RNet.kept0 {w w' : World} {base B : Nat} {v : Value} {ps : List Pk} {gone room : Int} (h : RNet w base B v ps gone room) (hb : Kept Kno w w') : RNet w' base B v ps gone room :=
  h.kept hb (fun h => h) (fun _ _ h => h) (fun _ _ _ _ h => h)

theorem rnet_new (w : World) (base : Nat) (room : Int) (hb : base ≤ w.heap.size) : RNet (w.alloc (.cells #[.int .i64 room, .slice none 0 0, .int .i64 0] 52)) base w.heap.size (.slice none 0 0) [] 0 room :=
  ⟨hb, Blk.new _ _ _, World.ownsRow_nil _ _ _ _, fun p hp => by cases hp⟩

set_option maxHeartbeats 400000 in
theorem rlook_no (g n cap : Nat) (A : Option Addr) (i : Int) (w : World) (h : w.cell? ⟨g, 1, none⟩ = some (.slice A n cap)) (hi : i < 0 ∨ n ≤ i) :
    Calls Try.prog 22 #[.pointer (some ⟨g, 0, none⟩), .int .i64 i] w (RetNew (.tuple #[.agg #[.int .i64 0, .slice none 0 0], .bool false]) w) := by
  have hne : g < w.heap.size := World.block_lt_of_cell? w _ h
  rcases hi with hi | hi
  · go_enter Try.func22, Try.ntmps22
    go_wp2
    exact bodyPost_ret (v := .tuple #[.agg #[.int .i64 0, .slice none 0 0], .bool false]) (by simp [results, Try.results22, go_sem]) rfl ⟨rfl, (Kept.refl _ _).alloc _⟩
  · have h' : ¬ i < 0 := by omega
    go_enter Try.func22, Try.ntmps22
    go_wp2
    exact bodyPost_ret (v := .tuple #[.agg #[.int .i64 0, .slice none 0 0], .bool false]) (by simp [results, Try.results22, go_sem]) rfl ⟨rfl, (Kept.refl _ _).alloc _⟩

set_option maxHeartbeats 800000 in
theorem rlook_yes (base B i : Nat) (v : Value) (ps : List Pk) (d : Int) (Ap : Option Addr) (capp : Nat) (pl : List UInt8) (w : World) (hc : w.cell? ⟨B, 1, none⟩ = some v) (h : Row w base v ps) (hp : ps[i]? = some ⟨d, .slice Ap pl.length capp, pl⟩) (hn : ps.length ≤ 1000000) :
    Calls Try.prog 22 #[.pointer (some ⟨B, 0, none⟩), .int .i64 i] w (RetNew (.tuple #[.agg #[.int .i64 d, .slice Ap pl.length capp], .bool true]) w) := by
  have hlt : i < ps.length := (List.getElem?_eq_some_iff.1 hp).1
  obtain ⟨g, cap, rfl, h1, h2, c1, c2⟩ := row_at h hp
  have n1 : B < w.heap.size := World.block_lt_of_cell? w _ hc
  have n2 : g < w.heap.size := World.block_lt_of_cell? w _ c1
  have hi1 : (0 : Int) ≤ (i : Int) := Int.natCast_nonneg _
  have hi2 : (i : Int) < (ps.length : Int) := by omega
  clear hp h
  unfold maxLen at h2
  go_enter Try.func22, Try.ntmps22
  go_wp2
  exact bodyPost_ret (v := .tuple #[.agg #[.int .i64 d, .slice Ap pl.length capp], .bool true]) (by simp [results, Try.results22, go_sem]) rfl ⟨rfl, (Kept.refl _ _).alloc _⟩

def RSendNo (base B : Nat) (v : Value) (ps : List Pk) (gone room : Int) (w : World) (e : Ending) (w' : World) : Prop :=
  e = .returned (.bool false) ∧ RNet w' base B v ps (gone + 1) room ∧ Kept (Kone B) w w'

set_option maxHeartbeats 400000 in
theorem rsend_no (base B : Nat) (v x : Value) (ps : List Pk) (gone room dst : Int) (w : World) (h : RNet w base B v ps gone room)
    (h0 : 0 ≤ gone) (h1 : gone ≤ 1000000) (hr : room ≤ ps.length) :
    Calls Try.prog 17 #[.pointer (some ⟨B, 0, none⟩), .int .i64 dst, x] w (RSendNo base B v ps gone room w) := by
  have H := Lib.hid h
  obtain ⟨hB, hb, hrow, hps⟩ := h
  obtain ⟨A, cap, rfl⟩ := own_form hrow
  have c0 : w.cell? ⟨B, 0, none⟩ = some (.int .i64 room) := hb.cell 0
  have c1 : w.cell? ⟨B, 1, none⟩ = some (.slice A ps.length cap) := hb.cell 1
  have c2 : w.cell? ⟨B, 2, none⟩ = some (.int .i64 gone) := hb.cell 2
  have f2 := hb.frozen 2
  clear hrow hps hb
  go_enter Try.func17, Try.ntmps17
  go_wp2_with fail
  go_quiet (fail)
  go_wp2
  go_ret
  obtain ⟨_, hb, hrow⟩ := H.out
  exact ⟨rfl, ⟨hB, (hb.drewN nq).set_ 2 _, (hrow.drewN nq).far (hb.drewN nq) (by decide) (by decide) 2 _⟩, ((Kept.refl _ _).drewN nq).setIn (Eq.refl B) _⟩

def RSendYes (base B : Nat) (v : Value) (ps : List Pk) (gone room dst : Int) (l : List UInt8) (w : World) (e : Ending) (w' : World) : Prop :=
  e = .returned (.bool true) ∧ ∃ v' p, p.dst = dst ∧ p.l = l ∧ RNet w' base B v' (ps ++ [p]) gone room ∧ Kept (NK B v) w w' ∧ Moved w v v'

theorem close_rsend {w w1 w2 : World} {base B : Nat} {ps : List Pk} {gone room dst : Int} {l : List UInt8} {A A1 A2 : Option Addr} {cap cap1 cap2 b1 : Nat} {o : Obj}
    (H : RNet w base B (.slice A ps.length cap) ps gone room) (hk : Kept Kno w w1) (hb1 : w.heap.size ≤ b1) (hbase : base ≤ w.heap.size) (hl : l.length ≤ 140737488355328)
    (hown : OwnB w1 b1 5 (.slice A1 l.length cap1) l)
    (h2 : w2.ownsRow base 44 2 (.slice A2 (ps.length + 1) cap2) (ps.length + 1) (pkCells ps ++ [.int .i64 dst, .slice A1 l.length cap1]))
    (hg : (w1.alloc o).grownBy w2 (Value.slice A ps.length cap).ownBlock)
    (hat : (Value.slice A2 (ps.length + 1) cap2).ownBlock = (Value.slice A ps.length cap).ownBlock ∨ (Value.slice A2 (ps.length + 1) cap2).ownBlock = some (w1.alloc o).heap.size) :
    RSendYes base B (.slice A ps.length cap) ps gone room dst l w (.returned (.bool true)) (w2.setCell ⟨B, 1, none⟩ (.slice A2 (ps.length + 1) cap2)) := by
  have hn1 := H.kept0 hk
  have hne := own_blk_ne H.2.2.1 H.2.1 (by decide)
  have hpk : PkIn w1 base ⟨dst, .slice A1 l.length cap1, l⟩ := ⟨own_rebase hown (fun k hk' => by have := (own_base hown hk').1; omega), hl⟩
  have hr2 := row_append (p := ⟨dst, .slice A1 l.length cap1, l⟩) hn1.2.2 hpk h2 hg
  have hb2 : Blk w2 B 52 #[.int .i64 room, .slice A ps.length cap, .int .i64 gone] := (hn1.2.1.alloc o).grown hg (fun e => hne e.symm)
  refine ⟨rfl, .slice A2 (ps.length + 1) cap2, ⟨dst, .slice A1 l.length cap1, l⟩, rfl, rfl, ⟨H.1, hb2.set_ 1 _, hr2.far hb2 (by decide) (by decide) 1 _⟩, ?_, ?_⟩
  · exact (((Kept.mono hk (fun _ _ h => h.elim)).alloc o).grown hg (fun k _ e => .inr e)).setIn (.inl rfl) _
  · rcases hat with e | e
    · exact .inl e
    · exact .inr ⟨_, e, by have := hk.size; simp; omega⟩

set_option maxHeartbeats 1600000 in
theorem rsend_yes (base B : Nat) (v x : Value) (ps : List Pk) (gone room dst : Int) (l : List UInt8) (w : World) (h : RNet w base B v ps gone room)
    (hx : Bs w x l) (hl : l.length ≤ 1000000) (hbase : base ≤ w.heap.size) (hn : ps.length ≤ 1000000) (hr : ps.length < room) :
    Calls Try.prog 17 #[.pointer (some ⟨B, 0, none⟩), .int .i64 dst, x] w (RSendYes base B v ps gone room dst l w) := by
  obtain ⟨i0, hi, hz0, hz1, hz2⟩ := info_parts info_pk
  obtain ⟨j0, hj, hy0, hy1, hy2⟩ := info_parts info_byte
  have H := Lib.hid h
  have HX := Lib.hid hx
  obtain ⟨Ax, capx, rfl, hx1, hx2, hx3, hx4⟩ := hx
  clear hx1 hx2 hx3 hx4
  obtain ⟨hB, hb, hrow, hps⟩ := h
  have HR := Lib.hid hrow
  have hne := own_blk_ne hrow hb (by decide)
  obtain ⟨A, cap, rfl⟩ := own_form hrow
  have c0 : w.cell? ⟨B, 0, none⟩ = some (.int .i64 room) := hb.cell 0
  have c1 : w.cell? ⟨B, 1, none⟩ = some (.slice A ps.length cap) := hb.cell 1
  have f1 := hb.frozen 1
  have lB := hb.lt
  have c1a : ∀ (n : Nat) (o : Obj), ((w.drewN n).alloc o).cell? ⟨B, 1, none⟩ = some (.slice A ps.length cap) := fun n o => (Kept.alloc (Kept.drewN (Kept.refl Kno w) n) o).cell_some c1 (fun h => h)
  have m1 : ps.length + 1 ≤ maxLen := by simp only [maxLen]; omega
  have m2 : 0 + l.length ≤ maxLen := by simp only [maxLen]; omega
  have M0 := Lib.hid (World.ownsRow_made (base := w.heap.size) (e := 5) (size := 1) w #[] 0 (Nat.le_refl _) (by decide) rfl)
  clear hrow hps hb
  go_enter Try.func17, Try.ntmps17
  go_wp2_with fail
  go_quiet (fail)
  go_wp2_with fail
  go_region_law (first
     | (refine step_append_rd _ (by rfl) _ _ 39 (by rfl) w.heap.size 5 j0 _ 1 1 Try.underlying39 hj hy0 hy1 hy2 rfl (by omega) (.slice (some ⟨w.heap.size, 0, none⟩) 0 0) 0 [] (by rfl) M0.out _ l.length (l.map bv) (by rfl) (Rd.alloc HX.out _) (bvs_one l) m2 (by omega) (by simp) ?_
        intro A1 cap1 w1 hown1 hg1 hat1
        simp only [Nat.zero_add, List.nil_append] at hown1
        have hk : Kept Kno w w1 := (Kept.alloc (Kept.drewN (Kept.refl _ w) _) _).grown hg1 (fun k hk e => by cases e; exact absurd hk (Nat.lt_irrefl _))
        have q : w1.cell? ⟨B, 1, none⟩ = some (.slice A ps.length cap) := hk.cell_some c1 (fun h => h)
        have lB1 : B < w1.heap.size := Nat.lt_of_lt_of_le lB hk.size
        rw [Nat.zero_add])
     | (refine step_append_rd _ (by rfl) _ _ 31 (by rfl) base 44 i0 _ 2 32 Try.underlying31 hi hz0 hz1 hz2 rfl (by omega) (.slice A ps.length cap) ps.length (pkCells ps) (by rfl) (own_kept (S := Kno) HR.out (hk.alloc _) (fun _ _ h => h)) _ 1 [.int .i64 dst, .slice A1 l.length cap1] (by rfl) (Rd.one _ _ _ rfl) (by simp [Value.oneCell']) m1 (by omega) (hk.alloc_le _ hbase) ?_
        intro A2 cap2 w2 hown2 hg2 hat2
        have q0 : w2.cell? ⟨B, 1, none⟩ = some (.slice A ps.length cap) := hg2.cell ((hk.alloc _).cell_some c1 (fun h => h)) (fun e => hne e.symm)
        have q1 : w2.frozen? ⟨B, 1, none⟩ = false := (World.frozen?_of_block (hg2.block B (by have := hk.size; simp; omega) (fun e => hne e.symm))).trans ((hk.alloc _).frozen_no f1 lB (fun h => h))))
  all_goals
    go_wp2
    go_ret
    exact close_rsend H.out hk (Nat.le_refl _) hbase (by omega) hown1 hown2 hg2 hat2

end Go.Proofs.Ytcpidgpjifmimaa
