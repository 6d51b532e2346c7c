/-
  Network: contracts of Look, Double.
-/
import Derived.Test.YtcpidgpjifmimaaNetB
namespace Go.Proofs.Ytcpidgpjifmimaa
open Go.RowKit
set_option linter.unusedVariables false

def zeroPk : Value := .agg #[.int .i64 0, .slice none 0 0]

/-- A call that changes nothing that was there. -/
def RetNew (v : Value) (w : World) (e : Ending) (w' : World) : Prop := e = .returned v ∧ Kept Kno w w'

set_option maxHeartbeats 400000 in
theorem look_no (g n cap : Nat) (A : Option Addr) (i : Int) (w : World) (h : w.cell? ⟨g, 0, none⟩ = some (.slice A n cap)) (hi : i < 0 ∨ n ≤ i) :
    Calls Try.prog 21 #[.pointer (some ⟨g, 0, none⟩), .int .i64 i] w (RetNew (.tuple #[.agg #[.int .i64 0, .slice none 0 0], .bool false]) w) := by
  have hne : g < w.heap.size := World.block_lt_of_cell? w _ h
  rcases hi with hi | hi
  · go_enter Try.func21, Try.ntmps21
    go_wp2
    exact bodyPost_ret (v := .tuple #[.agg #[.int .i64 0, .slice none 0 0], .bool false]) (by simp [results, Try.results21, go_sem]) rfl ⟨rfl, (Kept.refl _ _).alloc _⟩
  · have h' : ¬ i < 0 := by omega
    go_enter Try.func21, Try.ntmps21
    go_wp2
    exact bodyPost_ret (v := .tuple #[.agg #[.int .i64 0, .slice none 0 0], .bool false]) (by simp [results, Try.results21, go_sem]) rfl ⟨rfl, (Kept.refl _ _).alloc _⟩

theorem pkCells_at (ps : List Pk) (i : Nat) (p : Pk) (h : ps[i]? = some p) : (pkCells ps)[i * 2]? = some (.int .i64 p.dst) ∧ (pkCells ps)[i * 2 + 1]? = some p.v := by
  induction ps generalizing i with
  | nil => simp at h
  | cons q ps ih =>
    cases i with
    | zero => simp at h; subst h; simp [pkCells]
    | succ i =>
      have h2 := ih i (by simpa using h)
      have e1 : (i + 1) * 2 = i * 2 + 1 + 1 := by omega
      rw [e1]
      simpa [pkCells] using h2

/-- Where the i-th message lies. -/
theorem row_at {w : World} {base i : Nat} {v : Value} {ps : List Pk} {p : Pk} (h : Row w base v ps) (hp : ps[i]? = some p) :
    ∃ g cap, v = .slice (some ⟨g, 0, none⟩) ps.length cap ∧ ps.length ≤ cap ∧ cap ≤ maxLen ∧ w.cell? ⟨g, i * 2, none⟩ = some (.int .i64 p.dst) ∧ w.cell? ⟨g, i * 2 + 1, none⟩ = some p.v := by
  have hlt : i < ps.length := (List.getElem?_eq_some_iff.1 hp).1
  obtain ⟨c1, c2⟩ := pkCells_at ps i p hp
  rcases h.1.2 with ⟨_, hn⟩ | ⟨g, cap, cur, rfl, _, hh, hnc, hcm, hs, ht⟩
  · omega
  · refine ⟨g, cap, rfl, hnc, hcm, ?_, ?_⟩
    · rw [cell_of_row w g _ cur _ _ hh]
      rw [← ht, List.getElem?_take] at c1
      split at c1
      · simpa using c1
      · cases c1
    · rw [cell_of_row w g _ cur _ _ hh]
      rw [← ht, List.getElem?_take] at c2
      split at c2
      · simpa using c2
      · cases c2

def LookYes (dst : Int) (l : List UInt8) (w : World) (e : Ending) (w' : World) : Prop :=
  ∃ A cap, e = .returned (.tuple #[.agg #[.int .i64 dst, .slice A l.length cap], .bool true]) ∧ OwnB w' w.heap.size 5 (.slice A l.length cap) l ∧ Kept Kno w w'

set_option maxHeartbeats 800000 in
theorem look_yes (base B i : Nat) (v : Value) (ps : List Pk) (p : Pk) (w : World) (hc : w.cell? ⟨B, 0, none⟩ = some v) (h : Row w base v ps) (hp : ps[i]? = some p) (hn : ps.length ≤ 1000000) :
    Calls Try.prog 21 #[.pointer (some ⟨B, 0, none⟩), .int .i64 i] w (LookYes p.dst p.l w) := by
  have hlt : i < ps.length := (List.getElem?_eq_some_iff.1 hp).1
  have hpi := h.2 p (List.mem_of_getElem? hp)
  have HP := Lib.hid hpi
  obtain ⟨g, cap, rfl, h1, h2, c1, c2⟩ := row_at h hp
  obtain ⟨A1, cap1, hpv⟩ := own_form hpi.1
  have HV := Lib.hid hpv
  rw [hpv] at c2
  have n1 : B < w.heap.size := World.block_lt_of_cell? w _ hc
  have n2 : g < w.heap.size := World.block_lt_of_cell? w _ c1
  have hi1 : (0 : Int) ≤ (i : Int) := Int.natCast_nonneg _
  have hi2 : (i : Int) < (ps.length : Int) := by omega
  clear hpi hp h hpv
  unfold maxLen at h2
  go_enter Try.func21, Try.ntmps21
  go_wp2_with fail
  refine (duplicate_any p.dst _ p.l _ (Rd.alloc (HV.out ▸ HP.out.1.bs) _) HP.out.2).mono ?_
  rintro e w1 ⟨A2, cap2, rfl, hown, hk⟩
  have hb1 := (Blk.new w 44 #[.int .i64 0, .slice none 0 0]).kept hk (fun h => h)
  have q0 : w1.cell? ⟨w.heap.size, 0, none⟩ = some (.int .i64 0) := hb1.cell 0
  have q1 : w1.cell? ⟨w.heap.size, 1, none⟩ = some (.slice none 0 0) := hb1.cell 1
  have q2 := hb1.frozen 0
  have q3 := hb1.frozen 1
  have HB := Lib.hid hb1
  clear hb1
  go_wp2
  refine bodyPost_ret (v := .tuple #[.agg #[.int .i64 p.dst, .slice A2 p.l.length cap2], .bool true]) (by simp [results, Try.results21, go_sem, q0, q1]) rfl ⟨A2, cap2, rfl, ?_, ?_⟩
  · exact own_rebase (own_far (own_far hown (own_ne_lt hown (by simp)) _) (own_ne_lt hown (by simp)) _) (fun k hk => by have := (own_base hown hk).1; simp at this; omega)
  · exact ((Kept.then0 (Kept.alloc (Kept.refl _ _) _) hk).setNew (by simp) _).setNew (by simp) _

set_option maxHeartbeats 400000 in
theorem double_out (base B : Nat) (v : Value) (ps : List Pk) (lost room i : Int) (w : World) (h : Net w base B v ps lost room) (hi : i < 0 ∨ ps.length ≤ i) :
    Calls Try.prog 16 #[.pointer (some ⟨B, 0, none⟩), .int .i64 i] w (RetNew (.bool false) w) := by
  obtain ⟨hB, hb, hrow, hps⟩ := h
  obtain ⟨A, cap, rfl⟩ := own_form hrow
  have c0 : w.cell? ⟨B, 0, none⟩ = some (.slice A ps.length cap) := hb.cell 0
  clear hrow hps hb
  go_enter Try.func16, Try.ntmps16
  go_wp2_with fail
  refine (look_no B ps.length cap A i _ c0 hi).mono ?_
  rintro e w1 ⟨rfl, hk⟩
  go_wp2_with fail
  go_quiet (fail)
  go_wp2
  go_ret
  exact ⟨rfl, (hk.alloc _).drewN _⟩

set_option maxHeartbeats 400000 in
theorem double_full (base B i : Nat) (v : Value) (ps : List Pk) (p : Pk) (lost room : Int) (w : World) (h : Net w base B v ps lost room) (hp : ps[i]? = some p) (hn : ps.length ≤ 1000000) (hr : room ≤ ps.length) :
    Calls Try.prog 16 #[.pointer (some ⟨B, 0, none⟩), .int .i64 i] w (RetNew (.bool false) w) := by
  have H := Lib.hid h
  obtain ⟨hB, hb, hrow⟩ := h
  obtain ⟨A, cap, rfl⟩ := own_form hrow.1
  have c0 : w.cell? ⟨B, 0, none⟩ = some (.slice A ps.length cap) := hb.cell 0
  have c2 : w.cell? ⟨B, 2, none⟩ = some (.int .i64 room) := hb.cell 2
  have HR := Lib.hid hrow
  have HP := Lib.hid hp
  clear hrow hb hp
  go_enter Try.func16, Try.ntmps16
  go_wp2_with fail
  refine (look_yes base B i _ ps p _ c0 HR.out HP.out hn).mono ?_
  rintro e w1 ⟨A1, cap1, rfl, hown, hk⟩
  have d0 : w1.cell? ⟨B, 0, none⟩ = some (.slice A ps.length cap) := hk.cell_some c0 (fun h => h)
  have d2 : w1.cell? ⟨B, 2, none⟩ = some (.int .i64 room) := hk.cell_some c2 (fun h => h)
  have l0 : B < w1.heap.size := World.block_lt_of_cell? w1 _ d0
  go_wp2_with fail
  go_quiet (fail)
  go_wp2
  go_ret
  exact ⟨rfl, (hk.alloc _).drewN _⟩

set_option maxHeartbeats 800000 in
theorem double_yes (base B i : Nat) (v : Value) (ps : List Pk) (p : Pk) (lost room : Int) (w : World) (h : Net w base B v ps lost room) (hp : ps[i]? = some p) (hbase : base ≤ w.heap.size) (hn : ps.length ≤ 1000000) (hr : ps.length < room) :
    Calls Try.prog 16 #[.pointer (some ⟨B, 0, none⟩), .int .i64 i] w (SendYes base B v ps lost room p.dst p.l w) := by
  obtain ⟨i0, hi, hz0, hz1, hz2⟩ := info_parts info_pk
  have H := Lib.hid h
  obtain ⟨hB, hb, hrow⟩ := h
  have hne := own_blk_ne hrow.1 hb (by decide)
  obtain ⟨A, cap, rfl⟩ := own_form hrow.1
  have hpl := (hrow.2 p (List.mem_of_getElem? hp)).2
  have c0 : w.cell? ⟨B, 0, none⟩ = some (.slice A ps.length cap) := hb.cell 0
  have c2 : w.cell? ⟨B, 2, none⟩ = some (.int .i64 room) := hb.cell 2
  have f0 := hb.frozen 0
  have m1 : ps.length + 1 ≤ maxLen := by simp only [maxLen]; omega
  have HR := Lib.hid hrow
  have HP := Lib.hid hp
  clear hrow hb hp
  go_enter Try.func16, Try.ntmps16
  go_wp2_with fail
  refine (look_yes base B i _ ps p _ c0 HR.out HP.out hn).mono ?_
  rintro e w1 ⟨A1, cap1, rfl, hown, hk⟩
  have d0 : w1.cell? ⟨B, 0, none⟩ = some (.slice A ps.length cap) := hk.cell_some c0 (fun h => h)
  have d2 : w1.cell? ⟨B, 2, none⟩ = some (.int .i64 room) := hk.cell_some c2 (fun h => h)
  have d3 : w1.frozen? ⟨B, 0, none⟩ = false := hk.frozen_no f0 (World.block_lt_of_cell? w _ c0) (fun h => h)
  have l0 : B < w1.heap.size := World.block_lt_of_cell? w1 _ d0
  go_wp2_with fail
  go_quiet (fail)
  go_wp2_with fail
  go_region_law (first
     | (refine step_append_rd _ (by rfl) _ _ 31 (by rfl) base 44 i0 _ 2 32 Try.underlying31 hi hz0 hz1 hz2 rfl (by omega) (.slice A ps.length cap) ps.length (pkCells ps) (by rfl) (own_kept (S := Kno) HR.out.1 (((hk.alloc _).drewN _).alloc _) (fun _ _ h => h)) _ 1 [.int .i64 p.dst, .slice A1 p.l.length cap1] (by rfl) (Rd.one' _ _ _ rfl (by simp)) (by simp [Value.oneCell']) m1 (by omega) (((hk.alloc _).drewN _).alloc_le _ hbase) ?_
        intro A2 cap2 w2 hown2 hg2 hat2
        have q0 : w2.cell? ⟨B, 0, none⟩ = some (.slice A ps.length cap) := hg2.cell ((((hk.alloc _).drewN _).alloc _).cell_some c0 (fun h => h)) (fun e => hne e.symm)
        have q1 : w2.frozen? ⟨B, 0, none⟩ = false := (World.frozen?_of_block (hg2.block B (by simp; omega) (fun e => hne e.symm))).trans ((((hk.alloc _).drewN _).alloc _).frozen_no f0 (World.block_lt_of_cell? w _ c0) (fun h => h))))
  all_goals
    go_wp2
    go_ret
    exact close_send H.out ((hk.alloc _).drewN _) (Nat.le_refl _) hbase hpl (own_kept (S := Kno) hown (((Kept.refl _ _).alloc _).drewN _) (fun _ _ h => h)) hown2 hg2 hat2

end Go.Proofs.Ytcpidgpjifmimaa
