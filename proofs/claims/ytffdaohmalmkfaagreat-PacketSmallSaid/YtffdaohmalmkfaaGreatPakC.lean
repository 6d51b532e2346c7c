/-
  Packet: the writer: counts, bools, rows, lists of numbers, operands.
-/
import Derived.Test.YtffdaohmalmkfaaGreatPakB
namespace Go.Proofs.YtffdaohmalmkfaaGreat
open Go.RowKit
set_option linter.unusedVariables false

theorem appendUint_nil (n : Nat) (w : World) (hn : n < 18446744073709551616) : Calls Tryz.prog 203 #[.slice none 0 0, .int .u64 n] w (RetB (leb n) w) := appendUint_any _ [] n w (bs_nil _) hn (by simp)

set_option maxRecDepth 100000 in
set_option maxHeartbeats 1000000 in
theorem wcount_any (D : Nat) (v : Value) (l : List UInt8) (n : Nat) (w : World) (h : Wr w D v l) (hn : n ≤ 9223372036854775807) (hl : l.length ≤ 1000000000000) :
    Calls Tryz.prog 109 #[.pointer (some ⟨D, 0, none⟩), .int .i64 n] w (WrOk D v (l ++ leb n) w) := by
  obtain ⟨i0, hi, hz0, hz1, hz2⟩ := info_parts info_byte
  obtain ⟨A, cap, rfl⟩ := h.form
  have H := Lib.hid h
  have hlt := h.lt
  have c0 : w.cell? ⟨D, 0, none⟩ = some (.slice A l.length cap) := h.blk.cell 0
  have f0 := h.blk.frozen 0
  have hlen := (leb_length n).2
  have hne := h.ne
  have m1 : l.length + (leb n).length ≤ maxLen := by simp only [maxLen]; omega
  have m2 : (l.length + (leb n).length) * 1 ≤ 140737488355328 := by omega
  have hn0 : (0 : Int) ≤ (n : Int) := by omega
  have hn1 : (n : Int) ≤ 9223372036854775807 := by omega
  have hw0 : IntKind.u64.wrap (n : Int) = (n : Int) := by rw [IntKind.wrap_u64]; omega
  have HN : Hid (n < 18446744073709551616) := Lib.hid (by omega)
  clear h hn
  go_enter Tryz.func109, Tryz.ntmps109
  go_region_law
    (first | (rw [if_pos (by rfl)]; go_simp; refine (appendUint_nil n _ HN.out).mono ?_; rintro e w1 ⟨A1, cap1, rfl, hown, hk'⟩; have hk : Kept Kno w w1 := Kept.then0 (Kept.drew (Kept.refl _ w)) hk'; have q0 := hk.cell_some c0 (fun h => h); have q2 := hk.frozen_no f0 hlt (fun h => h); have HO1 : Hid (OwnB w1 w.drew.heap.size 5 (.slice A1 (leb n).length cap1) (leb n)) := Lib.hid hown; clear hk' hown)
           | (refine step_append_rd _ (by rfl) _ _ 22 (by rfl) D 5 i0 _ 1 1 Tryz.underlying22 hi hz0 hz1 hz2 rfl (by decide) (.slice A l.length cap) l.length (l.map bv) (by rfl) (own_kept H.out.own hk (fun _ _ h => h)) (.slice A1 (leb n).length cap1) (leb n).length ((leb n).map bv) (by rfl) HO1.out.bs (bvs_one _) m1 m2 (by have := hk.size; omega) ?_
              intro A2 cap2 w2 hown2 hg2 hat2
              have q1 := hg2.cell q0 (fun e => hne e.symm)
              have q3 : w2.frozen? ⟨D, 0, none⟩ = false := (World.frozen?_of_block (hg2.block D (by have := hk.size; omega) (fun e => hne e.symm))).trans q2))
  all_goals
    go_wp2
    go_end0
    exact grow_wr H.out hk rfl hown2 hg2 hat2

set_option maxRecDepth 100000 in
set_option maxHeartbeats 1000000 in
theorem wbool_any (D : Nat) (v : Value) (l : List UInt8) (b : Bool) (w : World) (h : Wr w D v l) (hl : l.length ≤ 1000000000000) :
    Calls Tryz.prog 172 #[.pointer (some ⟨D, 0, none⟩), .bool b] w (WrOk D v (l ++ ibool b) w) := by
  obtain ⟨i0, hi, hz0, hz1, hz2⟩ := info_parts info_byte
  obtain ⟨A, cap, rfl⟩ := h.form
  have H := Lib.hid h
  have hlt := h.lt
  have c0 : w.cell? ⟨D, 0, none⟩ = some (.slice A l.length cap) := h.blk.cell 0
  have f0 := h.blk.frozen 0
  have hne := h.ne
  have m1 : l.length + 1 ≤ maxLen := by simp only [maxLen]; omega
  have m2 : (l.length + 1) * 1 ≤ 140737488355328 := by omega
  have hk : Kept Kno w w.drew := (Kept.refl _ w).drew
  clear h
  cases b with
  | true =>
    go_enter Tryz.func172, Tryz.ntmps172
    go_wp2_with (at_builtin; go_must (refine wpList_append_rd _ rfl _ _ 22 rfl D 5 i0 _ 1 1 Tryz.underlying22 hi hz0 hz1 hz2 rfl (by decide) (.slice A l.length cap) l.length (l.map bv) rfl (World.ownsRow.alloc H.out.own _) _ 1 [bv 1] rfl (Rd.one _ _ _ rfl) (by simp [Value.oneCell', bv]) m1 m2 (by simp; omega) ?_); intro A2 cap2 w2 hown2 hg2 hat2; have q1 : w2.cell? ⟨D, 0, none⟩ = some (.slice A l.length cap) := hg2.cell (((Kept.refl Kno w).alloc _).cell_some c0 (fun h => h)) (fun e => hne e.symm); have q3 : w2.frozen? ⟨D, 0, none⟩ = false := (World.frozen?_of_block (hg2.block D (by simp; omega) (fun e => hne e.symm))).trans (((Kept.refl Kno w).alloc _).frozen_no f0 hlt (fun h => h)))
    go_end0
    exact grow_wr (news := [1]) H.out ((Kept.refl _ _).alloc _) rfl hown2 hg2 hat2
  | false =>
    go_enter Tryz.func172, Tryz.ntmps172
    go_wp2_with (at_builtin; go_must (refine wpList_append_rd _ rfl _ _ 22 rfl D 5 i0 _ 1 1 Tryz.underlying22 hi hz0 hz1 hz2 rfl (by decide) (.slice A l.length cap) l.length (l.map bv) rfl (World.ownsRow.alloc H.out.own _) _ 1 [bv 0] rfl (Rd.one _ _ _ rfl) (by simp [Value.oneCell', bv]) m1 m2 (by simp; omega) ?_); intro A2 cap2 w2 hown2 hg2 hat2; have q1 : w2.cell? ⟨D, 0, none⟩ = some (.slice A l.length cap) := hg2.cell (((Kept.refl Kno w).alloc _).cell_some c0 (fun h => h)) (fun e => hne e.symm); have q3 : w2.frozen? ⟨D, 0, none⟩ = false := (World.frozen?_of_block (hg2.block D (by simp; omega) (fun e => hne e.symm))).trans (((Kept.refl Kno w).alloc _).frozen_no f0 hlt (fun h => h)))
    go_end0
    exact grow_wr (news := [0]) H.out ((Kept.refl _ _).alloc _) rfl hown2 hg2 hat2

theorem appendRow_nil (u : Value) (xs : List Val) (w : World) (hr : RowIn w u xs) (h12 : xs.length ≤ 12) (hv : valsOk xs = true) : Calls Tryz.prog 276 #[.slice none 0 0, u] w (RetE (renc xs, 0) w) := by
  have h := appendRow_any _ u [] xs w (bs_nil _) hr (by simp)
  have e : rowRes [] xs = (renc xs, 0) := by unfold rowRes; rw [if_neg (by omega), if_pos hv]; rfl
  rw [e] at h
  exact h

theorem renc_length (xs : List Val) (h12 : xs.length ≤ 12) (hv : valsOk xs = true) : (renc xs).length ≤ 11 + 960 := by
  have h1 := (leb_length xs.length).2
  have h2 := vencs_length xs hv
  unfold renc
  rw [List.length_append]
  omega

set_option maxRecDepth 100000 in
set_option maxHeartbeats 1000000 in
theorem wrow_any (D : Nat) (v u : Value) (l : List UInt8) (xs : List Val) (w : World) (h : Wr w D v l) (hr : RowIn w u xs) (h12 : xs.length ≤ 12) (hv : valsOk xs = true) (hl : l.length ≤ 1000000000000) :
    Calls Tryz.prog 242 #[.pointer (some ⟨D, 0, none⟩), u] w (WrOk D v (l ++ renc xs) w) := by
  obtain ⟨i0, hi, hz0, hz1, hz2⟩ := info_parts info_byte
  obtain ⟨A, cap, rfl⟩ := h.form
  have H := Lib.hid h
  have HR := Lib.hid hr
  have HV := Lib.hid hv
  have hlt := h.lt
  have c0 : w.cell? ⟨D, 0, none⟩ = some (.slice A l.length cap) := h.blk.cell 0
  have f0 := h.blk.frozen 0
  have hlen := renc_length xs h12 hv
  have hne := h.ne
  obtain ⟨M, hM⟩ : ∃ M, M = renc xs := ⟨_, rfl⟩
  rw [← hM] at hlen ⊢
  have HM := Lib.hid hM
  have m1 : l.length + M.length ≤ maxLen := by simp only [maxLen]; omega
  have m2 : (l.length + M.length) * 1 ≤ 140737488355328 := by omega
  have hcr : Calls Tryz.prog 276 #[.slice none 0 0, u] w (RetE (M, 0) w) := by rw [hM]; exact appendRow_nil u xs w hr h12 hv
  have HC := Lib.hid hcr
  obtain ⟨Ar, capr, rfl, -⟩ := hr
  clear h hM hcr hv
  go_enter Tryz.func242, Tryz.ntmps242
  go_wp2_with fail
  refine HC.out.mono ?_
  rintro e w1 ⟨A1, cap1, rfl, hown, hk⟩
  have q0 := hk.cell_some c0 (fun h => h)
  have q2 := hk.frozen_no f0 hlt (fun h => h)
  have HO1 : Hid (OwnB w1 w.heap.size 5 (.slice A1 M.length cap1) M) := Lib.hid hown
  clear hown
  go_wp2_with (at_builtin; go_must (refine wpList_append_rd _ rfl _ _ 22 rfl D 5 i0 _ 1 1 Tryz.underlying22 hi hz0 hz1 hz2 rfl (by decide) (.slice A l.length cap) l.length (l.map bv) rfl (own_kept H.out.own hk (fun _ _ h => h)) (.slice A1 M.length cap1) M.length (M.map bv) rfl HO1.out.bs (bvs_one _) m1 m2 (by have := hk.size; omega) ?_); intro A2 cap2 w2 hown2 hg2 hat2; have q1 : w2.cell? ⟨D, 0, none⟩ = some (.slice A l.length cap) := hg2.cell q0 (fun e => hne e.symm); have q3 : w2.frozen? ⟨D, 0, none⟩ = false := (World.frozen?_of_block (hg2.block D (by have := hk.size; omega) (fun e => hne e.symm))).trans q2)
  go_end0
  exact grow_wr H.out hk rfl hown2 hg2 hat2

end Go.Proofs.YtffdaohmalmkfaaGreat
