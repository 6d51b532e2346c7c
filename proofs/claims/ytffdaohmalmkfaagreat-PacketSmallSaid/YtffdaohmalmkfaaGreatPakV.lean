/-
  Packet: begun. (Printed by gen_pakv.py.)
-/
import Derived.Test.YtffdaohmalmkfaaGreatPakU
namespace Go.Proofs.YtffdaohmalmkfaaGreat
open Go.RowKit
set_option linter.unusedVariables false

set_option maxHeartbeats 400000 in
theorem equal_any (v u : Value) (l m : List UInt8) (w : World) (hv : Bs w v l) (hu : Bs w u m) :
    Calls Tryz.prog 13 #[v, u] w fun e w' => e = .returned (.bool (decide (l = m))) ∧ w = w' := by
  have t1 := run_string_bs (P := Tryz.prog) 22 9 5 hv Tryz.underlying22 Tryz.underlying5 Tryz.underlying9
  have t2 := run_string_bs (P := Tryz.prog) 22 9 5 hu Tryz.underlying22 Tryz.underlying5 Tryz.underlying9
  clear hv hu
  by_cases h : l = m
  · subst h
    go_enter Tryz.func13, Tryz.ntmps13
    go_wp2
    go_ret
    exact ⟨by simp, rfl⟩
  · have e2 : decide (l = m) = false := by simp [h]
    rw [e2]
    have H := Lib.hid h
    clear e2
    go_enter Tryz.func13, Tryz.ntmps13
    go_wp2
    go_ret
    refine ⟨?_, rfl⟩
    have := H.out
    simp [this]

def bytes0 : List UInt8 := [2, 2, 0, 2, 4, 0, 1, 0]
def syn0 : Syn := ⟨0, 1, 2, [], -1, []⟩
theorem enc_syn0 : encSync 1 syn0 = bytes0 := by kernel_rfl
theorem ok_syn0 : (wB 1 1 8 && syncB syn0) = true := by kernel_rfl
theorem sync_lit : syncC 1 syn0 (.slice none 0 0) (.slice none 0 0) = #[.int .i64 1, .int .i64 1, .int .i64 0, .int .i64 1, .int .i64 2, .slice none 0 0, .int .i64 (-1), .slice none 0 0, .int .i64 0, .int .i64 0, .slice none 0 0, .int .i64 0, .int .i64 0, .int .i64 0, .slice none 0 0, .int .i64 0, .int .i64 0, .int .i64 0, .slice none 0 0, .bool false, .slice none 0 0, .int .i64 0, .int .i64 0, .int .i64 0, .slice none 0 0, .int .i64 0, .int .i64 0, .int .i64 0, .int .i64 0, .int .i64 0, .slice none 0 0] := rfl

def sets0 : List (Nat × Value) := [(1, .int .i64 1), (2, .int .i64 0), (3, .int .i64 1), (4, .int .i64 2), (5, .slice none 0 0), (6, .int .i64 (-1)), (7, .slice none 0 0)]
def cell0 (k : Nat) : Array Value := (sets0.take k).foldl (fun a p => a.setIfInBounds p.1 p.2) (zeroC.setIfInBounds 0 (.int .i64 1))
theorem cell0_7 : cell0 7 = #[.int .i64 1, .int .i64 1, .int .i64 0, .int .i64 1, .int .i64 2, .slice none 0 0, .int .i64 (-1), .slice none 0 0, .int .i64 0, .int .i64 0, .slice none 0 0, .int .i64 0, .int .i64 0, .int .i64 0, .slice none 0 0, .int .i64 0, .int .i64 0, .int .i64 0, .slice none 0 0, .bool false, .slice none 0 0, .int .i64 0, .int .i64 0, .int .i64 0, .slice none 0 0, .int .i64 0, .int .i64 0, .int .i64 0, .int .i64 0, .int .i64 0, .slice none 0 0] := by kernel_rfl

set_option maxRecDepth 100000 in
theorem ent_num2 : Ent 150 := fun args w => by go_simp
set_option maxRecDepth 100000 in
theorem ent_subs2 : Ent 152 := fun args w => by go_simp

section
variable {w2 : World} {R M base : Nat} {v : Value} {l : List UInt8} {p : Value × Value} {cs : Array Value}
theorem bs_keep (hb : Bs w2 v l) (hv : ∀ k, v.ownBlock = some k → k ≠ R ∧ k ≠ M) {w' : World} (hk : Kept (KRM R M) w2 w') : Bs w' v l := Rd.kept hb hk (fun k h1 h2 => by have := hv k h1; unfold KRM at h2; omega)
theorem fdr_num {k off n N kk : Nat} {x : Value} (h : FdIn w2 base (fdNum k) p) (hR : R < base) (hM : M < base) (hRM : R ≠ M) (hb : Bs w2 v l) (hv : ∀ k, v.ownBlock = some k → k ≠ R ∧ k ≠ M) (hof : OfIs k off) (hc : cs[off]? = some x) (hl : l.length ≤ 1000000) (hn : n ≤ l.length) (hx : uintAt l n = .ok (N, kk)) :
    FdRd w2 R M v p.2 n cs (n + kk) (cs.setIfInBounds off (.int .i64 (unzz N))) := by
  obtain ⟨X, h1, rfl, h3⟩ := h
  refine ⟨150, #[.pointer (some ⟨X, 0, none⟩)], rfl, ent_num2, fun w' hk hr hm => ?_⟩
  exact rfNum R M X k off n N kk x cs v l w' hof (hk.cell_some (h3.cell 0) (fun h => by unfold KRM at h; simp only at h; omega)) hr hm hRM hc (bs_keep hb hv hk) hl hn hx
theorem fdr_subs0 {k off n kk : Nat} {x : Value} (h : FdIn w2 base (fdSubs k) p) (hR : R < base) (hM : M < base) (hRM : R ≠ M) (hb : Bs w2 v l) (hv : ∀ k, v.ownBlock = some k → k ≠ R ∧ k ≠ M) (hof : OfIs k off) (hc : cs[off]? = some x) (hl : l.length ≤ 1000000) (hn : n + kk ≤ l.length) (hx : uintAt l n = .ok (0, kk)) :
    FdRd w2 R M v p.2 n cs (n + kk) (cs.setIfInBounds off (.slice none 0 0)) := by
  obtain ⟨X, h1, rfl, h3⟩ := h
  refine ⟨152, #[.pointer (some ⟨X, 0, none⟩)], rfl, ent_subs2, fun w' hk hr hm => ?_⟩
  exact rfSubs0 R M X k off n kk x cs v l w' hof (hk.cell_some (h3.cell 0) (fun h => by unfold KRM at h; simp only at h; omega)) hr hm hRM hc (bs_keep hb hv hk) hl hn hx
end

theorem decode0 (v : Value) (w : World) (hb : Bs w v bytes0) : Calls Tryz.prog 11 #[v] w fun e w' => e = .returned (.tuple #[.agg #[.int .i64 1, .int .i64 1, .int .i64 0, .int .i64 1, .int .i64 2, .slice none 0 0, .int .i64 (-1), .slice none 0 0, .int .i64 0, .int .i64 0, .slice none 0 0, .int .i64 0, .int .i64 0, .int .i64 0, .slice none 0 0, .int .i64 0, .int .i64 0, .int .i64 0, .slice none 0 0, .bool false, .slice none 0 0, .int .i64 0, .int .i64 0, .int .i64 0, .slice none 0 0, .int .i64 0, .int .i64 0, .int .i64 0, .int .i64 0, .int .i64 0, .slice none 0 0], .int .i64 0]) ∧ Kept Kno w w' := by
  have h := decode_ok 1 v bytes0 syncFs 2 (fun k => k + 1) cell0 w hb (by decide) (by kernel_rfl) (by kernel_rfl) rfl (by decide) (by decide) fields_1 ?_ (by decide) (by kernel_rfl) (by kernel_rfl) (by kernel_rfl) (by kernel_rfl) ?_
  · have e : cell0 syncFs.length = #[.int .i64 1, .int .i64 1, .int .i64 0, .int .i64 1, .int .i64 2, .slice none 0 0, .int .i64 (-1), .slice none 0 0, .int .i64 0, .int .i64 0, .slice none 0 0, .int .i64 0, .int .i64 0, .int .i64 0, .slice none 0 0, .int .i64 0, .int .i64 0, .int .i64 0, .slice none 0 0, .bool false, .slice none 0 0, .int .i64 0, .int .i64 0, .int .i64 0, .slice none 0 0, .int .i64 0, .int .i64 0, .int .i64 0, .int .i64 0, .int .i64 0, .slice none 0 0] := cell0_7
    rw [e] at h
    exact h
  · intro w2 R M base hR hM hRM hb2 hv i f p hf hfi
    match i, hf with
    | 0, hf => simp only [syncFs, List.getElem?_cons_succ, List.getElem?_cons_zero, Option.some.injEq] at hf; subst hf; exact fdr_num (N := 2) (kk := 1) hfi hR hM hRM hb2 hv of_fields_1 (cs := cell0 0) (x := .int .i64 0) (by kernel_rfl) (by decide) (by decide) (by kernel_rfl)
    | 1, hf => simp only [syncFs, List.getElem?_cons_succ, List.getElem?_cons_zero, Option.some.injEq] at hf; subst hf; exact fdr_num (N := 0) (kk := 1) hfi hR hM hRM hb2 hv of_fields_2 (cs := cell0 1) (x := .int .i64 0) (by kernel_rfl) (by decide) (by decide) (by kernel_rfl)
    | 2, hf => simp only [syncFs, List.getElem?_cons_succ, List.getElem?_cons_zero, Option.some.injEq] at hf; subst hf; exact fdr_num (N := 2) (kk := 1) hfi hR hM hRM hb2 hv of_fields_3 (cs := cell0 2) (x := .int .i64 0) (by kernel_rfl) (by decide) (by decide) (by kernel_rfl)
    | 3, hf => simp only [syncFs, List.getElem?_cons_succ, List.getElem?_cons_zero, Option.some.injEq] at hf; subst hf; exact fdr_num (N := 4) (kk := 1) hfi hR hM hRM hb2 hv of_fields_4 (cs := cell0 3) (x := .int .i64 0) (by kernel_rfl) (by decide) (by decide) (by kernel_rfl)
    | 4, hf => simp only [syncFs, List.getElem?_cons_succ, List.getElem?_cons_zero, Option.some.injEq] at hf; subst hf; exact fdr_subs0 (kk := 1) hfi hR hM hRM hb2 hv of_fields_5 (cs := cell0 4) (x := .slice none 0 0) (by kernel_rfl) (by decide) (by decide) (by kernel_rfl)
    | 5, hf => simp only [syncFs, List.getElem?_cons_succ, List.getElem?_cons_zero, Option.some.injEq] at hf; subst hf; exact fdr_num (N := 1) (kk := 1) hfi hR hM hRM hb2 hv of_fields_6 (cs := cell0 5) (x := .int .i64 0) (by kernel_rfl) (by decide) (by decide) (by kernel_rfl)
    | 6, hf => simp only [syncFs, List.getElem?_cons_succ, List.getElem?_cons_zero, Option.some.injEq] at hf; subst hf; exact fdr_subs0 (kk := 1) hfi hR hM hRM hb2 hv of_fields_7 (cs := cell0 6) (x := .slice none 0 0) (by kernel_rfl) (by decide) (by decide) (by kernel_rfl)
    | j + 7, hf => simp [syncFs] at hf
  · intro w' hk'
    have h2 := valid_sync 1 syn0 (.slice none 0 0) (.slice none 0 0) 0 w' (SubsIn.nil _ _) (SubsIn.nil _ _) (Nat.zero_le _) (by decide) (by decide)
    rw [ok_syn0, sync_lit] at h2
    have e : cell0 syncFs.length = #[.int .i64 1, .int .i64 1, .int .i64 0, .int .i64 1, .int .i64 2, .slice none 0 0, .int .i64 (-1), .slice none 0 0, .int .i64 0, .int .i64 0, .slice none 0 0, .int .i64 0, .int .i64 0, .int .i64 0, .slice none 0 0, .int .i64 0, .int .i64 0, .int .i64 0, .slice none 0 0, .bool false, .slice none 0 0, .int .i64 0, .int .i64 0, .int .i64 0, .slice none 0 0, .int .i64 0, .int .i64 0, .int .i64 0, .int .i64 0, .int .i64 0, .slice none 0 0] := cell0_7
    rw [e]
    exact h2

theorem encode0 (w : World) : Calls Tryz.prog 9 #[.agg #[.int .i64 1, .int .i64 1, .int .i64 0, .int .i64 1, .int .i64 2, .slice none 0 0, .int .i64 (-1), .slice none 0 0, .int .i64 0, .int .i64 0, .slice none 0 0, .int .i64 0, .int .i64 0, .int .i64 0, .slice none 0 0, .int .i64 0, .int .i64 0, .int .i64 0, .slice none 0 0, .bool false, .slice none 0 0, .int .i64 0, .int .i64 0, .int .i64 0, .slice none 0 0, .int .i64 0, .int .i64 0, .int .i64 0, .int .i64 0, .int .i64 0, .slice none 0 0]] w fun e w' => ∃ A cap, e = .returned (.tuple #[.slice A 8 cap, .int .i64 0]) ∧ Bs w' (.slice A 8 cap) bytes0 ∧ Kept Kno w w' := by
  have h := encode_sync 1 syn0 (.slice none 0 0) (.slice none 0 0) w (SubsIn.nil _ _) (SubsIn.nil _ _) (by decide) (by decide) ok_syn0
  rw [enc_syn0, sync_lit] at h
  refine h.mono ?_
  rintro e w' ⟨hk, h2⟩
  rw [if_pos (by decide)] at h2
  obtain ⟨A, cap, h3, h4⟩ := h2
  exact ⟨A, cap, h3, OwnB.bs h4, hk⟩

set_option maxRecDepth 100000 in
set_option maxHeartbeats 4000000 in
theorem begun_any (w : World) : Calls Tryz.prog 10 #[] w (RetBool true w) := by
  go_enter Tryz.func10, Tryz.ntmps10
  go_wp2_with fail
  refine (encode0 w).mono ?_
  rintro e w1 ⟨A1, cap1, rfl, hb1, hk1⟩
  have HB1 := Lib.hid hb1
  have HK1 := Lib.hid hk1
  clear hb1 hk1
  go_wp2_with fail
  have hlit := bs_lit w1 bytes0 (0, 0) 5
  refine (decode0 _ _ hlit).mono ?_
  rintro e w2 ⟨rfl, hk2⟩
  have HB2 := Lib.hid (Rd.kept0 (HB1.out) (((Kept.refl _ _).alloc _).then0 hk2))
  have HK2 := Lib.hid ((HK1.out.alloc _).then0 hk2)
  clear hlit hk2 HB1 HK1
  go_wp2_with (refine wpList_store_new rfl 36 (.tmp 3) (.tmp 13) rfl _ #[.int .i64 1, .int .i64 1, .int .i64 0, .int .i64 1, .int .i64 2, .slice none 0 0, .int .i64 (-1), .slice none 0 0, .int .i64 0, .int .i64 0, .slice none 0 0, .int .i64 0, .int .i64 0, .int .i64 0, .slice none 0 0, .int .i64 0, .int .i64 0, .int .i64 0, .slice none 0 0, .bool false, .slice none 0 0, .int .i64 0, .int .i64 0, .int .i64 0, .slice none 0 0, .int .i64 0, .int .i64 0, .int .i64 0, .int .i64 0, .int .i64 0, .slice none 0 0] rfl rfl (by kernel_rfl) rfl (by kernel_rfl) ?_)
  obtain ⟨w3, h3⟩ : ∃ w3, w3 = (w2.alloc (.cells #[.int .i64 1, .int .i64 1, .int .i64 0, .int .i64 1, .int .i64 2, .slice none 0 0, .int .i64 (-1), .slice none 0 0, .int .i64 0, .int .i64 0, .slice none 0 0, .int .i64 0, .int .i64 0, .int .i64 0, .slice none 0 0, .int .i64 0, .int .i64 0, .int .i64 0, .slice none 0 0, .bool false, .slice none 0 0, .int .i64 0, .int .i64 0, .int .i64 0, .slice none 0 0, .int .i64 0, .int .i64 0, .int .i64 0, .int .i64 0, .int .i64 0, .slice none 0 0] 36)).alloc (.cells #[.int .u8 2, .int .u8 2, .int .u8 0, .int .u8 2, .int .u8 4, .int .u8 0, .int .u8 1, .int .u8 0] 5) := ⟨_, rfl⟩
  rw [← h3]
  have hG : Blk w3 w2.heap.size 36 #[.int .i64 1, .int .i64 1, .int .i64 0, .int .i64 1, .int .i64 2, .slice none 0 0, .int .i64 (-1), .slice none 0 0, .int .i64 0, .int .i64 0, .slice none 0 0, .int .i64 0, .int .i64 0, .int .i64 0, .slice none 0 0, .int .i64 0, .int .i64 0, .int .i64 0, .slice none 0 0, .bool false, .slice none 0 0, .int .i64 0, .int .i64 0, .int .i64 0, .slice none 0 0, .int .i64 0, .int .i64 0, .int .i64 0, .int .i64 0, .int .i64 0, .slice none 0 0] := by rw [h3]; exact (Blk.new _ _ _).alloc _
  have hk3 : Kept Kno w2 w3 := by rw [h3]; exact ((Kept.refl _ _).alloc _).alloc _
  have c4 : w3.cell? ⟨w2.heap.size, 4, none⟩ = some (.int .i64 2) := hG.cell 4
  have c6 : w3.cell? ⟨w2.heap.size, 6, none⟩ = some (.int .i64 (-1)) := hG.cell 6
  have hb3 : Bs w3 (.slice (some ⟨w2.heap.size + 1, 0, none⟩) 8 8) bytes0 := by
    have := bs_lit (w2.alloc (.cells #[.int .i64 1, .int .i64 1, .int .i64 0, .int .i64 1, .int .i64 2, .slice none 0 0, .int .i64 (-1), .slice none 0 0, .int .i64 0, .int .i64 0, .slice none 0 0, .int .i64 0, .int .i64 0, .int .i64 0, .slice none 0 0, .int .i64 0, .int .i64 0, .int .i64 0, .slice none 0 0, .bool false, .slice none 0 0, .int .i64 0, .int .i64 0, .int .i64 0, .slice none 0 0, .int .i64 0, .int .i64 0, .int .i64 0, .int .i64 0, .int .i64 0, .slice none 0 0] 36)) bytes0 (0, 0) 5
    rw [size_alloc'] at this
    rw [h3]; exact this
  have heq := equal_any _ _ bytes0 bytes0 w3 (Rd.kept0 HB2.out hk3) hb3
  rw [decide_eq_true rfl] at heq
  have HEQ := Lib.hid heq
  have HK3 := Lib.hid (HK2.out.then0 hk3)
  clear heq hb3 hk3 hG HB2 HK2
  clear h3
  refine HEQ.out.mono ?_
  rintro e w4 ⟨rfl, rfl⟩
  go_wp2
  go_ret
  exact ⟨rfl, HK3.out⟩

end Go.Proofs.YtffdaohmalmkfaaGreat
