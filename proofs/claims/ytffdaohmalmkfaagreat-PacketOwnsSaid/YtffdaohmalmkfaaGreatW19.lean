/-
  Contracts and plain laws that the claim's theorem rests on.
-/
import Derived.Test.YtffdaohmalmkfaaGreatW17
import Derived.Test.YtffdaohmalmkfaaGreatW18
set_option linter.unusedSimpArgs false
set_option linter.unusedVariables false
/-
  Packet: begun. (Printed by gen_pakv.py.)
-/
namespace Go.Proofs.YtffdaohmalmkfaaGreat
open Go.RowKit
set_option linter.unusedVariables false

set_option maxHeartbeats 400000 in
theorem equal_any (v u : Value) (l m : List UInt8) (w : World) (hv : Bs w v l) (hu : Bs w u m) :
    Calls Tryz.prog 13 #[v, u] w fun e w' => e = .returned (.bool (decide (l = m))) ∧ w = w' := by
  have t1 := run_string_bs (P := Tryz.prog) 22 9 5 hv Tryz.underlying22 Tryz.underlying5 Tryz.underlying9
  have t2 := run_string_bs (P := Tryz.prog) 22 9 5 hu Tryz.underlying22 Tryz.underlying5 Tryz.underlying9
  clear hv hu
  by_cases h : l = m
  · subst h
    go_enter Tryz.func13, Tryz.ntmps13
    go_wp2
    go_ret
    exact ⟨by simp, rfl⟩
  · have e2 : decide (l = m) = false := by simp [h]
    rw [e2]
    have H := Lib.hid h
    clear e2
    go_enter Tryz.func13, Tryz.ntmps13
    go_wp2
    go_ret
    refine ⟨?_, rfl⟩
    have := H.out
    simp [this]

def bytes0 : List UInt8 := [2, 2, 0, 2, 4, 0, 1, 0]
def syn0 : Syn := ⟨0, 1, 2, [], -1, []⟩
theorem enc_syn0 : encSync 1 syn0 = bytes0 := by kernel_rfl
theorem ok_syn0 : (wB 1 1 8 && syncB syn0) = true := by kernel_rfl
theorem sync_lit : syncC 1 syn0 (.slice none 0 0) (.slice none 0 0) = #[.int .i64 1, .int .i64 1, .int .i64 0, .int .i64 1, .int .i64 2, .slice none 0 0, .int .i64 (-1), .slice none 0 0, .int .i64 0, .int .i64 0, .slice none 0 0, .int .i64 0, .int .i64 0, .int .i64 0, .slice none 0 0, .int .i64 0, .int .i64 0, .int .i64 0, .slice none 0 0, .bool false, .slice none 0 0, .int .i64 0, .int .i64 0, .int .i64 0, .slice none 0 0, .int .i64 0, .int .i64 0, .int .i64 0, .int .i64 0, .int .i64 0, .slice none 0 0] := rfl

def sets0 : List (Nat × Value) := [(1, .int .i64 1), (2, .int .i64 0), (3, .int .i64 1), (4, .int .i64 2), (5, .slice none 0 0), (6, .int .i64 (-1)), (7, .slice none 0 0)]
def cell0 (k : Nat) : Array Value := (sets0.take k).foldl (fun a p => a.setIfInBounds p.1 p.2) (zeroC.setIfInBounds 0 (.int .i64 1))
theorem cell0_7 : cell0 7 = #[.int .i64 1, .int .i64 1, .int .i64 0, .int .i64 1, .int .i64 2, .slice none 0 0, .int .i64 (-1), .slice none 0 0, .int .i64 0, .int .i64 0, .slice none 0 0, .int .i64 0, .int .i64 0, .int .i64 0, .slice none 0 0, .int .i64 0, .int .i64 0, .int .i64 0, .slice none 0 0, .bool false, .slice none 0 0, .int .i64 0, .int .i64 0, .int .i64 0, .slice none 0 0, .int .i64 0, .int .i64 0, .int .i64 0, .int .i64 0, .int .i64 0, .slice none 0 0] := by kernel_rfl

set_option maxRecDepth 100000 in
theorem ent_num2 : Ent 150 := fun args w => by go_simp
set_option maxRecDepth 100000 in
theorem ent_subs2 : Ent 152 := fun args w => by go_simp

section
variable {w2 : World} {R M base : Nat} {v : Value} {l : List UInt8} {p : Value × Value} {cs : Array Value}
theorem bs_keep (hb : Bs w2 v l) (hv : ∀ k, v.ownBlock = some k → k ≠ R ∧ k ≠ M) {w' : World} (hk : Kept (KRM R M) w2 w') : Bs w' v l := Rd.kept hb hk (fun k h1 h2 => by have := hv k h1; unfold KRM at h2; omega)
theorem fdr_num {k off n N kk : Nat} {x : Value} (h : FdIn w2 base (fdNum k) p) (hR : R < base) (hM : M < base) (hRM : R ≠ M) (hb : Bs w2 v l) (hv : ∀ k, v.ownBlock = some k → k ≠ R ∧ k ≠ M) (hof : OfIs k off) (hc : cs[off]? = some x) (hl : l.length ≤ 1000000) (hn : n ≤ l.length) (hx : uintAt l n = .ok (N, kk)) :
    FdRd w2 R M v p.2 n cs (n + kk) (cs.setIfInBounds off (.int .i64 (unzz N))) := by
  obtain ⟨X, h1, rfl, h3⟩ := h
  refine ⟨150, #[.pointer (some ⟨X, 0, none⟩)], rfl, ent_num2, fun w' hk hr hm => ?_⟩
  exact rfNum R M X k off n N kk x cs v l w' hof (hk.cell_some (h3.cell 0) (fun h => by unfold KRM at h; simp only at h; omega)) hr hm hRM hc (bs_keep hb hv hk) hl hn hx
theorem fdr_subs0 {k off n kk : Nat} {x : Value} (h : FdIn w2 base (fdSubs k) p) (hR : R < base) (hM : M < base) (hRM : R ≠ M) (hb : Bs w2 v l) (hv : ∀ k, v.ownBlock = some k → k ≠ R ∧ k ≠ M) (hof : OfIs k off) (hc : cs[off]? = some x) (hl : l.length ≤ 1000000) (hn : n + kk ≤ l.length) (hx : uintAt l n = .ok (0, kk)) :
    FdRd w2 R M v p.2 n cs (n + kk) (cs.setIfInBounds off (.slice none 0 0)) := by
  obtain ⟨X, h1, rfl, h3⟩ := h
  refine ⟨152, #[.pointer (some ⟨X, 0, none⟩)], rfl, ent_subs2, fun w' hk hr hm => ?_⟩
  exact rfSubs0 R M X k off n kk x cs v l w' hof (hk.cell_some (h3.cell 0) (fun h => by unfold KRM at h; simp only at h; omega)) hr hm hRM hc (bs_keep hb hv hk) hl hn hx
end

theorem decode0 (v : Value) (w : World) (hb : Bs w v bytes0) : Calls Tryz.prog 11 #[v] w fun e w' => e = .returned (.tuple #[.agg #[.int .i64 1, .int .i64 1, .int .i64 0, .int .i64 1, .int .i64 2, .slice none 0 0, .int .i64 (-1), .slice none 0 0, .int .i64 0, .int .i64 0, .slice none 0 0, .int .i64 0, .int .i64 0, .int .i64 0, .slice none 0 0, .int .i64 0, .int .i64 0, .int .i64 0, .slice none 0 0, .bool false, .slice none 0 0, .int .i64 0, .int .i64 0, .int .i64 0, .slice none 0 0, .int .i64 0, .int .i64 0, .int .i64 0, .int .i64 0, .int .i64 0, .slice none 0 0], .int .i64 0]) ∧ Kept Kno w w' := by
  have h := decode_ok 1 v bytes0 syncFs 2 (fun k => k + 1) cell0 w hb (by decide) (by kernel_rfl) (by kernel_rfl) rfl (by decide) (by decide) fields_1 ?_ (by decide) (by kernel_rfl) (by kernel_rfl) (by kernel_rfl) (by kernel_rfl) ?_
  · have e : cell0 syncFs.length = #[.int .i64 1, .int .i64 1, .int .i64 0, .int .i64 1, .int .i64 2, .slice none 0 0, .int .i64 (-1), .slice none 0 0, .int .i64 0, .int .i64 0, .slice none 0 0, .int .i64 0, .int .i64 0, .int .i64 0, .slice none 0 0, .int .i64 0, .int .i64 0, .int .i64 0, .slice none 0 0, .bool false, .slice none 0 0, .int .i64 0, .int .i64 0, .int .i64 0, .slice none 0 0, .int .i64 0, .int .i64 0, .int .i64 0, .int .i64 0, .int .i64 0, .slice none 0 0] := cell0_7
    rw [e] at h
    exact h
  · intro w2 R M base hR hM hRM hb2 hv i f p hf hfi
    match i, hf with
    | 0, hf => simp only [syncFs, List.getElem?_cons_succ, List.getElem?_cons_zero, Option.some.injEq] at hf; subst hf; exact fdr_num (N := 2) (kk := 1) hfi hR hM hRM hb2 hv of_fields_1 (cs := cell0 0) (x := .int .i64 0) (by kernel_rfl) (by decide) (by decide) (by kernel_rfl)
    | 1, hf => simp only [syncFs, List.getElem?_cons_succ, List.getElem?_cons_zero, Option.some.injEq] at hf; subst hf; exact fdr_num (N := 0) (kk := 1) hfi hR hM hRM hb2 hv of_fields_2 (cs := cell0 1) (x := .int .i64 0) (by kernel_rfl) (by decide) (by decide) (by kernel_rfl)
    | 2, hf => simp only [syncFs, List.getElem?_cons_succ, List.getElem?_cons_zero, Option.some.injEq] at hf; subst hf; exact fdr_num (N := 2) (kk := 1) hfi hR hM hRM hb2 hv of_fields_3 (cs := cell0 2) (x := .int .i64 0) (by kernel_rfl) (by decide) (by decide) (by kernel_rfl)
    | 3, hf => simp only [syncFs, List.getElem?_cons_succ, List.getElem?_cons_zero, Option.some.injEq] at hf; subst hf; exact fdr_num (N := 4) (kk := 1) hfi hR hM hRM hb2 hv of_fields_4 (cs := cell0 3) (x := .int .i64 0) (by kernel_rfl) (by decide) (by decide) (by kernel_rfl)
    | 4, hf => simp only [syncFs, List.getElem?_cons_succ, List.getElem?_cons_zero, Option.some.injEq] at hf; subst hf; exact fdr_subs0 (kk := 1) hfi hR hM hRM hb2 hv of_fields_5 (cs := cell0 4) (x := .slice none 0 0) (by kernel_rfl) (by decide) (by decide) (by kernel_rfl)
    | 5, hf => simp only [syncFs, List.getElem?_cons_succ, List.getElem?_cons_zero, Option.some.injEq] at hf; subst hf; exact fdr_num (N := 1) (kk := 1) hfi hR hM hRM hb2 hv of_fields_6 (cs := cell0 5) (x := .int .i64 0) (by kernel_rfl) (by decide) (by decide) (by kernel_rfl)
    | 6, hf => simp only [syncFs, List.getElem?_cons_succ, List.getElem?_cons_zero, Option.some.injEq] at hf; subst hf; exact fdr_subs0 (kk := 1) hfi hR hM hRM hb2 hv of_fields_7 (cs := cell0 6) (x := .slice none 0 0) (by kernel_rfl) (by decide) (by decide) (by kernel_rfl)
    | j + 7, hf => simp [syncFs] at hf
  · intro w' hk'
    have h2 := valid_sync 1 syn0 (.slice none 0 0) (.slice none 0 0) 0 w' (SubsIn.nil _ _) (SubsIn.nil _ _) (Nat.zero_le _) (by decide) (by decide)
    rw [ok_syn0, sync_lit] at h2
    have e : cell0 syncFs.length = #[.int .i64 1, .int .i64 1, .int .i64 0, .int .i64 1, .int .i64 2, .slice none 0 0, .int .i64 (-1), .slice none 0 0, .int .i64 0, .int .i64 0, .slice none 0 0, .int .i64 0, .int .i64 0, .int .i64 0, .slice none 0 0, .int .i64 0, .int .i64 0, .int .i64 0, .slice none 0 0, .bool false, .slice none 0 0, .int .i64 0, .int .i64 0, .int .i64 0, .slice none 0 0, .int .i64 0, .int .i64 0, .int .i64 0, .int .i64 0, .int .i64 0, .slice none 0 0] := cell0_7
    rw [e]
    exact h2

theorem encode0 (w : World) : Calls Tryz.prog 9 #[.agg #[.int .i64 1, .int .i64 1, .int .i64 0, .int .i64 1, .int .i64 2, .slice none 0 0, .int .i64 (-1), .slice none 0 0, .int .i64 0, .int .i64 0, .slice none 0 0, .int .i64 0, .int .i64 0, .int .i64 0, .slice none 0 0, .int .i64 0, .int .i64 0, .int .i64 0, .slice none 0 0, .bool false, .slice none 0 0, .int .i64 0, .int .i64 0, .int .i64 0, .slice none 0 0, .int .i64 0, .int .i64 0, .int .i64 0, .int .i64 0, .int .i64 0, .slice none 0 0]] w fun e w' => ∃ A cap, e = .returned (.tuple #[.slice A 8 cap, .int .i64 0]) ∧ Bs w' (.slice A 8 cap) bytes0 ∧ Kept Kno w w' := by
  have h := encode_sync 1 syn0 (.slice none 0 0) (.slice none 0 0) w (SubsIn.nil _ _) (SubsIn.nil _ _) (by decide) (by decide) ok_syn0
  rw [enc_syn0, sync_lit] at h
  refine h.mono ?_
  rintro e w' ⟨hk, h2⟩
  rw [if_pos (by decide)] at h2
  obtain ⟨A, cap, h3, h4⟩ := h2
  exact ⟨A, cap, h3, OwnB.bs h4, hk⟩

set_option maxRecDepth 100000 in
set_option maxHeartbeats 4000000 in
theorem begun_any (w : World) : Calls Tryz.prog 10 #[] w (RetBool true w) := by
  go_enter Tryz.func10, Tryz.ntmps10
  go_wp2_with fail
  refine (encode0 w).mono ?_
  rintro e w1 ⟨A1, cap1, rfl, hb1, hk1⟩
  have HB1 := Lib.hid hb1
  have HK1 := Lib.hid hk1
  clear hb1 hk1
  go_wp2_with fail
  have hlit := bs_lit w1 bytes0 (0, 0) 5
  refine (decode0 _ _ hlit).mono ?_
  rintro e w2 ⟨rfl, hk2⟩
  have HB2 := Lib.hid (Rd.kept0 (HB1.out) (((Kept.refl _ _).alloc _).then0 hk2))
  have HK2 := Lib.hid ((HK1.out.alloc _).then0 hk2)
  clear hlit hk2 HB1 HK1
  go_wp2_with (refine wpList_store_new rfl 36 (.tmp 3) (.tmp 13) rfl _ #[.int .i64 1, .int .i64 1, .int .i64 0, .int .i64 1, .int .i64 2, .slice none 0 0, .int .i64 (-1), .slice none 0 0, .int .i64 0, .int .i64 0, .slice none 0 0, .int .i64 0, .int .i64 0, .int .i64 0, .slice none 0 0, .int .i64 0, .int .i64 0, .int .i64 0, .slice none 0 0, .bool false, .slice none 0 0, .int .i64 0, .int .i64 0, .int .i64 0, .slice none 0 0, .int .i64 0, .int .i64 0, .int .i64 0, .int .i64 0, .int .i64 0, .slice none 0 0] rfl rfl (by kernel_rfl) rfl (by kernel_rfl) ?_)
  obtain ⟨w3, h3⟩ : ∃ w3, w3 = (w2.alloc (.cells #[.int .i64 1, .int .i64 1, .int .i64 0, .int .i64 1, .int .i64 2, .slice none 0 0, .int .i64 (-1), .slice none 0 0, .int .i64 0, .int .i64 0, .slice none 0 0, .int .i64 0, .int .i64 0, .int .i64 0, .slice none 0 0, .int .i64 0, .int .i64 0, .int .i64 0, .slice none 0 0, .bool false, .slice none 0 0, .int .i64 0, .int .i64 0, .int .i64 0, .slice none 0 0, .int .i64 0, .int .i64 0, .int .i64 0, .int .i64 0, .int .i64 0, .slice none 0 0] 36)).alloc (.cells #[.int .u8 2, .int .u8 2, .int .u8 0, .int .u8 2, .int .u8 4, .int .u8 0, .int .u8 1, .int .u8 0] 5) := ⟨_, rfl⟩
  rw [← h3]
  have hG : Blk w3 w2.heap.size 36 #[.int .i64 1, .int .i64 1, .int .i64 0, .int .i64 1, .int .i64 2, .slice none 0 0, .int .i64 (-1), .slice none 0 0, .int .i64 0, .int .i64 0, .slice none 0 0, .int .i64 0, .int .i64 0, .int .i64 0, .slice none 0 0, .int .i64 0, .int .i64 0, .int .i64 0, .slice none 0 0, .bool false, .slice none 0 0, .int .i64 0, .int .i64 0, .int .i64 0, .slice none 0 0, .int .i64 0, .int .i64 0, .int .i64 0, .int .i64 0, .int .i64 0, .slice none 0 0] := by rw [h3]; exact (Blk.new _ _ _).alloc _
  have hk3 : Kept Kno w2 w3 := by rw [h3]; exact ((Kept.refl _ _).alloc _).alloc _
  have c4 : w3.cell? ⟨w2.heap.size, 4, none⟩ = some (.int .i64 2) := hG.cell 4
  have c6 : w3.cell? ⟨w2.heap.size, 6, none⟩ = some (.int .i64 (-1)) := hG.cell 6
  have hb3 : Bs w3 (.slice (some ⟨w2.heap.size + 1, 0, none⟩) 8 8) bytes0 := by
    have := bs_lit (w2.alloc (.cells #[.int .i64 1, .int .i64 1, .int .i64 0, .int .i64 1, .int .i64 2, .slice none 0 0, .int .i64 (-1), .slice none 0 0, .int .i64 0, .int .i64 0, .slice none 0 0, .int .i64 0, .int .i64 0, .int .i64 0, .slice none 0 0, .int .i64 0, .int .i64 0, .int .i64 0, .slice none 0 0, .bool false, .slice none 0 0, .int .i64 0, .int .i64 0, .int .i64 0, .slice none 0 0, .int .i64 0, .int .i64 0, .int .i64 0, .int .i64 0, .int .i64 0, .slice none 0 0] 36)) bytes0 (0, 0) 5
    rw [size_alloc'] at this
    rw [h3]; exact this
  have heq := equal_any _ _ bytes0 bytes0 w3 (Rd.kept0 HB2.out hk3) hb3
  rw [decide_eq_true rfl] at heq
  have HEQ := Lib.hid heq
  have HK3 := Lib.hid (HK2.out.then0 hk3)
  clear heq hb3 hk3 hG HB2 HK2
  clear h3
  refine HEQ.out.mono ?_
  rintro e w4 ⟨rfl, rfl⟩
  go_wp2
  go_ret
  exact ⟨rfl, HK3.out⟩

end Go.Proofs.YtffdaohmalmkfaaGreat
/-
  PacketOwns: the case's Bool, Count, Value of a kind; column. (Printed by gen_pakoa.py.)
-/
namespace Go.Proofs.YtffdaohmalmkfaaGreat
open Go.RowKit
set_option linter.unusedVariables false

def BoolOk (K : Nat) (v : Value) (l : List UInt8) (w : World) (e : Ending) (w' : World) : Prop := ∃ b : Bool, e = .returned (.bool b) ∧ Goes K v l w w'
set_option maxHeartbeats 1000000 in
theorem cbool_any (K a n : Nat) (v : Value) (l : List UInt8) (w : World) (h : CaseIs w K v l a) (hn : 1 ≤ n) (hn2 : n ≤ 1000000) :
    Calls Tryz.prog 31 #[.pointer (some ⟨K, 0, none⟩), .int .i64 n] w (BoolOk K v l w) := by
  have HC := Lib.hid (int_any K a n v l w h hn hn2)
  have hnI : (1 : Int) ≤ (n : Int) := by omega
  have hnI2 : (n : Int) ≤ 1000000 := by omega
  clear h
  go_enter Tryz.func31, Tryz.ntmps31
  go_wp2_with fail
  refine HC.out.mono ?_
  rintro e w1 ⟨m, hm, rfl, hg⟩
  have HG := Lib.hid hg
  clear hg
  go_wp2
  go_ret
  exact ⟨_, rfl, HG.out⟩

def CountOk (K : Nat) (v : Value) (l : List UInt8) (most : Nat) (w : World) (e : Ending) (w' : World) : Prop := ∃ m : Nat, m ≤ most ∧ e = .returned (.int .i64 m) ∧ Goes K v l w w'
set_option maxHeartbeats 1000000 in
theorem count_any (K a most : Nat) (v : Value) (l : List UInt8) (w : World) (h : CaseIs w K v l a) (hn2 : most ≤ 2000000000) :
    Calls Tryz.prog 26 #[.pointer (some ⟨K, 0, none⟩), .int .i64 most] w (CountOk K v l most w) := by
  have H := Lib.hid h
  have hnI2 : (most : Int) ≤ 2000000000 := by omega
  have hnI : (0 : Int) ≤ (most : Int) := by omega
  clear h
  go_enter Tryz.func26, Tryz.ntmps26
  go_wp2_with fail
  refine (int_any K a 8 v l w H.out (by omega) (by omega)).mono ?_
  rintro e w1 ⟨m, hm, rfl, hg⟩
  have HG := Lib.hid hg
  clear hg
  by_cases h7 : m = 7
  · subst h7
    go_wp2
    go_ret
    exact ⟨most, Nat.le_refl _, rfl, HG.out⟩
  · have h7' : ¬ (m : Int) = 7 := by omega
    have hm0 : (0 : Int) ≤ (m : Int) := by omega
    have hm8 : (m : Int) < 8 := by omega
    by_cases hlt : most < m
    · have hltI : (most : Int) < (m : Int) := by omega
      go_wp2
      go_ret
      exact ⟨most, Nat.le_refl _, rfl, HG.out⟩
    · have hltI : ¬ (most : Int) < (m : Int) := by omega
      go_wp2
      go_ret
      exact ⟨m, by omega, rfl, HG.out⟩

def KindOk (K : Nat) (kind : Int) (v : Value) (l : List UInt8) (w : World) (e : Ending) (w' : World) : Prop := ∃ x : Val, ValOk x ∧ x.kind = kind ∧ e = .returned x.v ∧ Goes K v l w w'
set_option maxHeartbeats 1000000 in
theorem valueK_any (K a : Nat) (kind : Int) (v : Value) (l : List UInt8) (w : World) (h : CaseIs w K v l a) (hk3 : 3 ≤ kind) (hk5 : kind ≤ 5) :
    Calls Tryz.prog 51 #[.pointer (some ⟨K, 0, none⟩), .int .i64 kind] w (KindOk K kind v l w) := by
  have hK := h.blk.lt
  have H := Lib.hid (h.kept0 ((Kept.refl Kno w).alloc (.cells #[.int .i64 0, .int .i64 0, .string ⟨#[]⟩] 49)))
  have HQ := Lib.hid (Blk.new w 49 #[.int .i64 0, .int .i64 0, .string ⟨#[]⟩])
  have hkA : Kept Kno w (w.alloc (.cells #[.int .i64 0, .int .i64 0, .string ⟨#[]⟩] 49)) := (Kept.refl _ _).alloc _
  clear h
  have hkind : kind = 3 ∨ kind = 4 ∨ kind = 5 := by omega
  rcases hkind with rfl | rfl | rfl
  · go_enter Tryz.func51, Tryz.ntmps51
    go_wp2_with fail
    generalize (w.alloc (.cells #[.int .i64 0, .int .i64 0, .string ⟨#[]⟩] 49)) = wA at H HQ hkA ⊢
    refine (int_any K a 2 v l wA H.out (by omega) (by omega)).mono ?_
    rintro e w1 ⟨m, hm, rfl, hg⟩
    have HG := Lib.hid hg
    have hq1 : Blk w1 w.heap.size 49 #[.int .i64 0, .int .i64 0, .string ⟨#[]⟩] := HQ.out.kept hg.2 (fun e => by unfold Kone at e; omega)
    have c0 : w1.cell? ⟨w.heap.size, 0, none⟩ = some (.int .i64 0) := hq1.cell 0
    have c1 : w1.cell? ⟨w.heap.size, 1, none⟩ = some (.int .i64 0) := hq1.cell 1
    have c2 : w1.cell? ⟨w.heap.size, 2, none⟩ = some (.string ⟨#[]⟩) := hq1.cell 2
    have f0 := hq1.frozen 0
    have f1 := hq1.frozen 1
    have f2 := hq1.frozen 2
    clear hg
    have hl := val_laid (kind := 3) (n := (m : Int)) (s := ⟨#[]⟩) (HG.out.before0 hkA) hq1
    have HL := Lib.hid hl
    clear hl HG hq1
    go_wp2_with fail
    refine bodyPost_ret (v := .agg #[.int .i64 3, .int .i64 (m : Int), .string ⟨#[]⟩]) ?_ rfl ⟨⟨3, (m : Int), ⟨#[]⟩⟩, valok_bool m hm, rfl, rfl, HL.out.2⟩
    exact results_cell_row rfl _ _ w.heap.size 49 _ (0, 0) _ rfl HL.out.1 Tryz.underlying49 rfl (by kernel_rfl)
  · go_enter Tryz.func51, Tryz.ntmps51
    go_wp2_with fail
    generalize (w.alloc (.cells #[.int .i64 0, .int .i64 0, .string ⟨#[]⟩] 49)) = wA at H HQ hkA ⊢
    refine (number_any K a v l wA H.out).mono ?_
    rintro e w1 ⟨m, hm1, hm2, rfl, hg⟩
    have HG := Lib.hid hg
    have hq1 : Blk w1 w.heap.size 49 #[.int .i64 0, .int .i64 0, .string ⟨#[]⟩] := HQ.out.kept hg.2 (fun e => by unfold Kone at e; omega)
    have c0 : w1.cell? ⟨w.heap.size, 0, none⟩ = some (.int .i64 0) := hq1.cell 0
    have c1 : w1.cell? ⟨w.heap.size, 1, none⟩ = some (.int .i64 0) := hq1.cell 1
    have c2 : w1.cell? ⟨w.heap.size, 2, none⟩ = some (.string ⟨#[]⟩) := hq1.cell 2
    have f0 := hq1.frozen 0
    have f1 := hq1.frozen 1
    have f2 := hq1.frozen 2
    clear hg
    have hl := val_laid (kind := 4) (n := m) (s := ⟨#[]⟩) (HG.out.before0 hkA) hq1
    have HL := Lib.hid hl
    clear hl HG hq1
    go_wp2_with fail
    refine bodyPost_ret (v := .agg #[.int .i64 4, .int .i64 m, .string ⟨#[]⟩]) ?_ rfl ⟨⟨4, m, ⟨#[]⟩⟩, valok_int m hm1 hm2, rfl, rfl, HL.out.2⟩
    exact results_cell_row rfl _ _ w.heap.size 49 _ (0, 0) _ rfl HL.out.1 Tryz.underlying49 rfl (by kernel_rfl)
  · go_enter Tryz.func51, Tryz.ntmps51
    go_wp2_with fail
    generalize (w.alloc (.cells #[.int .i64 0, .int .i64 0, .string ⟨#[]⟩] 49)) = wA at H HQ hkA ⊢
    refine (text_any K a v l wA H.out).mono ?_
    rintro e w1 ⟨s, hs, rfl, hg⟩
    have HG := Lib.hid hg
    have hq1 : Blk w1 w.heap.size 49 #[.int .i64 0, .int .i64 0, .string ⟨#[]⟩] := HQ.out.kept hg.2 (fun e => by unfold Kone at e; omega)
    have c0 : w1.cell? ⟨w.heap.size, 0, none⟩ = some (.int .i64 0) := hq1.cell 0
    have c1 : w1.cell? ⟨w.heap.size, 1, none⟩ = some (.int .i64 0) := hq1.cell 1
    have c2 : w1.cell? ⟨w.heap.size, 2, none⟩ = some (.string ⟨#[]⟩) := hq1.cell 2
    have f0 := hq1.frozen 0
    have f1 := hq1.frozen 1
    have f2 := hq1.frozen 2
    clear hg
    have hl := val_laid (kind := 5) (n := 0) (s := s) (HG.out.before0 hkA) hq1
    have HL := Lib.hid hl
    clear hl HG hq1
    go_wp2_with fail
    refine bodyPost_ret (v := .agg #[.int .i64 5, .int .i64 0, .string s]) ?_ rfl ⟨⟨5, 0, s⟩, valok_text s hs, rfl, rfl, HL.out.2⟩
    exact results_cell_row rfl _ _ w.heap.size 49 _ (0, 0) _ rfl HL.out.1 Tryz.underlying49 rfl (by kernel_rfl)

set_option maxHeartbeats 1000000 in
theorem column_any (s : ByteArray) (k : Int) (w : World) :
    Calls Tryz.prog 59 #[.string s, .int .i64 k] w (fun e w' => e = .returned (.agg #[.string s, .int .i64 k]) ∧ Kept Kno w w') := by
  go_enter Tryz.func59, Tryz.ntmps59
  go_wp2_with fail
  refine bodyPost_ret (v := .agg #[.string s, .int .i64 k]) ?_ rfl ⟨rfl, (Kept.refl _ _).alloc _⟩
  exact results_cell_row rfl _ _ w.heap.size 146 _ (0, 0) _ rfl (Blk.new _ _ _) Tryz.underlying146 rfl (by kernel_rfl)

end Go.Proofs.YtffdaohmalmkfaaGreat
/-
  PacketOwns: a world with some blocks erased: what is read there does not lie in them. No program in sight.
-/
namespace Go.Proofs.YtffdaohmalmkfaaGreat
open Go.RowKit
set_option linter.unusedVariables false

/-- The world w with the blocks of S emptied. -/
def erase (S : Nat → Bool) (w : World) : World := { w with heap := w.heap.mapIdx fun i o => if S i then .cells #[] 0 (0, 0) else o }
theorem erase_size (S : Nat → Bool) (w : World) : (erase S w).heap.size = w.heap.size := by simp [erase]
theorem erase_get {S : Nat → Bool} {w : World} {j : Nat} (h : S j = false) : (erase S w).heap[j]? = w.heap[j]? := by
  simp only [erase, Array.getElem?_mapIdx, h]
  cases w.heap[j]? <;> simp
theorem erase_gone {S : Nat → Bool} {w : World} {j : Nat} (h : S j = true) (hj : j < w.heap.size) : (erase S w).heap[j]? = some (.cells #[] 0 (0, 0)) := by
  simp only [erase, Array.getElem?_mapIdx, h]
  rw [Array.getElem?_eq_getElem hj]
  simp
theorem erase_none {S : Nat → Bool} {w : World} {a : Addr} (h : S a.block = true) : (erase S w).cell? a = none := by
  by_cases hj : a.block < w.heap.size
  · simp [World.cell?, erase_gone h hj]
  · have : (erase S w).heap[a.block]? = none := by rw [Array.getElem?_eq_none_iff, erase_size]; omega
    simp [World.cell?, this]
theorem erase_cell {S : Nat → Bool} {w : World} {a : Addr} {u : Value} (h : (erase S w).cell? a = some u) : w.cell? a = some u := by
  cases hs : S a.block with
  | true => rw [erase_none hs] at h; cases h
  | false => rwa [World.cell?_of_block (erase_get hs)] at h
theorem erase_kept {S S' : Nat → Bool} {T : Nat → Prop} {w w' : World} (hk : Kept T w w') (hT : ∀ k, T k → S k = true) (hS : ∀ k, k < w.heap.size → S' k = S k) : Kept Kno (erase S w) (erase S' w') := by
  refine ⟨hk.os, hk.tape, hk.output, by rw [erase_size, erase_size]; exact hk.size, fun i hi _ => ?_⟩
  rw [erase_size] at hi
  cases hs : S i with
  | true => rw [erase_gone hs hi, erase_gone ((hS i hi).trans hs) (Nat.lt_of_lt_of_le hi hk.size)]
  | false => rw [erase_get hs, erase_get ((hS i hi).trans hs)]; exact hk.block i hi (fun h => by rw [hT i h] at hs; cases hs)

/-- What is read in the one world is read in the other. -/
def Sub0 (w w' : World) : Prop := ∀ (a : Addr) (u : Value), w.cell? a = some u → w'.cell? a = some u
theorem erase_sub (S : Nat → Bool) (w : World) : Sub0 (erase S w) w := fun _ _ h => erase_cell h
theorem CellsAt.sub0 {w w' : World} (hc : Sub0 w w') {g o : Nat} {cs : List Value} (h : CellsAt w g o cs) : CellsAt w' g o cs := fun j u hj => hc _ _ (h j u hj)
theorem SlIn.sub0 {w w' : World} {B : Nat} (hc : Sub0 w w') {size n : Nat} {s : Value} {xs : List Value} (h : SlIn w B size s n xs) : SlIn w' B size s n xs := by
  obtain ⟨A, cap, h1, h2, h3, h4, h5, h6, h7⟩ := h
  exact ⟨A, cap, h1, h2, h3, h4, h5, h6, fun h0 => by obtain ⟨g, o, a, b, c⟩ := h7 h0; exact ⟨g, o, a, b, CellsAt.sub0 hc c⟩⟩
mutual
theorem PIn.sub0 {w w' : World} {B : Nat} (hc : Sub0 w w') : ∀ (p : Prd) (s : Value), PIn w B p s → PIn w' B p s
  | .mk op cmp l r args, s, h => by
    simp only [PIn] at h ⊢
    obtain ⟨h1, h2, h3, h4, A, cap, h5, h6, h7, h8, h9, h10⟩ := h
    refine ⟨h1, h2, h3, h4, A, cap, h5, h6, h7, h8, h9, fun h0 => ?_⟩
    obtain ⟨g, o, a, b, c⟩ := h10 h0
    exact ⟨g, o, a, b, PsAt.sub0 hc args g o c⟩
theorem PsAt.sub0 {w w' : World} {B : Nat} (hc : Sub0 w w') : ∀ (ps : List Prd) (g o : Nat), PsAt w B ps g o → PsAt w' B ps g o
  | [], _, _, _ => by simp only [PsAt]
  | p :: ps, g, o, h => by
    simp only [PsAt] at h ⊢
    obtain ⟨⟨s, a, b⟩, c⟩ := h
    exact ⟨⟨s, PIn.sub0 hc p s a, CellsAt.sub0 hc b⟩, PsAt.sub0 hc ps g (o + 13) c⟩
end

end Go.Proofs.YtffdaohmalmkfaaGreat
