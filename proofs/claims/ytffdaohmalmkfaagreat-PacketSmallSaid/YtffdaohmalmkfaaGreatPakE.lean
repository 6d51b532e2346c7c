/-
  Packet: valid: its parts. (Printed by gen_pake.py.)
-/
import Derived.Test.YtffdaohmalmkfaaGreatPakD
namespace Go.Proofs.YtffdaohmalmkfaaGreat
open Go.RowKit
set_option linter.unusedVariables false

def wB (n a b : Int) : Bool := decide (a ≤ n) && decide (n ≤ b)
def realB (x : Val) : Bool := validB x.kind x.n x.s && !(x.kind == 1) && !(x.kind == 2)
def realsB (xs : List Val) : Bool := xs.all realB
def callB (seq proc : Int) (args : List Val) : Bool := wB seq 1 1073741824 && wB proc 0 15 && decide (args.length ≤ 8) && realsB args
/-- A bool comes back; nothing that was there has changed. -/
def RetBool (b : Bool) (w : World) (e : Ending) (w' : World) : Prop := e = .returned (.bool b) ∧ Kept Kno w w'
theorem RetBool.before {b : Bool} {w w1 w2 : World} {e : Ending} (h : RetBool b w1 e w2) (hk : Kept Kno w w1) : RetBool b w e w2 := ⟨h.1, hk.then0 h.2⟩

set_option maxRecDepth 100000 in
set_option maxHeartbeats 1000000 in
theorem within_any (n a b : Int) (w : World) : Calls Tryz.prog 52 #[.int .i64 n, .int .i64 a, .int .i64 b] w (RetBool (wB n a b) w) := by
  by_cases h1 : a ≤ n
  · by_cases h2 : n ≤ b
    · have hx : RetBool (wB n a b) w (.returned (.bool true)) w := ⟨by simp [wB, h1, h2], Kept.refl _ _⟩
      have HX := Lib.hid hx
      clear hx
      go_enter Tryz.func52, Tryz.ntmps52
      go_wp2
      go_ret
      exact HX.out
    · have hx : RetBool (wB n a b) w (.returned (.bool false)) w := ⟨by simp [wB, h2], Kept.refl _ _⟩
      have HX := Lib.hid hx
      clear hx
      go_enter Tryz.func52, Tryz.ntmps52
      go_wp2
      go_ret
      exact HX.out
  · have hx : RetBool (wB n a b) w (.returned (.bool false)) w := ⟨by simp [wB, h1], Kept.refl _ _⟩
    have HX := Lib.hid hx
    clear hx
    go_enter Tryz.func52, Tryz.ntmps52
    go_wp2
    go_ret
    exact HX.out

set_option maxRecDepth 100000 in
set_option maxHeartbeats 1000000 in
theorem real1_any (x : Val) (w : World) : Calls Tryz.prog 238 #[x.v] w (RetBool (realB x) w) := by
  obtain ⟨kind, n, s⟩ := x
  simp only [Val.v]
  go_enter Tryz.func238, Tryz.ntmps238
  go_wp2_with fail
  have hkA : Kept Kno w (w.alloc (.cells #[.int .i64 kind, .int .i64 n, .string s] 49)) := (Kept.refl _ _).alloc _
  have HQ := Lib.hid (Blk.new w 49 #[.int .i64 kind, .int .i64 n, .string s])
  generalize (w.alloc (.cells #[.int .i64 kind, .int .i64 n, .string s] 49)) = wA at hkA HQ ⊢
  refine (valid_any kind n s wA).mono ?_
  rintro e w1 ⟨rfl, hk1⟩
  have hkw : Kept Kno w w1 := hkA.then0 hk1
  have d0 : w1.cell? ⟨w.heap.size, 0, none⟩ = some (.int .i64 kind) := hk1.cell_some (HQ.out.cell 0) (fun h => h)
  clear hkA hk1 HQ
  cases hval : validB kind n s with
  | false =>
    have hx : RetBool (realB ⟨kind, n, s⟩) w (.returned (.bool false)) w1 := ⟨by simp [realB, hval], hkw⟩
    have HX := Lib.hid hx
    clear hx hval
    go_wp2
    go_ret
    exact HX.out
  | true =>
    have HV := Lib.hid hval
    clear hval
    by_cases h1 : kind = 1
    · have hx : RetBool (realB ⟨kind, n, s⟩) w (.returned (.bool false)) w1 := ⟨by simp [realB, h1], hkw⟩
      have HX := Lib.hid hx
      have hb1 : (kind == 1) = true := by simp [h1]
      have hb2 : (kind != 1) = false := by simp [h1]
      clear hx h1
      go_wp2
      go_ret
      exact HX.out
    · have hb1 : (kind == 1) = false := by simpa using h1
      have hb2 : (kind != 1) = true := by simp [h1]
      by_cases h2 : kind = 2
      · have hx : RetBool (realB ⟨kind, n, s⟩) w (.returned (.bool false)) w1 := ⟨by simp [realB, h2], hkw⟩
        have HX := Lib.hid hx
        have hb3 : (kind == 2) = true := by simp [h2]
        have hb4 : (kind != 2) = false := by simp [h2]
        clear hx h1 h2
        go_wp2
        go_ret
        exact HX.out
      · have hb3 : (kind == 2) = false := by simpa using h2
        have hb4 : (kind != 2) = true := by simp [h2]
        have hx : RetBool (realB ⟨kind, n, s⟩) w (.returned (.bool true)) w1 := ⟨by have := HV.out; simp [realB, this, hb1, hb3], hkw⟩
        have HX := Lib.hid hx
        clear hx h1 h2
        go_wp2
        go_ret
        exact HX.out

def RealRel (xs : List Val) (w : World) (i : Value) (wr : World) : Prop := ∃ k : Nat, k ≤ xs.length ∧ i = .int .i64 k ∧ realsB (xs.take k) = true ∧ Kept Kno w wr
theorem realsB_next (xs : List Val) (k : Nat) (x : Val) (h : realsB (xs.take k) = true) (hx : xs[k]? = some x) (hv : realB x = true) : realsB (xs.take (k + 1)) = true := by
  unfold realsB at h ⊢
  rw [List.take_add_one, hx, List.all_append, h]
  simp [hv]

set_option maxRecDepth 100000 in
set_option maxHeartbeats 1000000 in
theorem real_any (u : Value) (xs : List Val) (w : World) (hr : RowIn w u xs) : Calls Tryz.prog 146 #[u] w (RetBool (realsB xs) w) := by
  have HR := Lib.hid hr
  obtain ⟨Ar, capr, rfl, hrc, hrm, -, -⟩ := hr
  have m4 : capr ≤ 9223372036854775807 := by simp only [maxLen] at hrm; omega
  clear hrm
  go_enter Tryz.func146, Tryz.ntmps146
  go_wp2_with fail
  go_loopw [7] (fun i wr => RealRel xs w i wr) (fun i _ => xs.length - (intOf i).toNat)
  case atStart => exact ⟨0, Nat.zero_le _, rfl, rfl, Kept.refl _ _⟩
  case round =>
    obtain ⟨k, hk, rfl, hvo, hkr⟩ := hrel
    have HVO := Lib.hid hvo
    clear hvo
    by_cases hlt : k < xs.length
    · obtain ⟨A', cap', hv', -, -, hcell, hoks⟩ := HR.out.kept0 hkr
      injection hv' with e1 e2 e3
      subst e1 e3
      obtain ⟨g, o, rfl, hc⟩ := hcell (by omega)
      obtain ⟨x, hx⟩ : ∃ x, xs[k]? = some x := ⟨xs[k], List.getElem?_eq_getElem hlt⟩
      obtain ⟨c0, c1, c2⟩ := hc k x hx
      have HX := Lib.hid hx
      obtain ⟨kind, n, s⟩ := x
      simp only at c0 c1 c2
      have hk0 : (0 : Int) ≤ (k : Int) := by omega
      have hk9 : (k : Int) < (xs.length : Int) := by omega
      clear hcell hoks hc hx e2
      go_wp2_with fail
      refine (real1_any ⟨kind, n, s⟩ _).mono ?_
      rintro e w1 ⟨rfl, hk1⟩
      have hkw : Kept Kno w w1 := (hkr.alloc _).then0 hk1
      clear hk1
      cases hval : realB ⟨kind, n, s⟩ with
      | true =>
        have HV := Lib.hid hval
        clear hval
        go_wp2
        go_roundw
        case rel => exact ⟨k + 1, by omega, by go_num, realsB_next xs k _ HVO.out HX.out HV.out, hkw⟩
        case measure => simp [intOf]; omega
      | false =>
        have hx : RetBool (realsB xs) w (.returned (.bool false)) w1 := ⟨by
          have : realsB xs = false := by
            unfold realsB
            rw [List.all_eq_false]
            exact ⟨_, List.mem_of_getElem? HX.out, by simp [hval]⟩
          rw [this], hkw⟩
        have HXX := Lib.hid hx
        clear hx hval
        go_wp2
        go_ret
        exact HXX.out
    · have hk9 : ¬ (k : Int) < (xs.length : Int) := by omega
      have hx : RetBool (realsB xs) w (.returned (.bool true)) wr := ⟨by
        have := HVO.out
        rw [List.take_of_length_le (by omega)] at this
        rw [this], hkr⟩
      have HXX := Lib.hid hx
      clear hx
      go_wp2
      go_ret
      exact HXX.out

set_option maxRecDepth 100000 in
set_option maxHeartbeats 1000000 in
theorem validCall_any (seq proc : Int) (u : Value) (xs : List Val) (w : World) (hr : RowIn w u xs) : Calls Tryz.prog 144 #[.int .i64 seq, .int .i64 proc, u] w (RetBool (callB seq proc xs) w) := by
  have HR := Lib.hid hr
  obtain ⟨Ar, capr, rfl, -⟩ := hr
  go_enter Tryz.func144, Tryz.ntmps144
  go_wp2_with fail
  refine (within_any seq 1 1073741824 w).mono ?_
  rintro e w1 ⟨rfl, hk1⟩
  cases h1 : wB seq 1 1073741824 with
  | false =>
    have hx : RetBool (callB seq proc xs) w (.returned (.bool false)) w1 := ⟨by simp [callB, h1], hk1⟩
    have HX := Lib.hid hx
    clear hx h1
    go_wp2
    go_ret
    exact HX.out
  | true =>
    have H1 := Lib.hid h1
    clear h1
    go_wp2_with fail
    refine (within_any proc 0 15 w1).mono ?_
    rintro e w2 ⟨rfl, hk2⟩
    have hk2' := hk1.then0 hk2
    cases h2 : wB proc 0 15 with
    | false =>
      have hx : RetBool (callB seq proc xs) w (.returned (.bool false)) w2 := ⟨by simp [callB, h2], hk2'⟩
      have HX := Lib.hid hx
      clear hx h2
      go_wp2
      go_ret
      exact HX.out
    | true =>
      have H2 := Lib.hid h2
      clear h2
      by_cases h3 : xs.length ≤ 8
      · have h3' : (xs.length : Int) ≤ 8 := by omega
        have H3 := Lib.hid h3
        clear h3
        go_wp2_with fail
        refine (real_any _ xs w2 (HR.out.kept0 hk2')).mono ?_
        rintro e w3 ⟨rfl, hk3⟩
        have hx : RetBool (callB seq proc xs) w (.returned (.bool (realsB xs))) w3 := ⟨by have h1 := H1.out; have h2 := H2.out; have h3 := H3.out; simp [callB, h1, h2, h3], hk2'.then0 hk3⟩
        have HX := Lib.hid hx
        clear hx hk3
        go_wp2
        go_ret
        exact HX.out
      · have h3' : ¬ (xs.length : Int) ≤ 8 := by omega
        have hx : RetBool (callB seq proc xs) w (.returned (.bool false)) w2 := ⟨by simp [callB, h3], hk2'⟩
        have HX := Lib.hid hx
        clear hx h3
        go_wp2
        go_ret
        exact HX.out

set_option maxRecDepth 100000 in
set_option maxHeartbeats 1000000 in
theorem noRound_z (a_kind a_dev a_version a_budget a_from_ a_to a_kept a_decided a_part a_parts a_edits a_sdev a_sseq a_sproc a_sargs a_srec a_sreads a_vdev a_vseq a_vproc a_vargs a_vstatus a_vcommit a_rreason a_rcode a_rtable a_rkey : Value) (w : World) : Calls Tryz.prog 80 #[.agg #[a_kind, a_dev, .int .i64 0, a_version, a_budget, .slice none 0 0, .int .i64 0, .slice none 0 0, a_from_, a_to, a_kept, a_decided, a_part, a_parts, a_edits, a_sdev, a_sseq, a_sproc, a_sargs, a_srec, a_sreads, a_vdev, a_vseq, a_vproc, a_vargs, a_vstatus, a_vcommit, a_rreason, a_rcode, a_rtable, a_rkey]] w (RetBool true w) := by
  go_enter Tryz.func80, Tryz.ntmps80
  go_wp2
  go_ret
  exact ⟨rfl, (Kept.refl _ _).alloc _⟩

set_option maxRecDepth 100000 in
set_option maxHeartbeats 1000000 in
theorem noDelta_z (a_kind a_dev a_round a_version a_budget a_wanted a_cut a_held a_sdev a_sseq a_sproc a_sargs a_srec a_sreads a_vdev a_vseq a_vproc a_vargs a_vstatus a_vcommit a_rreason a_rcode a_rtable a_rkey : Value) (w : World) : Calls Tryz.prog 76 #[.agg #[a_kind, a_dev, a_round, a_version, a_budget, a_wanted, a_cut, a_held, .int .i64 0, .int .i64 0, .slice none 0 0, .int .i64 0, .int .i64 0, .int .i64 0, .slice none 0 0, a_sdev, a_sseq, a_sproc, a_sargs, a_srec, a_sreads, a_vdev, a_vseq, a_vproc, a_vargs, a_vstatus, a_vcommit, a_rreason, a_rcode, a_rtable, a_rkey]] w (RetBool true w) := by
  go_enter Tryz.func76, Tryz.ntmps76
  go_wp2
  go_ret
  exact ⟨rfl, (Kept.refl _ _).alloc _⟩

set_option maxRecDepth 100000 in
set_option maxHeartbeats 1000000 in
theorem noSubmission_z (w : World) : Calls Tryz.prog 77 #[.agg #[.int .i64 0, .int .i64 0, .int .i64 0, .slice none 0 0, .bool false, .slice none 0 0]] w (RetBool true w) := by
  go_enter Tryz.func77, Tryz.ntmps77
  go_wp2
  go_ret
  exact ⟨rfl, (Kept.refl _ _).alloc _⟩

set_option maxRecDepth 100000 in
set_option maxHeartbeats 1000000 in
theorem noVerdict_z (w : World) : Calls Tryz.prog 78 #[.agg #[.int .i64 0, .int .i64 0, .int .i64 0, .slice none 0 0, .int .i64 0, .int .i64 0, .int .i64 0, .int .i64 0, .int .i64 0, .slice none 0 0]] w (RetBool true w) := by
  go_enter Tryz.func78, Tryz.ntmps78
  go_wp2
  go_ret
  exact ⟨rfl, by first | exact ((Kept.refl _ _).alloc _).alloc _ | exact (((Kept.refl _ _).alloc _).alloc _).setNew (by simp) _⟩

end Go.Proofs.YtffdaohmalmkfaaGreat
