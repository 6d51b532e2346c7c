/-
  Contracts and plain laws that the claim's theorem rests on, some texts in one file.
-/
import Derived.Test.YtffdaohmalmkfaaGreatM11
/-
  Packet: the writer: subscriptions.
-/
namespace Go.Proofs.YtffdaohmalmkfaaGreat
open Go.RowKit
set_option linter.unusedVariables false

structure Sub where
  id : Int
  prio : Int
  q : Qry
def subC (x : Sub) (s : QS) : List Value := .int .i64 x.id :: .int .i64 x.prio :: x.q.cells s
def encSub (x : Sub) : List UInt8 := inum x.id ++ inum x.prio ++ encQ x.q
def encSubs (l : List Sub) : List UInt8 := leb l.length ++ l.flatMap encSub
/-- The slice value v reads as these subscriptions, in blocks below B. -/
def SubsIn (w : World) (B : Nat) (v : Value) (l : List Sub) : Prop :=
  ∃ (A : Option Addr) (cap : Nat), v = .slice A l.length cap ∧ l.length ≤ cap ∧ cap ≤ maxLen ∧ (∀ k, v.ownBlock = some k → k < B) ∧
    (0 < l.length → ∃ g o, A = some ⟨g, o, none⟩ ∧ g < B ∧ ∀ (i : Nat) (x : Sub), l[i]? = some x → I64 x.id ∧ I64 x.prio ∧ ∃ s, QIn w B x.q s ∧ CellsAt w g (o + i * 23) (subC x s))
theorem SubsIn.old {w w' : World} {B B' : Nat} {v : Value} {l : List Sub} (h : SubsIn w B v l) (ho : Old B w w') (hB : B ≤ B') : SubsIn w' B' v l := by
  obtain ⟨A, cap, h1, h2, h3, h4, h5⟩ := h
  refine ⟨A, cap, h1, h2, h3, fun k hk => by have := h4 k hk; omega, fun h0 => ?_⟩
  obtain ⟨g, o, a, b, c⟩ := h5 h0
  refine ⟨g, o, a, by omega, fun i x hx => ?_⟩
  obtain ⟨c1, c2, s, c3, c4⟩ := c i x hx
  exact ⟨c1, c2, s, QIn.old ho hB _ _ c3, c4.old b ho⟩
theorem SubsIn.nil (w : World) (B : Nat) : SubsIn w B (.slice none 0 0) [] := by
  refine ⟨none, 0, rfl, Nat.le_refl _, Nat.zero_le _, fun k h => ?_, fun h => absurd h (Nat.lt_irrefl 0)⟩
  simp [Value.ownBlock] at h
theorem CellsAt.drop {w : World} {g o : Nat} {cs : List Value} (n : Nat) (h : CellsAt w g o cs) : CellsAt w g (o + n) (cs.drop n) := fun j u hj => by
  have := h (n + j) u (by rw [List.getElem?_drop] at hj; exact hj)
  rw [Nat.add_assoc]
  exact this
theorem CellsAt.blk {w : World} {g : Nat} {t : TypeId} {cs : List Value} (h : Blk w g t cs.toArray) : CellsAt w g 0 cs := fun j u hj => by
  rw [Nat.zero_add, h.cell]
  simpa using hj

set_option maxRecDepth 100000 in
set_option maxHeartbeats 8000000 in
theorem wsubs_any (D B : Nat) (v u : Value) (l : List UInt8) (xs : List Sub) (w : World) (h : Wr w D v l) (hu : SubsIn w B u xs) (hf : ∀ x ∈ xs, fitQ 1 x.q = true) (hB : B ≤ D) (hl : l.length + (encSubs xs).length ≤ 600000000000) :
    Calls Tryz.prog 46 #[.pointer (some ⟨D, 0, none⟩), u] w (WrOk D v (l ++ encSubs xs) w) := by
  have H := Lib.hid h
  have HF := Lib.hid hf
  have hlen : l.length + (leb xs.length).length + (xs.flatMap encSub).length ≤ 600000000000 := by simp only [encSubs, List.length_append] at hl; omega
  have HL := Lib.hid hlen
  have HU := Lib.hid hu
  obtain ⟨A, cap, rfl, hcap, hmax, hlow, hat⟩ := hu
  have hmax' : cap ≤ 9223372036854775807 := by simpa only [maxLen] using hmax
  have HC : Hid (Calls Tryz.prog 109 #[.pointer (some ⟨D, 0, none⟩), .int .i64 xs.length] w (WrOk D v (l ++ leb xs.length) w)) := Lib.hid (wcount_any D v l xs.length w h (by omega) (by omega))
  clear h hf hlen hat hlow hl hmax
  go_enter Tryz.func46, Tryz.ntmps46
  go_wp2_with fail
  refine HC.out.mono ?_
  rintro e w1 ⟨v1, rfl, hw1, hs1⟩
  have HW1 := Lib.hid hw1
  have HS1 := Lib.hid hs1
  clear hw1 hs1
  go_wp2_with fail
  go_loopw [12] (fun i wr => LoopRel xs.length D v (fun k => l ++ leb xs.length ++ (xs.take k).flatMap encSub) w i wr) (fun i _ => xs.length - (intOf i).toNat)
  case atStart => exact ⟨0, v1, Nat.zero_le _, rfl, by simpa using HW1.out, HS1.out⟩
  case round =>
    obtain ⟨k, v', hk, rfl, hwr, hsr⟩ := hrel
    have HWR := Lib.hid hwr
    have HSR := Lib.hid hsr
    clear hwr hsr
    by_cases hlt : k < xs.length
    · obtain ⟨A', cap', hv', -, -, -, hcell⟩ := HU.out
      injection hv' with e1 e2 e3
      subst e1 e3
      obtain ⟨g, o, rfl, hgB, hc⟩ := hcell (by omega)
      obtain ⟨x, hx⟩ : ∃ x, xs[k]? = some x := ⟨_, List.getElem?_eq_getElem hlt⟩
      obtain ⟨x1, x2, s, hqi, hqc⟩ := hc k x hx
      have HX1 := Lib.hid x1
      have HX2 := Lib.hid x2
      have HQI := Lib.hid hqi
      have HQC := Lib.hid (hqc.old hgB (HSR.out.old H.out hB))
      have hqn := x.q.cells_length s
      have hqo := QIn.one hqi
      have hn23 : (subC x s).length = 23 := by simp [subC, hqn]
      have HFX := Lib.hid (HF.out x (List.mem_of_getElem? hx))
      have HTK := Lib.hid (flatMap_take_succ encSub xs k x hx)
      have hle := flatMap_take_le encSub xs (k + 1)
      rw [HTK.out, List.length_append] at hle
      have HLEN : Hid ((l ++ leb xs.length ++ (xs.take k).flatMap encSub).length + (encSub x).length ≤ 600000000000) := Lib.hid (by have := HL.out; simp only [List.length_append]; omega)
      have HI : Hid ((Tryz.prog.info? 62).map (·.size) = some (subC x s).length) := Lib.hid (by rw [hn23]; kernel_rfl)
      have HI2 : Hid ((Tryz.prog.info? 62).map (·.size) = some (subC x s).toArray.size) := Lib.hid (by rw [List.size_toArray, hn23]; kernel_rfl)
      have HZ : Hid ((subC x s).toArray.size = 23) := Lib.hid (by rw [List.size_toArray, hn23])
      have HO : Hid ((subC x s).toArray.all (·.oneCell') = true) := Lib.hid (by simpa [subC, Value.oneCell'] using hqo)
      have HIQ : Hid ((Tryz.prog.info? 59).map (·.size) = some (x.q.cells s).length) := Lib.hid (by rw [hqn]; kernel_rfl)
      have HQV : Hid (x.q.v s = .agg (x.q.cells s).toArray) := Lib.hid (x.q.v_cells s)
      have hk0 : (0 : Int) ≤ (k : Int) := by omega
      have hk9 : (k : Int) < (xs.length : Int) := by omega
      obtain ⟨wB, hwB⟩ : ∃ wB, wB = wr.alloc (.cells (subC x s).toArray 62) := ⟨_, rfl⟩
      have hkB : Kept Kno wr wB := by rw [hwB]; exact (Kept.refl _ _).alloc _
      have HGB : Hid (Gd wB D v' wr.heap.size 62 (subC x s).toArray) := Lib.hid (by rw [hwB]; exact Gd.new HWR.out _ _)
      have c0 : wB.cell? ⟨wr.heap.size, 0, none⟩ = some (.int .i64 x.id) := HGB.out.b.cell 0
      rw [hwB] at c0
      have HWB := Lib.hid hwB
      clear hcell hc hx hqi hqc hqn hqo hn23 hle x1 x2 hwB e2
      go_wp2_with (first
        | (refine wpList_load_at rfl 62 (.tmp 14) rfl g (o + k * 23) (subC x s) _ rfl HQC.out Tryz.underlying62 rfl HI.out ?_)
        | (refine wpList_store_new rfl 62 (.tmp 5) (.tmp 15) rfl _ (subC x s).toArray rfl rfl HI2.out (by rw [HZ.out]; rfl) HO.out ?_))
      rw [← HWB.out]
      rw [← HWB.out] at c0
      refine (wnumber_any D v' _ x.id wB (HWR.out.kept hkB) HX1.out (by have := HLEN.out; simp only [encSub, List.length_append] at this ⊢; omega)).mono ?_
      rintro e w3 ⟨v3, rfl, hw3, hs3⟩
      have HW3 := Lib.hid hw3
      have HS3 := Lib.hid ((HSR.out.then0 hkB).trans hs3)
      have HG3 := Lib.hid (HGB.out.step hs3)
      have c1 : w3.cell? ⟨wr.heap.size, 1, none⟩ = some (.int .i64 x.prio) := HG3.out.b.cell 1
      clear hw3 hs3 hkB c0 HGB
      go_wp2_with fail
      refine (wnumber_any D v3 _ x.prio w3 HW3.out HX2.out (by have := HLEN.out; simp only [encSub, List.length_append] at this ⊢; omega)).mono ?_
      rintro e w4 ⟨v4, rfl, hw4, hs4⟩
      have HW4 := Lib.hid hw4
      have HS4 := Lib.hid (HS3.out.trans hs4)
      have HG4 := Lib.hid (HG3.out.step hs4)
      have HCQ : Hid (CellsAt w4 wr.heap.size 2 (x.q.cells s)) := Lib.hid (by have := (CellsAt.blk HG4.out.b).drop 2; simpa [subC] using this)
      clear hw4 hs4 c1 HG3 HS3 HW3
      go_wp2_with (refine wpList_load_at rfl 59 (.tmp 25) rfl wr.heap.size 2 (x.q.cells s) _ rfl HCQ.out Tryz.underlying59 rfl HIQ.out ?_)
      rw [← HQV.out]
      refine (wquery_any x.q 1 D B v4 s _ w4 HW4.out (QIn.old (HS4.out.old H.out hB) (Nat.le_refl _) _ _ HQI.out) hB HFX.out (by have := HLEN.out; simp only [encSub, List.length_append] at this ⊢; omega)).mono ?_
      rintro e w5 ⟨v5, rfl, hw5, hs5⟩
      have HW5 := Lib.hid hw5
      have HS5 := Lib.hid (HS4.out.trans hs5)
      clear hw5 hs5
      go_wp2
      go_roundw
      case rel =>
        refine ⟨k + 1, v5, by omega, by go_num, ?_, HS5.out⟩
        simp only [HTK.out]
        have := HW5.out
        simpa [encSub] using this
      case measure => simp [intOf]; omega
    · have hk9 : ¬ (k : Int) < (xs.length : Int) := by omega
      have hwr : Wr wr D v' (l ++ encSubs xs) := by
        have h9 : Wr wr D v' (l ++ leb xs.length ++ (xs.take k).flatMap encSub) := HWR.out
        rw [List.take_of_length_le (by omega)] at h9
        simpa [encSubs] using h9
      have hx : WrOk D v (l ++ encSubs xs) w (.returned (.tuple #[])) wr := ⟨v', rfl, hwr, HSR.out⟩
      have HX := Lib.hid hx
      clear hx hwr
      go_wp2
      go_end0
      exact HX.out

end Go.Proofs.YtffdaohmalmkfaaGreat
/-
  Packet: valid: its parts. (Printed by gen_pake.py.)
-/
namespace Go.Proofs.YtffdaohmalmkfaaGreat
open Go.RowKit
set_option linter.unusedVariables false

def wB (n a b : Int) : Bool := decide (a ≤ n) && decide (n ≤ b)
def realB (x : Val) : Bool := validB x.kind x.n x.s && !(x.kind == 1) && !(x.kind == 2)
def realsB (xs : List Val) : Bool := xs.all realB
def callB (seq proc : Int) (args : List Val) : Bool := wB seq 1 1073741824 && wB proc 0 15 && decide (args.length ≤ 8) && realsB args
/-- A bool comes back; nothing that was there has changed. -/
def RetBool (b : Bool) (w : World) (e : Ending) (w' : World) : Prop := e = .returned (.bool b) ∧ Kept Kno w w'
theorem RetBool.before {b : Bool} {w w1 w2 : World} {e : Ending} (h : RetBool b w1 e w2) (hk : Kept Kno w w1) : RetBool b w e w2 := ⟨h.1, hk.then0 h.2⟩

set_option maxRecDepth 100000 in
set_option maxHeartbeats 1000000 in
theorem within_any (n a b : Int) (w : World) : Calls Tryz.prog 52 #[.int .i64 n, .int .i64 a, .int .i64 b] w (RetBool (wB n a b) w) := by
  by_cases h1 : a ≤ n
  · by_cases h2 : n ≤ b
    · have hx : RetBool (wB n a b) w (.returned (.bool true)) w := ⟨by simp [wB, h1, h2], Kept.refl _ _⟩
      have HX := Lib.hid hx
      clear hx
      go_enter Tryz.func52, Tryz.ntmps52
      go_wp2
      go_ret
      exact HX.out
    · have hx : RetBool (wB n a b) w (.returned (.bool false)) w := ⟨by simp [wB, h2], Kept.refl _ _⟩
      have HX := Lib.hid hx
      clear hx
      go_enter Tryz.func52, Tryz.ntmps52
      go_wp2
      go_ret
      exact HX.out
  · have hx : RetBool (wB n a b) w (.returned (.bool false)) w := ⟨by simp [wB, h1], Kept.refl _ _⟩
    have HX := Lib.hid hx
    clear hx
    go_enter Tryz.func52, Tryz.ntmps52
    go_wp2
    go_ret
    exact HX.out

set_option maxRecDepth 100000 in
set_option maxHeartbeats 1000000 in
theorem real1_any (x : Val) (w : World) : Calls Tryz.prog 238 #[x.v] w (RetBool (realB x) w) := by
  obtain ⟨kind, n, s⟩ := x
  simp only [Val.v]
  go_enter Tryz.func238, Tryz.ntmps238
  go_wp2_with fail
  have hkA : Kept Kno w (w.alloc (.cells #[.int .i64 kind, .int .i64 n, .string s] 49)) := (Kept.refl _ _).alloc _
  have HQ := Lib.hid (Blk.new w 49 #[.int .i64 kind, .int .i64 n, .string s])
  generalize (w.alloc (.cells #[.int .i64 kind, .int .i64 n, .string s] 49)) = wA at hkA HQ ⊢
  refine (valid_any kind n s wA).mono ?_
  rintro e w1 ⟨rfl, hk1⟩
  have hkw : Kept Kno w w1 := hkA.then0 hk1
  have d0 : w1.cell? ⟨w.heap.size, 0, none⟩ = some (.int .i64 kind) := hk1.cell_some (HQ.out.cell 0) (fun h => h)
  clear hkA hk1 HQ
  cases hval : validB kind n s with
  | false =>
    have hx : RetBool (realB ⟨kind, n, s⟩) w (.returned (.bool false)) w1 := ⟨by simp [realB, hval], hkw⟩
    have HX := Lib.hid hx
    clear hx hval
    go_wp2
    go_ret
    exact HX.out
  | true =>
    have HV := Lib.hid hval
    clear hval
    by_cases h1 : kind = 1
    · have hx : RetBool (realB ⟨kind, n, s⟩) w (.returned (.bool false)) w1 := ⟨by simp [realB, h1], hkw⟩
      have HX := Lib.hid hx
      have hb1 : (kind == 1) = true := by simp [h1]
      have hb2 : (kind != 1) = false := by simp [h1]
      clear hx h1
      go_wp2
      go_ret
      exact HX.out
    · have hb1 : (kind == 1) = false := by simpa using h1
      have hb2 : (kind != 1) = true := by simp [h1]
      by_cases h2 : kind = 2
      · have hx : RetBool (realB ⟨kind, n, s⟩) w (.returned (.bool false)) w1 := ⟨by simp [realB, h2], hkw⟩
        have HX := Lib.hid hx
        have hb3 : (kind == 2) = true := by simp [h2]
        have hb4 : (kind != 2) = false := by simp [h2]
        clear hx h1 h2
        go_wp2
        go_ret
        exact HX.out
      · have hb3 : (kind == 2) = false := by simpa using h2
        have hb4 : (kind != 2) = true := by simp [h2]
        have hx : RetBool (realB ⟨kind, n, s⟩) w (.returned (.bool true)) w1 := ⟨by have := HV.out; simp [realB, this, hb1, hb3], hkw⟩
        have HX := Lib.hid hx
        clear hx h1 h2
        go_wp2
        go_ret
        exact HX.out

def RealRel (xs : List Val) (w : World) (i : Value) (wr : World) : Prop := ∃ k : Nat, k ≤ xs.length ∧ i = .int .i64 k ∧ realsB (xs.take k) = true ∧ Kept Kno w wr
theorem realsB_next (xs : List Val) (k : Nat) (x : Val) (h : realsB (xs.take k) = true) (hx : xs[k]? = some x) (hv : realB x = true) : realsB (xs.take (k + 1)) = true := by
  unfold realsB at h ⊢
  rw [List.take_add_one, hx, List.all_append, h]
  simp [hv]

set_option maxRecDepth 100000 in
set_option maxHeartbeats 1000000 in
theorem real_any (u : Value) (xs : List Val) (w : World) (hr : RowIn w u xs) : Calls Tryz.prog 146 #[u] w (RetBool (realsB xs) w) := by
  have HR := Lib.hid hr
  obtain ⟨Ar, capr, rfl, hrc, hrm, -, -⟩ := hr
  have m4 : capr ≤ 9223372036854775807 := by simp only [maxLen] at hrm; omega
  clear hrm
  go_enter Tryz.func146, Tryz.ntmps146
  go_wp2_with fail
  go_loopw [7] (fun i wr => RealRel xs w i wr) (fun i _ => xs.length - (intOf i).toNat)
  case atStart => exact ⟨0, Nat.zero_le _, rfl, rfl, Kept.refl _ _⟩
  case round =>
    obtain ⟨k, hk, rfl, hvo, hkr⟩ := hrel
    have HVO := Lib.hid hvo
    clear hvo
    by_cases hlt : k < xs.length
    · obtain ⟨A', cap', hv', -, -, hcell, hoks⟩ := HR.out.kept0 hkr
      injection hv' with e1 e2 e3
      subst e1 e3
      obtain ⟨g, o, rfl, hc⟩ := hcell (by omega)
      obtain ⟨x, hx⟩ : ∃ x, xs[k]? = some x := ⟨xs[k], List.getElem?_eq_getElem hlt⟩
      obtain ⟨c0, c1, c2⟩ := hc k x hx
      have HX := Lib.hid hx
      obtain ⟨kind, n, s⟩ := x
      simp only at c0 c1 c2
      have hk0 : (0 : Int) ≤ (k : Int) := by omega
      have hk9 : (k : Int) < (xs.length : Int) := by omega
      clear hcell hoks hc hx e2
      go_wp2_with fail
      refine (real1_any ⟨kind, n, s⟩ _).mono ?_
      rintro e w1 ⟨rfl, hk1⟩
      have hkw : Kept Kno w w1 := (hkr.alloc _).then0 hk1
      clear hk1
      cases hval : realB ⟨kind, n, s⟩ with
      | true =>
        have HV := Lib.hid hval
        clear hval
        go_wp2
        go_roundw
        case rel => exact ⟨k + 1, by omega, by go_num, realsB_next xs k _ HVO.out HX.out HV.out, hkw⟩
        case measure => simp [intOf]; omega
      | false =>
        have hx : RetBool (realsB xs) w (.returned (.bool false)) w1 := ⟨by
          have : realsB xs = false := by
            unfold realsB
            rw [List.all_eq_false]
            exact ⟨_, List.mem_of_getElem? HX.out, by simp [hval]⟩
          rw [this], hkw⟩
        have HXX := Lib.hid hx
        clear hx hval
        go_wp2
        go_ret
        exact HXX.out
    · have hk9 : ¬ (k : Int) < (xs.length : Int) := by omega
      have hx : RetBool (realsB xs) w (.returned (.bool true)) wr := ⟨by
        have := HVO.out
        rw [List.take_of_length_le (by omega)] at this
        rw [this], hkr⟩
      have HXX := Lib.hid hx
      clear hx
      go_wp2
      go_ret
      exact HXX.out

set_option maxRecDepth 100000 in
set_option maxHeartbeats 1000000 in
theorem validCall_any (seq proc : Int) (u : Value) (xs : List Val) (w : World) (hr : RowIn w u xs) : Calls Tryz.prog 144 #[.int .i64 seq, .int .i64 proc, u] w (RetBool (callB seq proc xs) w) := by
  have HR := Lib.hid hr
  obtain ⟨Ar, capr, rfl, -⟩ := hr
  go_enter Tryz.func144, Tryz.ntmps144
  go_wp2_with fail
  refine (within_any seq 1 1073741824 w).mono ?_
  rintro e w1 ⟨rfl, hk1⟩
  cases h1 : wB seq 1 1073741824 with
  | false =>
    have hx : RetBool (callB seq proc xs) w (.returned (.bool false)) w1 := ⟨by simp [callB, h1], hk1⟩
    have HX := Lib.hid hx
    clear hx h1
    go_wp2
    go_ret
    exact HX.out
  | true =>
    have H1 := Lib.hid h1
    clear h1
    go_wp2_with fail
    refine (within_any proc 0 15 w1).mono ?_
    rintro e w2 ⟨rfl, hk2⟩
    have hk2' := hk1.then0 hk2
    cases h2 : wB proc 0 15 with
    | false =>
      have hx : RetBool (callB seq proc xs) w (.returned (.bool false)) w2 := ⟨by simp [callB, h2], hk2'⟩
      have HX := Lib.hid hx
      clear hx h2
      go_wp2
      go_ret
      exact HX.out
    | true =>
      have H2 := Lib.hid h2
      clear h2
      by_cases h3 : xs.length ≤ 8
      · have h3' : (xs.length : Int) ≤ 8 := by omega
        have H3 := Lib.hid h3
        clear h3
        go_wp2_with fail
        refine (real_any _ xs w2 (HR.out.kept0 hk2')).mono ?_
        rintro e w3 ⟨rfl, hk3⟩
        have hx : RetBool (callB seq proc xs) w (.returned (.bool (realsB xs))) w3 := ⟨by have h1 := H1.out; have h2 := H2.out; have h3 := H3.out; simp [callB, h1, h2, h3], hk2'.then0 hk3⟩
        have HX := Lib.hid hx
        clear hx hk3
        go_wp2
        go_ret
        exact HX.out
      · have h3' : ¬ (xs.length : Int) ≤ 8 := by omega
        have hx : RetBool (callB seq proc xs) w (.returned (.bool false)) w2 := ⟨by simp [callB, h3], hk2'⟩
        have HX := Lib.hid hx
        clear hx h3
        go_wp2
        go_ret
        exact HX.out

set_option maxRecDepth 100000 in
set_option maxHeartbeats 1000000 in
theorem noRound_z (a_kind a_dev a_version a_budget a_from_ a_to a_kept a_decided a_part a_parts a_edits a_sdev a_sseq a_sproc a_sargs a_srec a_sreads a_vdev a_vseq a_vproc a_vargs a_vstatus a_vcommit a_rreason a_rcode a_rtable a_rkey : Value) (w : World) : Calls Tryz.prog 80 #[.agg #[a_kind, a_dev, .int .i64 0, a_version, a_budget, .slice none 0 0, .int .i64 0, .slice none 0 0, a_from_, a_to, a_kept, a_decided, a_part, a_parts, a_edits, a_sdev, a_sseq, a_sproc, a_sargs, a_srec, a_sreads, a_vdev, a_vseq, a_vproc, a_vargs, a_vstatus, a_vcommit, a_rreason, a_rcode, a_rtable, a_rkey]] w (RetBool true w) := by
  go_enter Tryz.func80, Tryz.ntmps80
  go_wp2
  go_ret
  exact ⟨rfl, (Kept.refl _ _).alloc _⟩

set_option maxRecDepth 100000 in
set_option maxHeartbeats 1000000 in
theorem noDelta_z (a_kind a_dev a_round a_version a_budget a_wanted a_cut a_held a_sdev a_sseq a_sproc a_sargs a_srec a_sreads a_vdev a_vseq a_vproc a_vargs a_vstatus a_vcommit a_rreason a_rcode a_rtable a_rkey : Value) (w : World) : Calls Tryz.prog 76 #[.agg #[a_kind, a_dev, a_round, a_version, a_budget, a_wanted, a_cut, a_held, .int .i64 0, .int .i64 0, .slice none 0 0, .int .i64 0, .int .i64 0, .int .i64 0, .slice none 0 0, a_sdev, a_sseq, a_sproc, a_sargs, a_srec, a_sreads, a_vdev, a_vseq, a_vproc, a_vargs, a_vstatus, a_vcommit, a_rreason, a_rcode, a_rtable, a_rkey]] w (RetBool true w) := by
  go_enter Tryz.func76, Tryz.ntmps76
  go_wp2
  go_ret
  exact ⟨rfl, (Kept.refl _ _).alloc _⟩

set_option maxRecDepth 100000 in
set_option maxHeartbeats 1000000 in
theorem noSubmission_z (w : World) : Calls Tryz.prog 77 #[.agg #[.int .i64 0, .int .i64 0, .int .i64 0, .slice none 0 0, .bool false, .slice none 0 0]] w (RetBool true w) := by
  go_enter Tryz.func77, Tryz.ntmps77
  go_wp2
  go_ret
  exact ⟨rfl, (Kept.refl _ _).alloc _⟩

set_option maxRecDepth 100000 in
set_option maxHeartbeats 1000000 in
theorem noVerdict_z (w : World) : Calls Tryz.prog 78 #[.agg #[.int .i64 0, .int .i64 0, .int .i64 0, .slice none 0 0, .int .i64 0, .int .i64 0, .int .i64 0, .int .i64 0, .int .i64 0, .slice none 0 0]] w (RetBool true w) := by
  go_enter Tryz.func78, Tryz.ntmps78
  go_wp2
  go_ret
  exact ⟨rfl, by first | exact ((Kept.refl _ _).alloc _).alloc _ | exact (((Kept.refl _ _).alloc _).alloc _).setNew (by simp) _⟩

end Go.Proofs.YtffdaohmalmkfaaGreat
