/-
  Contracts and plain laws that the claim's theorem rests on.
-/
import Derived.Test.YtffdaohmalmkfaaGreatW5
import Derived.Test.YtffdaohmalmkfaaGreatW6
import Derived.Test.YtffdaohmalmkfaaGreatW8
import Derived.Laws.EntriesVeiled
import Derived.Deep.Slices
import Derived.Deep.Fields
import Derived.KernelRfl
set_option linter.unusedSimpArgs false
set_option linter.unusedVariables false
/-
  Packet: valid: its parts. (Printed by gen_pake.py.)
-/
namespace Go.Proofs.YtffdaohmalmkfaaGreat
open Go.RowKit
set_option linter.unusedVariables false

def wB (n a b : Int) : Bool := decide (a ≤ n) && decide (n ≤ b)
def realB (x : Val) : Bool := validB x.kind x.n x.s && !(x.kind == 1) && !(x.kind == 2)
def realsB (xs : List Val) : Bool := xs.all realB
/-- A bool comes back; nothing that was there has changed. -/
def RetBool (b : Bool) (w : World) (e : Ending) (w' : World) : Prop := e = .returned (.bool b) ∧ Kept Kno w w'

set_option maxRecDepth 100000 in
set_option maxHeartbeats 1000000 in
theorem within_any (n a b : Int) (w : World) : Calls Tryz.prog 52 #[.int .i64 n, .int .i64 a, .int .i64 b] w (RetBool (wB n a b) w) := by
  by_cases h1 : a ≤ n
  · by_cases h2 : n ≤ b
    · have hx : RetBool (wB n a b) w (.returned (.bool true)) w := ⟨by simp [wB, h1, h2], Kept.refl _ _⟩
      have HX := Lib.hid hx
      clear hx
      go_enter Tryz.func52, Tryz.ntmps52
      go_wp2
      go_ret
      exact HX.out
    · have hx : RetBool (wB n a b) w (.returned (.bool false)) w := ⟨by simp [wB, h2], Kept.refl _ _⟩
      have HX := Lib.hid hx
      clear hx
      go_enter Tryz.func52, Tryz.ntmps52
      go_wp2
      go_ret
      exact HX.out
  · have hx : RetBool (wB n a b) w (.returned (.bool false)) w := ⟨by simp [wB, h1], Kept.refl _ _⟩
    have HX := Lib.hid hx
    clear hx
    go_enter Tryz.func52, Tryz.ntmps52
    go_wp2
    go_ret
    exact HX.out

set_option maxRecDepth 100000 in
set_option maxHeartbeats 1000000 in
theorem real1_any (x : Val) (w : World) : Calls Tryz.prog 238 #[x.v] w (RetBool (realB x) w) := by
  obtain ⟨kind, n, s⟩ := x
  simp only [Val.v]
  go_enter Tryz.func238, Tryz.ntmps238
  go_wp2_with fail
  have hkA : Kept Kno w (w.alloc (.cells #[.int .i64 kind, .int .i64 n, .string s] 49)) := (Kept.refl _ _).alloc _
  have HQ := Lib.hid (Blk.new w 49 #[.int .i64 kind, .int .i64 n, .string s])
  generalize (w.alloc (.cells #[.int .i64 kind, .int .i64 n, .string s] 49)) = wA at hkA HQ ⊢
  refine (valid_any kind n s wA).mono ?_
  rintro e w1 ⟨rfl, hk1⟩
  have hkw : Kept Kno w w1 := hkA.then0 hk1
  have d0 : w1.cell? ⟨w.heap.size, 0, none⟩ = some (.int .i64 kind) := hk1.cell_some (HQ.out.cell 0) (fun h => h)
  clear hkA hk1 HQ
  cases hval : validB kind n s with
  | false =>
    have hx : RetBool (realB ⟨kind, n, s⟩) w (.returned (.bool false)) w1 := ⟨by simp [realB, hval], hkw⟩
    have HX := Lib.hid hx
    clear hx hval
    go_wp2
    go_ret
    exact HX.out
  | true =>
    have HV := Lib.hid hval
    clear hval
    by_cases h1 : kind = 1
    · have hx : RetBool (realB ⟨kind, n, s⟩) w (.returned (.bool false)) w1 := ⟨by simp [realB, h1], hkw⟩
      have HX := Lib.hid hx
      have hb1 : (kind == 1) = true := by simp [h1]
      have hb2 : (kind != 1) = false := by simp [h1]
      clear hx h1
      go_wp2
      go_ret
      exact HX.out
    · have hb1 : (kind == 1) = false := by simpa using h1
      have hb2 : (kind != 1) = true := by simp [h1]
      by_cases h2 : kind = 2
      · have hx : RetBool (realB ⟨kind, n, s⟩) w (.returned (.bool false)) w1 := ⟨by simp [realB, h2], hkw⟩
        have HX := Lib.hid hx
        have hb3 : (kind == 2) = true := by simp [h2]
        have hb4 : (kind != 2) = false := by simp [h2]
        clear hx h1 h2
        go_wp2
        go_ret
        exact HX.out
      · have hb3 : (kind == 2) = false := by simpa using h2
        have hb4 : (kind != 2) = true := by simp [h2]
        have hx : RetBool (realB ⟨kind, n, s⟩) w (.returned (.bool true)) w1 := ⟨by have := HV.out; simp [realB, this, hb1, hb3], hkw⟩
        have HX := Lib.hid hx
        clear hx h1 h2
        go_wp2
        go_ret
        exact HX.out

def RealRel (xs : List Val) (w : World) (i : Value) (wr : World) : Prop := ∃ k : Nat, k ≤ xs.length ∧ i = .int .i64 k ∧ realsB (xs.take k) = true ∧ Kept Kno w wr
theorem realsB_next (xs : List Val) (k : Nat) (x : Val) (h : realsB (xs.take k) = true) (hx : xs[k]? = some x) (hv : realB x = true) : realsB (xs.take (k + 1)) = true := by
  unfold realsB at h ⊢
  rw [List.take_add_one, hx, List.all_append, h]
  simp [hv]

set_option maxRecDepth 100000 in
set_option maxHeartbeats 1000000 in
theorem real_any (u : Value) (xs : List Val) (w : World) (hr : RowIn w u xs) : Calls Tryz.prog 146 #[u] w (RetBool (realsB xs) w) := by
  have HR := Lib.hid hr
  obtain ⟨Ar, capr, rfl, hrc, hrm, -, -⟩ := hr
  have m4 : capr ≤ 9223372036854775807 := by simp only [maxLen] at hrm; omega
  clear hrm
  go_enter Tryz.func146, Tryz.ntmps146
  go_wp2_with fail
  go_loopw [7] (fun i wr => RealRel xs w i wr) (fun i _ => xs.length - (intOf i).toNat)
  case atStart => exact ⟨0, Nat.zero_le _, rfl, rfl, Kept.refl _ _⟩
  case round =>
    obtain ⟨k, hk, rfl, hvo, hkr⟩ := hrel
    have HVO := Lib.hid hvo
    clear hvo
    by_cases hlt : k < xs.length
    · obtain ⟨A', cap', hv', -, -, hcell, hoks⟩ := HR.out.kept0 hkr
      injection hv' with e1 e2 e3
      subst e1 e3
      obtain ⟨g, o, rfl, hc⟩ := hcell (by omega)
      obtain ⟨x, hx⟩ : ∃ x, xs[k]? = some x := ⟨xs[k], List.getElem?_eq_getElem hlt⟩
      obtain ⟨c0, c1, c2⟩ := hc k x hx
      have HX := Lib.hid hx
      obtain ⟨kind, n, s⟩ := x
      simp only at c0 c1 c2
      have hk0 : (0 : Int) ≤ (k : Int) := by omega
      have hk9 : (k : Int) < (xs.length : Int) := by omega
      clear hcell hoks hc hx e2
      go_wp2_with fail
      refine (real1_any ⟨kind, n, s⟩ _).mono ?_
      rintro e w1 ⟨rfl, hk1⟩
      have hkw : Kept Kno w w1 := (hkr.alloc _).then0 hk1
      clear hk1
      cases hval : realB ⟨kind, n, s⟩ with
      | true =>
        have HV := Lib.hid hval
        clear hval
        go_wp2
        go_roundw
        case rel => exact ⟨k + 1, by omega, by go_num, realsB_next xs k _ HVO.out HX.out HV.out, hkw⟩
        case measure => simp [intOf]; omega
      | false =>
        have hx : RetBool (realsB xs) w (.returned (.bool false)) w1 := ⟨by
          have : realsB xs = false := by
            unfold realsB
            rw [List.all_eq_false]
            exact ⟨_, List.mem_of_getElem? HX.out, by simp [hval]⟩
          rw [this], hkw⟩
        have HXX := Lib.hid hx
        clear hx hval
        go_wp2
        go_ret
        exact HXX.out
    · have hk9 : ¬ (k : Int) < (xs.length : Int) := by omega
      have hx : RetBool (realsB xs) w (.returned (.bool true)) wr := ⟨by
        have := HVO.out
        rw [List.take_of_length_le (by omega)] at this
        rw [this], hkr⟩
      have HXX := Lib.hid hx
      clear hx
      go_wp2
      go_ret
      exact HXX.out

set_option maxRecDepth 100000 in
set_option maxHeartbeats 1000000 in
theorem noDelta_z (a_kind a_dev a_round a_version a_budget a_wanted a_cut a_held a_sdev a_sseq a_sproc a_sargs a_srec a_sreads a_vdev a_vseq a_vproc a_vargs a_vstatus a_vcommit a_rreason a_rcode a_rtable a_rkey : Value) (w : World) : Calls Tryz.prog 76 #[.agg #[a_kind, a_dev, a_round, a_version, a_budget, a_wanted, a_cut, a_held, .int .i64 0, .int .i64 0, .slice none 0 0, .int .i64 0, .int .i64 0, .int .i64 0, .slice none 0 0, a_sdev, a_sseq, a_sproc, a_sargs, a_srec, a_sreads, a_vdev, a_vseq, a_vproc, a_vargs, a_vstatus, a_vcommit, a_rreason, a_rcode, a_rtable, a_rkey]] w (RetBool true w) := by
  go_enter Tryz.func76, Tryz.ntmps76
  go_wp2
  go_ret
  exact ⟨rfl, (Kept.refl _ _).alloc _⟩

set_option maxRecDepth 100000 in
set_option maxHeartbeats 1000000 in
theorem noSubmission_z (w : World) : Calls Tryz.prog 77 #[.agg #[.int .i64 0, .int .i64 0, .int .i64 0, .slice none 0 0, .bool false, .slice none 0 0]] w (RetBool true w) := by
  go_enter Tryz.func77, Tryz.ntmps77
  go_wp2
  go_ret
  exact ⟨rfl, (Kept.refl _ _).alloc _⟩

set_option maxRecDepth 100000 in
set_option maxHeartbeats 1000000 in
theorem noVerdict_z (w : World) : Calls Tryz.prog 78 #[.agg #[.int .i64 0, .int .i64 0, .int .i64 0, .slice none 0 0, .int .i64 0, .int .i64 0, .int .i64 0, .int .i64 0, .int .i64 0, .slice none 0 0]] w (RetBool true w) := by
  go_enter Tryz.func78, Tryz.ntmps78
  go_wp2
  go_ret
  exact ⟨rfl, by first | exact ((Kept.refl _ _).alloc _).alloc _ | exact (((Kept.refl _ _).alloc _).alloc _).setNew (by simp) _⟩

end Go.Proofs.YtffdaohmalmkfaaGreat
/-
  Packet: valid at a verdict. (Printed by gen_pakf.py.)
-/
namespace Go.Proofs.YtffdaohmalmkfaaGreat
open Go.RowKit
set_option linter.unusedVariables false

theorem size_alloc' (w : World) (o : Obj) : (w.alloc o).heap.size = w.heap.size + 1 := by simp

end Go.Proofs.YtffdaohmalmkfaaGreat
/-
  Packet: fields: the closures that write and read a message's fields. (Printed by gen_pakg.py.)
-/
namespace Go.Proofs.YtffdaohmalmkfaaGreat
open Go.RowKit
set_option linter.unusedVariables false

/-- A field: its two functions, and the function that finds it (with the type of the variable that holds that). -/
structure Fd where
  wf : Nat
  rf : Nat
  of_ : Option (Nat × Nat)
def fnV (k : Nat) : Value := .func (.func k) #[] #[]
def fnX (k X : Nat) : Value := .func (.func k) #[] #[.pointer (some ⟨X, 0, none⟩)]
/-- The two closures of a field. -/
def FdIn (w : World) (base : Nat) (f : Fd) (p : Value × Value) : Prop :=
  match f.of_ with
  | none => p = (fnV f.wf, fnV f.rf)
  | some (k, t) => ∃ X, base ≤ X ∧ p = (fnX f.wf X, fnX f.rf X) ∧ Blk w X t #[fnV k]
theorem FdIn.kept0 {w w' : World} {base : Nat} {f : Fd} {p : Value × Value} (h : FdIn w base f p) (hk : Kept Kno w w') : FdIn w' base f p := by
  obtain ⟨wf, rf, o⟩ := f
  cases o with
  | none => exact h
  | some o => obtain ⟨X, h1, h2, h3⟩ := h; exact ⟨X, h1, h2, h3.kept hk (fun h => h)⟩
def fpair (p : Value × Value) : List Value := [p.1, p.2]
def fpairs (ps : List (Value × Value)) : List Value := ps.flatMap fpair
/-- The slice value s is a row of its own of these fields. -/
def FieldsIn (w : World) (base : Nat) (s : Value) (fs : List Fd) : Prop :=
  ∃ ps : List (Value × Value), ps.length = fs.length ∧ w.ownsRow base 111 2 s fs.length (fpairs ps) ∧ ∀ (i : Nat) (f : Fd) (p : Value × Value), fs[i]? = some f → ps[i]? = some p → FdIn w base f p
def fdNum (k : Nat) : Fd := ⟨149, 150, some (k, 186)⟩
def fdSubs (k : Nat) : Fd := ⟨151, 152, some (k, 189)⟩

/-- A field as a value. -/
def FdRet (f : Fd) (w : World) (e : Ending) (w' : World) : Prop := ∃ X, e = .returned (.agg #[fnX f.wf X, fnX f.rf X]) ∧ X = w.heap.size ∧ Kept Kno w w' ∧ ∃ k t, f.of_ = some (k, t) ∧ Blk w' X t #[fnV k]

set_option maxRecDepth 100000 in
set_option maxHeartbeats 1000000 in
theorem fdNum_any (k : Nat) (w : World) : Calls Tryz.prog 84 #[fnV k] w (FdRet (fdNum k) w) := by
  unfold fnV
  go_enter Tryz.func84, Tryz.ntmps84
  go_wp2
  refine bodyPost_ret (v := .agg #[fnX 149 w.heap.size, fnX 150 w.heap.size]) ?_ rfl ?_
  · exact results_cell_row rfl _ _ (w.heap.size + 1) 111 _ (0, 0) _ rfl (by have := Blk.new (w.alloc (.cells #[.func (.func k) #[] #[]] 186)) 111 #[.func (.func 149) #[] #[.pointer (some ⟨w.heap.size, 0, none⟩)], .func (.func 150) #[] #[.pointer (some ⟨w.heap.size, 0, none⟩)]]; rw [size_alloc'] at this; exact this) Tryz.underlying111 rfl (by kernel_rfl)
  · exact ⟨_, rfl, rfl, ((Kept.refl _ _).alloc _).alloc _, k, _, rfl, (Blk.new w _ _).alloc _⟩

set_option maxRecDepth 100000 in
set_option maxHeartbeats 1000000 in
theorem fdSubs_any (k : Nat) (w : World) : Calls Tryz.prog 89 #[fnV k] w (FdRet (fdSubs k) w) := by
  unfold fnV
  go_enter Tryz.func89, Tryz.ntmps89
  go_wp2
  refine bodyPost_ret (v := .agg #[fnX 151 w.heap.size, fnX 152 w.heap.size]) ?_ rfl ?_
  · exact results_cell_row rfl _ _ (w.heap.size + 1) 111 _ (0, 0) _ rfl (by have := Blk.new (w.alloc (.cells #[.func (.func k) #[] #[]] 189)) 111 #[.func (.func 151) #[] #[.pointer (some ⟨w.heap.size, 0, none⟩)], .func (.func 152) #[] #[.pointer (some ⟨w.heap.size, 0, none⟩)]]; rw [size_alloc'] at this; exact this) Tryz.underlying111 rfl (by kernel_rfl)
  · exact ⟨_, rfl, rfl, ((Kept.refl _ _).alloc _).alloc _, k, _, rfl, (Blk.new w _ _).alloc _⟩

theorem FdRet.in_ {f : Fd} {w w' : World} {e : Ending} {base : Nat} (h : FdRet f w e w') (hb : base ≤ w.heap.size) : ∃ X, e = .returned (.agg #[fnX f.wf X, fnX f.rf X]) ∧ FdIn w' base f (fnX f.wf X, fnX f.rf X) ∧ Kept Kno w w' := by
  obtain ⟨X, h1, h2, h3, k, t, h4, h5⟩ := h
  refine ⟨X, h1, ?_, h3⟩
  obtain ⟨wf, rf, o⟩ := f
  simp only at h4
  subst h4
  exact ⟨X, by omega, rfl, h5⟩
theorem info_field : (Tryz.prog.info? 111).map (fun i => (i.zero, i.size, i.bytes)) = some (some (.agg #[.nilFunc, .nilFunc]), 2, 16) := by kernel_rfl

/-- A list of fields comes back. -/
def FsRet (fs : List Fd) (w : World) (e : Ending) (w' : World) : Prop := ∃ s, e = .returned s ∧ FieldsIn w' w.heap.size s fs ∧ Kept Kno w w'

end Go.Proofs.YtffdaohmalmkfaaGreat
/-
  Codec: Int and Text of the reader, for any bytes; the reference's Uint, Int, Text.
-/
namespace Go.Proofs.YtffdaohmalmkfaaGreat
open Go.RowKit
set_option linter.unusedVariables false

/-- What Int returns. -/
def intRes (l : List UInt8) (n : Int) : Int × Nat × Int :=
  if n < 0 ∨ (l.length : Int) < n then (0, 0, 1) else match uintAt l n.toNat with
    | .ok (N, k) => (unzz N, n.toNat + k, 0)
    | .error c => (0, 0, c)

theorem intF_any (v : Value) (l : List UInt8) (n : Int) (w : World) (hb : Bs w v l) (hl : l.length ≤ 1000000) :
    Calls Tryz.prog 96 #[v, .int .i64 n] w fun e w' => e = .returned (.tuple #[.int .i64 (intRes l n).1, .int .i64 (intRes l n).2.1, .int .i64 (intRes l n).2.2]) ∧ Kept Kno w w' := by
  unfold intRes
  by_cases hn : n < 0 ∨ (l.length : Int) < n
  · rw [if_pos hn]
    exact intF_bad v l n w hb hn
  · rw [if_neg hn]
    obtain ⟨m, rfl⟩ : ∃ m : Nat, n = (m : Int) := ⟨n.toNat, by omega⟩
    rw [Int.toNat_natCast]
    cases hx : uintAt l m with
    | error c => exact intF_err v l m c w hb (by omega) (fun D w1 hr hb1 => (int_dec D m v l w1 hr hb1 hl (by omega)).mono (fun e w2 h => by rw [hx] at h; exact h))
    | ok p =>
      obtain ⟨N, k⟩ := p
      refine (intF_ok v l m (m + k) w (fun V _ => V = .int .i64 (unzz N)) hb (by omega) (fun D w1 _ _ hr hb1 => (int_dec D m v l w1 hr hb1 hl (by omega)).mono (fun e w2 h => ?_))).mono ?_
      · rw [hx] at h
        exact ⟨h.1, _, h.2.1, h.2.2, rfl⟩
      · rintro e w' ⟨V, w2, rfl, rfl, -, h4⟩
        exact ⟨rfl, h4⟩

end Go.Proofs.YtffdaohmalmkfaaGreat
/-
  How arguments read: plain facts on the cells: a slice of structs, a slice of bytes.
-/
namespace Go.Proofs.YtffdaohmalmkfaaGreat
open Go.RowKit Go.ChangeShapes Go.WideShapes Go.ChangeAt Go.Deep
set_option linter.unusedVariables false

section
variable {H : Type} {enc : TypeId × Value → H} {P : Program} {w : World} {base : Nat} {spare : Nat → Bool} {held : Bool}

theorem u8_of {z : Int} (h : (Lit.int .u8 z).wf = true) : Value.int .u8 z = bv (UInt8.ofNat z.toNat) := by
  have hx : 0 ≤ z ∧ z ≤ 255 := by simpa [Lit.wf, IntKind.min, IntKind.max, IntKind.signed, IntKind.bits] using h
  have e : ((UInt8.ofNat z.toNat).toNat : Int) = z := by
    rw [UInt8.toNat_ofNat']
    omega
  rw [bv, e]

/-- A slice of bytes reads as bytes. -/
theorem bs_of_trod {t e : TypeId} {fuel : Nat} {v : Value} {x : DataW H × List MemPlace} (ht : P.underlying t = some (.slice e)) (he : P.underlying e = some (.int .u8)) (hC : P.cellsOf e = 1)
    (h : DataW.trod enc P w base spare held fuel t [v] = some x) : ∃ l : List UInt8, Bs w v l ∧ l.length ≤ maxLen := by
  rcases open_ints ht he hC h with ⟨hcs, _⟩ | ⟨a, len, cap, zs, hcs, _, hl, hm, hz, _, hcell, hwz⟩
  · injection hcs with hcs _
    subst hcs
    exact ⟨[], ⟨none, 0, rfl, by simp, rfl, fun _ => ⟨rfl, rfl⟩, (fun ad h => by cases h)⟩, by simp⟩
  · injection hcs with hcs _
    subst hcs
    have hlen : len ≤ zs.length := by rw [hz]; split <;> omega
    have hl' : ((zs.take len).map fun z => UInt8.ofNat z.toNat).length = len := by rw [List.length_map, List.length_take]; omega
    refine ⟨(zs.take len).map fun z => UInt8.ofNat z.toNat, ⟨some a, cap, by rw [hl'], by rw [hl']; exact hl, by simp, (fun h => by cases h), fun ad hA j u hj => ?_⟩, by rw [hl']; omega⟩
    cases hA
    rw [List.getElem?_map, List.getElem?_map, List.getElem?_take] at hj
    split at hj
    · rename_i hjl
      have hjz : j < zs.length := by omega
      rw [List.getElem?_eq_getElem hjz] at hj
      simp only [Option.map_some, Option.some.injEq] at hj
      have hc := hcell j hjz
      have hg : zs.getD j 0 = zs[j] := by simp [List.getD, List.getElem?_eq_getElem hjz]
      rw [hg] at hc
      rw [hc, ← hj, u8_of (hwz _ (List.getElem_mem hjz))]
    · simp at hj
end

theorem bytes_of_trod {H : Type} {enc : TypeId × Value → H} {w : World} {base : Nat} {spare : Nat → Bool} {held : Bool} {fuel : Nat} {v : Value} {x : DataW H × List MemPlace}
    (h : DataW.trod enc Tryz.prog w base spare held fuel 22 [v] = some x) : ∃ l : List UInt8, Bs w v l ∧ l.length ≤ maxLen :=
  bs_of_trod Tryz.underlying22 Tryz.underlying5 (by kernel_rfl) h
end Go.Proofs.YtffdaohmalmkfaaGreat
