/-
  Contracts and plain laws that the claim's theorem rests on, some texts in one file.
-/
import Derived.Test.YtffdaohmalmkfaaGreatM6
import Derived.Deep.RegionHeld3
/-
  Codec: AppendRow.
-/
namespace Go.Proofs.YtffdaohmalmkfaaGreat
open Go.RowKit
set_option linter.unusedVariables false

def okVal (x : Val) : Prop := -9223372036854775808 ≤ x.n ∧ x.n ≤ 9223372036854775807 ∧ x.s.size ≤ maxLen
/-- The slice value v reads as the row xs. -/
def RowIn (w : World) (v : Value) (xs : List Val) : Prop :=
  ∃ A cap, v = .slice A xs.length cap ∧ xs.length ≤ cap ∧ cap ≤ maxLen ∧ (0 < xs.length → ∃ g o, A = some ⟨g, o, none⟩ ∧ ∀ (i : Nat) (x : Val), xs[i]? = some x →
    w.cell? ⟨g, o + i * 3, none⟩ = some (.int .i64 x.kind) ∧ w.cell? ⟨g, o + i * 3 + 1, none⟩ = some (.int .i64 x.n) ∧ w.cell? ⟨g, o + i * 3 + 1 + 1, none⟩ = some (.string x.s)) ∧ ∀ x ∈ xs, okVal x
theorem RowIn.kept0 {w w' : World} {v : Value} {xs : List Val} (h : RowIn w v xs) (hk : Kept Kno w w') : RowIn w' v xs := by
  obtain ⟨A, cap, h1, h2, h3, h4, h5⟩ := h
  refine ⟨A, cap, h1, h2, h3, fun h0 => ?_, h5⟩
  obtain ⟨g, o, hA, hc⟩ := h4 h0
  exact ⟨g, o, hA, fun i x hx => ⟨hk.cell_some (hc i x hx).1 (fun h => h), hk.cell_some (hc i x hx).2.1 (fun h => h), hk.cell_some (hc i x hx).2.2 (fun h => h)⟩⟩

def valsOk (xs : List Val) : Bool := xs.all fun x => validB x.kind x.n x.s
def renc (xs : List Val) : List UInt8 := leb xs.length ++ xs.flatMap venc
/-- What AppendRow returns. -/
def rowRes (l : List UInt8) (xs : List Val) : List UInt8 × Int :=
  if 12 < xs.length then ([], 2) else if valsOk xs then (l ++ renc xs, 0) else ([], 10)

def RetE (p : List UInt8 × Int) (w : World) (e : Ending) (w' : World) : Prop :=
  ∃ A cap, e = .returned (.tuple #[.slice A p.1.length cap, .int .i64 p.2]) ∧ OwnB w' w.heap.size 5 (.slice A p.1.length cap) p.1 ∧ Kept Kno w w'

theorem valid_size (x : Val) (h : validB x.kind x.n x.s = true) : x.s.size ≤ 64 := by
  have he : x.s.toList.isEmpty = true → x.s.size = 0 := by
    intro h
    rw [List.isEmpty_iff, Lib.toList_data] at h
    have h2 := congrArg List.length h
    rw [Array.length_toList] at h2
    exact h2
  unfold validB at h
  split at h
  · simp at h; have := he (by simpa using h.2); omega
  · split at h
    · simp at h; have := he (by simpa using h.2); omega
    · split at h
      · simp at h; have := he (by simpa using h.2); omega
      · split at h
        · have := he h; omega
        · split at h
          · simp at h; exact h.2
          · cases h

def Row1 (xs : List Val) (w : World) (m i : Value) (wr : World) : Prop :=
  ∃ k M : Nat, k ≤ xs.length ∧ i = .int .i64 k ∧ m = .int .i64 M ∧ M ≤ 1 + 75 * k ∧ valsOk (xs.take k) = true ∧ Kept Kno w wr
def Row2 (l : List UInt8) (xs : List Val) (w : World) (out i : Value) (wr : World) : Prop :=
  ∃ (k : Nat) (A : Option Addr) (cap : Nat) (m : List UInt8), k ≤ xs.length ∧ i = .int .i64 k ∧ out = .slice A m.length cap ∧ OwnB wr w.heap.size 5 (.slice A m.length cap) m ∧ m = l ++ (leb xs.length ++ (xs.take k).flatMap venc) ∧ Kept Kno w wr

theorem venc_length (x : Val) (h : validB x.kind x.n x.s = true) : (venc x).length ≤ 80 := by
  have h1 := valid_size x h
  have h2 := (leb_length (zz x.n)).2
  have h3 := (leb_length x.s.size).2
  have h4 := sbytes_length x.s
  unfold venc
  split
  · simp
  · split
    · simp; omega
    · split
      · simp; omega
      · simp
theorem vencs_length (xs : List Val) (h : valsOk xs = true) : (xs.flatMap venc).length ≤ 80 * xs.length := by
  induction xs with
  | nil => simp
  | cons x xs ih =>
    simp only [valsOk, List.all_cons, Bool.and_eq_true] at h
    have h1 := venc_length x h.1
    have h2 := ih h.2
    simp only [List.flatMap_cons, List.length_append, List.length_cons]
    omega
theorem valsOk_take (xs : List Val) (k : Nat) (h : valsOk xs = true) : valsOk (xs.take k) = true := by
  unfold valsOk at h ⊢
  rw [List.all_eq_true] at h ⊢
  exact fun x hx => h x (List.mem_of_mem_take hx)
theorem valsOk_next (xs : List Val) (k : Nat) (x : Val) (h : valsOk (xs.take k) = true) (hx : xs[k]? = some x) (hv : validB x.kind x.n x.s = true) : valsOk (xs.take (k + 1)) = true := by
  unfold valsOk at h ⊢
  rw [List.take_add_one, hx, List.all_append, h]
  simp [hv]

set_option maxHeartbeats 4000000 in
theorem appendRow_any (v u : Value) (l : List UInt8) (xs : List Val) (w : World) (h : Bs w v l) (hr : RowIn w u xs) (hl : l.length ≤ 1000000) :
    Calls Tryz.prog 276 #[v, u] w (RetE (rowRes l xs) w) := by
  have H := Lib.hid h
  have HR := Lib.hid hr
  obtain ⟨Av, capv, rfl, -⟩ := h
  obtain ⟨Ar, capr, rfl, hrc, hrm, -, -⟩ := hr
  have m4 : capr ≤ 9223372036854775807 := by simp only [maxLen] at hrm; omega
  clear hrm
  by_cases h12 : 12 < xs.length
  · have hx : RetE (rowRes l xs) w (.returned (.tuple #[.slice none 0 0, .int .i64 2])) w := by
      have e : rowRes l xs = ([], 2) := by unfold rowRes; rw [if_pos h12]
      rw [e]
      exact ⟨none, 0, rfl, World.ownsRow_nil _ _ _ _, Kept.refl _ _⟩
    have HXX := Lib.hid hx
    clear hx
    have h12' : (12 : Int) < (xs.length : Int) := by omega
    go_enter Tryz.func276, Tryz.ntmps276
    go_wp2
    go_ret2
    exact HXX.out
  · have H12 := Lib.hid h12
    have h12' : ¬ (12 : Int) < (xs.length : Int) := by omega
    go_enter Tryz.func276, Tryz.ntmps276
    go_wp2_with fail
    go_loopw [6, 17] (fun m i wr => Row1 xs w m i wr) (fun _ i _ => xs.length - (intOf i).toNat)
    case atStart => exact ⟨0, 1, Nat.zero_le _, rfl, rfl, by omega, rfl, Kept.refl _ _⟩
    case round =>
      obtain ⟨k, M, hk, rfl, rfl, hM, hvo, hkr⟩ := hrel
      have HVO := Lib.hid hvo
      clear hvo
      by_cases hlt : k < xs.length
      · obtain ⟨A', cap', hv', -, -, hcell, hoks⟩ := HR.out.kept0 hkr
        injection hv' with e1 e2 e3
        subst e1 e3
        obtain ⟨g, o, rfl, hc⟩ := hcell (by omega)
        obtain ⟨x, hx⟩ : ∃ x, xs[k]? = some x := ⟨xs[k], List.getElem?_eq_getElem hlt⟩
        obtain ⟨c0, c1, c2⟩ := hc k x hx
        have hok := hoks x (List.mem_of_getElem? hx)
        have HX := Lib.hid hx
        obtain ⟨kind, n, s⟩ := x
        simp only at c0 c1 c2
        have hss : s.size ≤ 9223372036854775807 := by have := hok.2.2; simp only [maxLen] at this; exact this
        have hk0 : (0 : Int) ≤ (k : Int) := by omega
        have hk9 : (k : Int) < (xs.length : Int) := by omega
        clear hcell hoks hc hx e2 hok
        go_wp2_with fail
        have hkA : Kept Kno w (wr.alloc (.cells #[.int .i64 kind, .int .i64 n, .string s] 49)) := hkr.alloc _
        have HQ := Lib.hid (Blk.new wr 49 #[.int .i64 kind, .int .i64 n, .string s])
        generalize (wr.alloc (.cells #[.int .i64 kind, .int .i64 n, .string s] 49)) = wA at hkA HQ ⊢
        clear c0 c1 c2
        refine (valid_any kind n s wA).mono ?_
        rintro e w1 ⟨rfl, hk1⟩
        have hkw : Kept Kno w w1 := hkA.then0 hk1
        have d2 : w1.cell? ⟨wr.heap.size, 2, none⟩ = some (.string s) := hk1.cell_some (HQ.out.cell 2) (fun h => h)
        cases hval : validB kind n s with
        | true =>
          have hsz := valid_size ⟨kind, n, s⟩ hval
          simp only at hsz
          have HV := Lib.hid hval
          clear hval
          go_wp2
          go_roundw
          case rel => exact ⟨k + 1, M + (11 + s.size), by omega, by go_num, by go_num, by omega, valsOk_next xs k _ HVO.out HX.out HV.out, hkw⟩
          case measure => simp [intOf]; omega
        | false =>
          have hno : valsOk xs = false := by
            unfold valsOk
            rw [List.all_eq_false]
            exact ⟨_, List.mem_of_getElem? HX.out, by simp [hval]⟩
          have hx : RetE (rowRes l xs) w (.returned (.tuple #[.slice none 0 0, .int .i64 10])) w1 := by
            have e : rowRes l xs = ([], 10) := by unfold rowRes; rw [if_neg H12.out, hno]; rfl
            rw [e]
            exact ⟨none, 0, rfl, World.ownsRow_nil _ _ _ _, hkw⟩
          have HXX := Lib.hid hx
          clear hx hno hval
          go_wp2
          go_ret2
          exact HXX.out
      · have hk9 : ¬ (k : Int) < (xs.length : Int) := by omega
        have hall : valsOk xs = true := by
          have := HVO.out
          rw [List.take_of_length_le (by omega)] at this
          exact this
        have HALL := Lib.hid hall
        clear hall
        go_wp2_with fail
        refine (grown_any _ l M wr (H.out.kept0 hkr) (by omega)).mono ?_
        rintro e w1 ⟨A1, cap1, rfl, hown, hk1⟩
        have hk1' : Kept Kno w w1 := hkr.then0 hk1
        have HO : Hid (OwnB w1 w.heap.size 5 (.slice A1 l.length cap1) l) := Lib.hid (own_rebase hown (fun k hk => Nat.le_trans hkr.size (own_base hown hk).1))
        clear hown hk1
        go_wp2_with fail
        refine (putUint_any w.heap.size _ l xs.length w1 HO.out (by omega) (by omega) hk1'.size).mono ?_
        rintro e w2 hp
        obtain ⟨A2, cap2, he, hown2, hk2⟩ := hp.b HO.out
        subst he
        obtain ⟨M2, hM2⟩ : ∃ M2, M2 = l ++ leb xs.length := ⟨_, rfl⟩
        rw [← hM2] at hown2 ⊢
        have hk2' : Kept Kno w w2 := kept_from hk1' hk2 (Nat.le_refl _)
        have HM2 := Lib.hid hM2
        have HO2 := Lib.hid hown2
        clear hp hown2 hM2 hk2
        go_wp2_with fail
        go_loopw [9, 40] (fun out i wr => Row2 l xs w out i wr) (fun _ i _ => xs.length - (intOf i).toNat)
        case atStart => exact ⟨0, A2, cap2, M2, Nat.zero_le _, rfl, rfl, HO2.out, by rw [HM2.out]; simp, hk2'⟩
        case round =>
          obtain ⟨k', A3, cap3, m, hk', rfl, rfl, hown3, hm, hkr3⟩ := hrel
          have HO3 := Lib.hid hown3
          have HM3 := Lib.hid hm
          have hml : m.length ≤ 1000000 + 11 + 80 * 12 := by
            rw [hm, List.length_append, List.length_append]
            have h1 := (leb_length xs.length).2
            have h2 := vencs_length (xs.take k') (valsOk_take xs k' HALL.out)
            have h3 : (xs.take k').length ≤ 12 := by rw [List.length_take]; omega
            omega
          clear hown3 hm
          by_cases hlt' : k' < xs.length
          · obtain ⟨A', cap', hv', -, -, hcell, hoks⟩ := HR.out.kept0 hkr3
            injection hv' with e1 e2 e3
            subst e1 e3
            obtain ⟨g, o, rfl, hc⟩ := hcell (by omega)
            obtain ⟨x, hx⟩ : ∃ x, xs[k']? = some x := ⟨xs[k'], List.getElem?_eq_getElem hlt'⟩
            obtain ⟨c0, c1, c2⟩ := hc k' x hx
            have hok := hoks x (List.mem_of_getElem? hx)
            have HX := Lib.hid hx
            have hvx : validB x.kind x.n x.s = true := by
              have := HALL.out
              unfold valsOk at this
              rw [List.all_eq_true] at this
              exact this x (List.mem_of_getElem? hx)
            have HVX := Lib.hid hvx
            have HOK := Lib.hid hok
            obtain ⟨kind, n, s⟩ := x
            simp only at c0 c1 c2
            have hk0 : (0 : Int) ≤ (k' : Int) := by omega
            have hk99 : (k' : Int) < (xs.length : Int) := by omega
            clear hcell hoks hc hx e2 hok hvx
            go_wp2_with fail
            have hkA : Kept Kno wr (wr.alloc (.cells #[.int .i64 kind, .int .i64 n, .string s] 49)) := (Kept.refl _ _).alloc _
            generalize (wr.alloc (.cells #[.int .i64 kind, .int .i64 n, .string s] 49)) = wA at hkA ⊢
            clear c0 c1 c2
            have hkwA : Kept Kno w wA := hkr3.then0 hkA
            refine (putValue_any w.heap.size _ m ⟨kind, n, s⟩ wA (own_kept HO3.out hkA (fun _ _ h => h)) HVX.out HOK.out.1 HOK.out.2.1 (by omega) hkwA.size).mono ?_
            rintro e w5 ⟨A5, cap5, rfl, hown5, hk5⟩
            obtain ⟨M5, hM5⟩ : ∃ M5, M5 = m ++ venc ⟨kind, n, s⟩ := ⟨_, rfl⟩
            rw [← hM5] at hown5 ⊢
            have hk5' : Kept Kno w w5 := kept_from hkwA hk5 (Nat.le_refl _)
            have HO5 := Lib.hid hown5
            have HM5 := Lib.hid hM5
            clear hown5 hM5 hk5
            go_wp2
            go_roundw
            case rel =>
              refine ⟨k' + 1, A5, cap5, M5, by omega, by go_num, rfl, HO5.out, ?_, hk5'⟩
              rw [HM5.out, HM3.out, List.take_add_one, HX.out]
              simp
            case measure => simp [intOf]; omega
          · have hk99 : ¬ (k' : Int) < (xs.length : Int) := by omega
            have hx : RetE (rowRes l xs) w (.returned (.tuple #[.slice A3 m.length cap3, .int .i64 0])) wr := by
              have e0 : rowRes l xs = (l ++ renc xs, 0) := by unfold rowRes; rw [if_neg H12.out, if_pos HALL.out]
              rw [e0]
              have e : m = l ++ renc xs := by rw [HM3.out, List.take_of_length_le (by omega)]; rfl
              have h9 := HO3.out
              rw [e] at h9 ⊢
              exact ⟨A3, cap3, rfl, h9, hkr3⟩
            have HXX := Lib.hid hx
            clear hx
            go_wp2
            go_ret2
            exact HXX.out

end Go.Proofs.YtffdaohmalmkfaaGreat
/-
  Codec: begun.
-/
namespace Go.Proofs.YtffdaohmalmkfaaGreat
open Go.RowKit
set_option linter.unusedVariables false

theorem bs_lit (w : World) (l : List UInt8) (fr : Nat × Nat) (t : TypeId) : Bs (w.alloc (.cells (l.map bv).toArray t fr)) (.slice (some ⟨w.heap.size, 0, none⟩) l.length l.length) l := by
  refine ⟨_, _, rfl, by simp, by simp, (fun h => by cases h), fun ad hA j u hj => ?_⟩
  cases hA
  rw [add_lit0, Nat.zero_add, cell_of_row _ w.heap.size j (l.map bv).toArray t fr (heap_alloc_new w _)]
  simpa using hj
theorem bs_nil (w : World) : Bs w (.slice none 0 0) [] := ⟨none, 0, rfl, Nat.le_refl _, rfl, fun _ => ⟨rfl, rfl⟩, fun ad h => by cases h⟩

def row0 : List Val := [⟨3, 1, ⟨#[]⟩⟩, ⟨5, 0, ⟨#[97]⟩⟩]
theorem row0_in (w : World) : RowIn (w.alloc (.cells #[.int .i64 3, .int .i64 1, .string ⟨#[]⟩, .int .i64 5, .int .i64 0, .string ⟨#[97]⟩] 49)) (.slice (some ⟨w.heap.size, 0, none⟩) 2 2) row0 := by
  have hb := Blk.new w 49 #[.int .i64 3, .int .i64 1, .string ⟨#[]⟩, .int .i64 5, .int .i64 0, .string ⟨#[97]⟩]
  refine ⟨_, 2, rfl, by decide, by decide, fun _ => ⟨w.heap.size, 0, rfl, fun i x hx => ?_⟩, ?_⟩
  · rcases i with _ | _ | i
    · simp [row0] at hx; subst hx; exact ⟨hb.cell 0, hb.cell 1, hb.cell 2⟩
    · simp [row0] at hx; subst hx; exact ⟨hb.cell 3, hb.cell 4, hb.cell 5⟩
    · simp [row0] at hx
  · intro x hx
    simp only [row0, List.mem_cons, List.not_mem_nil, or_false] at hx
    rcases hx with rfl | rfl
    · exact ⟨by decide, by decide, by decide⟩
    · exact ⟨by decide, by decide, by decide⟩
theorem row0_res : rowRes [] row0 = ([2, 3, 1, 5, 1, 97], 0) := by kernel_rfl
theorem uint0_res : uintRes [128, 0] 0 = (0, 0, 21) := by decide
theorem leb300 : leb 300 = [172, 2] := by decide
theorem leb_m1 : leb (zz (-1)) = [1] := by decide

end Go.Proofs.YtffdaohmalmkfaaGreat
/-
  Codec: AppendValue.
-/
namespace Go.Proofs.YtffdaohmalmkfaaGreat
open Go.RowKit
set_option linter.unusedVariables false

/-- What AppendValue returns. -/
def valRes (l : List UInt8) (x : Val) : List UInt8 × Int :=
  if validB x.kind x.n x.s then (l ++ venc x, 0) else ([], 10)

theorem appendValue_key (v : Value) (l : List UInt8) (kind n : Int) (s : ByteArray) (M : List UInt8) (w : World) (h : Bs w v l) (hl : l.length ≤ 1000000) (hval : validB kind n s = true) (hM : M = l ++ venc ⟨kind, n, s⟩) (h1 : -9223372036854775808 ≤ n) (h2 : n ≤ 9223372036854775807) (hss : s.size ≤ 64) :
    ∀ w1, Kept Kno w w1 → Calls Tryz.prog 148 #[v, .int .i64 (IntKind.i64.wrap (11 + (s.size : Int)))] w1 (RetB l w1) := by
  intro w1 hk1
  have e11 : IntKind.i64.wrap ((11 : Int) + (s.size : Int)) = ((11 + s.size : Nat) : Int) := by rw [IntKind.wrap_i64]; omega
  rw [e11]
  exact grown_any _ l (11 + s.size) w1 (h.kept0 hk1) (by omega)

set_option maxHeartbeats 2000000 in
theorem appendValue_any (v : Value) (l : List UInt8) (x : Val) (w : World) (h : Bs w v l) (hx : okVal x) (hl : l.length ≤ 1000000) :
    Calls Tryz.prog 279 #[v, x.v] w (RetE (valRes l x) w) := by
  have H := Lib.hid h
  obtain ⟨Av, capv, rfl, -⟩ := h
  obtain ⟨kind, n, s⟩ := x
  obtain ⟨h1, h2, h3⟩ := hx
  simp only at h1 h2 h3
  simp only [Val.v]
  go_enter Tryz.func279, Tryz.ntmps279
  go_wp2_with fail
  have hkA : Kept Kno w (w.alloc (.cells #[.int .i64 kind, .int .i64 n, .string s] 49)) := (Kept.refl _ _).alloc _
  have HQ := Lib.hid (Blk.new w 49 #[.int .i64 kind, .int .i64 n, .string s])
  generalize (w.alloc (.cells #[.int .i64 kind, .int .i64 n, .string s] 49)) = wA at hkA HQ ⊢
  refine (valid_any kind n s wA).mono ?_
  rintro e w1 ⟨rfl, hk1⟩
  have hkw : Kept Kno w w1 := hkA.then0 hk1
  have d0 : w1.cell? ⟨w.heap.size, 0, none⟩ = some (.int .i64 kind) := hk1.cell_some (HQ.out.cell 0) (fun h => h)
  have d1 : w1.cell? ⟨w.heap.size, 1, none⟩ = some (.int .i64 n) := hk1.cell_some (HQ.out.cell 1) (fun h => h)
  have d2 : w1.cell? ⟨w.heap.size, 2, none⟩ = some (.string s) := hk1.cell_some (HQ.out.cell 2) (fun h => h)
  have HLT : Hid (w.heap.size < w1.heap.size) := Lib.hid (Nat.lt_of_lt_of_le HQ.out.lt hk1.size)
  clear hkA hk1 HQ
  cases hval : validB kind n s with
  | false =>
    have hx : RetE (valRes l ⟨kind, n, s⟩) w (.returned (.tuple #[.slice none 0 0, .int .i64 10])) w1 := by
      have e : valRes l ⟨kind, n, s⟩ = ([], 10) := by unfold valRes; simp only [hval]; rfl
      rw [e]
      exact ⟨none, 0, rfl, World.ownsRow_nil _ _ _ _, hkw⟩
    have HXX := Lib.hid hx
    clear hx hval
    go_wp2
    go_ret2
    exact HXX.out
  | true =>
    have hsz := valid_size ⟨kind, n, s⟩ hval
    simp only at hsz
    have e : valRes l ⟨kind, n, s⟩ = (l ++ venc ⟨kind, n, s⟩, 0) := by unfold valRes; simp only [hval]; rfl
    obtain ⟨M, hM⟩ : ∃ M, M = l ++ venc ⟨kind, n, s⟩ := ⟨_, rfl⟩
    rw [← hM] at e
    have E := Lib.hid e
    have HG := Lib.hid (appendValue_key _ l kind n s M w H.out hl hval hM h1 h2 hsz)
    have hB : w.heap.size < w1.heap.size := HLT.out
    have HP : Hid (∀ (b : Value) (wb : World), OwnB wb w1.heap.size 5 b l → w1.heap.size ≤ wb.heap.size → Calls Tryz.prog 298 #[b, .agg #[.int .i64 kind, .int .i64 n, .string s]] wb (PutB w1.heap.size M wb)) := Lib.hid (by
      intro b wb hb hs
      rw [hM]
      exact putValue_any w1.heap.size b l ⟨kind, n, s⟩ wb hb hval h1 h2 (by omega) hs)
    clear e hM hval
    go_upto_region 3 with (fail)
    clear h1 h2 h3 hl hsz
    go_region_held3 (fun w' => w'.cell? ⟨w.heap.size, 0, none⟩ = some (.int .i64 kind) ∧ w'.cell? ⟨w.heap.size, 1, none⟩ = some (.int .i64 n) ∧ w'.cell? ⟨w.heap.size, 2, none⟩ = some (.string s)) (first | (exact ⟨r0, r1, r2⟩) | (exact ⟨q0, q1, q2⟩) | (exact ⟨d0, d1, d2⟩) | go_keep)
      (first | (go_at_call 148; refine (HG.out _ (hkw.drew)).mono ?_; rintro e w2 ⟨A2, cap2, rfl, hown, hk'⟩; have hk2 : Kept Kno w1 w2 := ((Kept.refl _ w1).drew).then0 hk'; have HO : Hid (OwnB w2 w1.heap.size 5 (.slice A2 l.length cap2) l) := Lib.hid hown; have q0 := hk'.cell_some d0 (fun h => h); have q1 := hk'.cell_some d1 (fun h => h); have q2 := hk'.cell_some d2 (fun h => h); clear hk' hown)
             | (go_at_call 298; refine (HP.out _ _ HO.out hk2.size).mono ?_; rintro e w3 ⟨A3, cap3, rfl, hown3, hk3⟩; have HO3 := Lib.hid hown3; have r0 := hk3.cell_some q0 (fun h => by simp only [From] at h; omega); have r1 := hk3.cell_some q1 (fun h => by simp only [From] at h; omega); have r2 := hk3.cell_some q2 (fun h => by simp only [From] at h; omega); clear hown3))
    go_wp2
    go_ret2
    rw [E.out]
    exact ⟨_, _, rfl, own_rebase HO3.out (fun k hk => by have := (own_base HO3.out hk).1; omega), hkw.then0 (kept_from hk2 hk3 (Nat.le_refl _))⟩

end Go.Proofs.YtffdaohmalmkfaaGreat
