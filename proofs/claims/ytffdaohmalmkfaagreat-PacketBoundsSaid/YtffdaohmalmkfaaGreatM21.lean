/-
  Contracts and plain laws that the claim's theorem rests on, some texts in one file.
-/
import Derived.Test.YtffdaohmalmkfaaGreatM20
/-
  Codec: the reference's AppendValue and AppendRow; Size, RowSize. (Printed by gen_refrow.py.)
-/
namespace Go.Proofs.YtffdaohmalmkfaaGreat
open Go.RowKit
set_option linter.unusedVariables false

set_option maxHeartbeats 2000000 in
theorem refAppendValue_any (v : Value) (l : List UInt8) (x : Val) (w : World) (h : Bs w v l) (hx : okVal x) (hl : l.length ≤ 1000000) :
    Calls Tryz.prog 301 #[v, x.v] w (RetE (valRes l x) w) := by
  have H := Lib.hid h
  obtain ⟨Av, capv, rfl, -⟩ := h
  obtain ⟨kind, n, s⟩ := x
  obtain ⟨h1, h2, h3⟩ := hx
  simp only at h1 h2 h3
  simp only [Val.v]
  go_enter Tryz.func301, Tryz.ntmps301
  go_wp2_with fail
  have hkA : Kept Kno w (w.alloc (.cells #[.int .i64 kind, .int .i64 n, .string s] 49)) := (Kept.refl _ _).alloc _
  have HQ := Lib.hid (Blk.new w 49 #[.int .i64 kind, .int .i64 n, .string s])
  generalize (w.alloc (.cells #[.int .i64 kind, .int .i64 n, .string s] 49)) = wA at hkA HQ ⊢
  refine (refValid_any kind n s wA).mono ?_
  rintro e w1 ⟨rfl, hk1⟩
  have hkw : Kept Kno w w1 := hkA.then0 hk1
  have d0 : w1.cell? ⟨w.heap.size, 0, none⟩ = some (.int .i64 kind) := hk1.cell_some (HQ.out.cell 0) (fun h => h)
  have d1 : w1.cell? ⟨w.heap.size, 1, none⟩ = some (.int .i64 n) := hk1.cell_some (HQ.out.cell 1) (fun h => h)
  have d2 : w1.cell? ⟨w.heap.size, 2, none⟩ = some (.string s) := hk1.cell_some (HQ.out.cell 2) (fun h => h)
  have HLT : Hid (w.heap.size < w1.heap.size) := Lib.hid (Nat.lt_of_lt_of_le HQ.out.lt hk1.size)
  clear hkA hk1 HQ
  cases hval : validB kind n s with
  | false =>
    have hx : RetE (valRes l ⟨kind, n, s⟩) w (.returned (.tuple #[.slice none 0 0, .int .i64 10])) w1 := by
      have e : valRes l ⟨kind, n, s⟩ = ([], 10) := by unfold valRes; simp only [hval]; rfl
      rw [e]
      exact ⟨none, 0, rfl, World.ownsRow_nil _ _ _ _, hkw⟩
    have HXX := Lib.hid hx
    clear hx hval
    go_wp2
    go_ret2
    exact HXX.out
  | true =>
    have hsz := valid_size ⟨kind, n, s⟩ hval
    simp only at hsz
    have e : valRes l ⟨kind, n, s⟩ = (l ++ venc ⟨kind, n, s⟩, 0) := by unfold valRes; simp only [hval]; rfl
    obtain ⟨M, hM⟩ : ∃ M, M = l ++ venc ⟨kind, n, s⟩ := ⟨_, rfl⟩
    rw [← hM] at e
    have E := Lib.hid e
    have HG : Hid (∀ w1, Kept Kno w w1 → Calls Tryz.prog 250 #[.slice Av l.length capv] w1 (RetB l w1)) := Lib.hid (fun w1 hk1 => fresh_any _ l w1 (H.out.kept0 hk1) (by omega))
    have hB : w.heap.size < w1.heap.size := HLT.out
    have HP : Hid (∀ (b : Value) (wb : World), OwnB wb w1.heap.size 5 b l → w1.heap.size ≤ wb.heap.size → Calls Tryz.prog 251 #[b, .agg #[.int .i64 kind, .int .i64 n, .string s]] wb (PutB w1.heap.size M wb)) := Lib.hid (by
      intro b wb hb hs
      rw [hM]
      exact refValue_any w1.heap.size b l ⟨kind, n, s⟩ wb hb hval h1 h2 (by omega) hs)
    clear e hM hval
    go_upto_region 3 with (fail)
    clear h1 h2 h3 hl hsz
    go_region_held3 (fun w' => w'.cell? ⟨w.heap.size, 0, none⟩ = some (.int .i64 kind) ∧ w'.cell? ⟨w.heap.size, 1, none⟩ = some (.int .i64 n) ∧ w'.cell? ⟨w.heap.size, 2, none⟩ = some (.string s)) (first | (exact ⟨r0, r1, r2⟩) | (exact ⟨q0, q1, q2⟩) | (exact ⟨d0, d1, d2⟩) | go_keep)
      (first | (go_at_call 250; refine (HG.out _ (hkw.drew)).mono ?_; rintro e w2 ⟨A2, cap2, rfl, hown, hk'⟩; have hk2 : Kept Kno w1 w2 := ((Kept.refl _ w1).drew).then0 hk'; have HO : Hid (OwnB w2 w1.heap.size 5 (.slice A2 l.length cap2) l) := Lib.hid hown; have q0 := hk'.cell_some d0 (fun h => h); have q1 := hk'.cell_some d1 (fun h => h); have q2 := hk'.cell_some d2 (fun h => h); clear hk' hown)
             | (go_at_call 251; refine (HP.out _ _ HO.out hk2.size).mono ?_; rintro e w3 ⟨A3, cap3, rfl, hown3, hk3⟩; have HO3 := Lib.hid hown3; have r0 := hk3.cell_some q0 (fun h => by simp only [From] at h; omega); have r1 := hk3.cell_some q1 (fun h => by simp only [From] at h; omega); have r2 := hk3.cell_some q2 (fun h => by simp only [From] at h; omega); clear hown3))
    go_wp2
    go_ret2
    rw [E.out]
    exact ⟨_, _, rfl, own_rebase HO3.out (fun k hk => by have := (own_base HO3.out hk).1; omega), hkw.then0 (kept_from hk2 hk3 (Nat.le_refl _))⟩

set_option maxHeartbeats 4000000 in
theorem refAppendRow_any (v u : Value) (l : List UInt8) (xs : List Val) (w : World) (h : Bs w v l) (hr : RowIn w u xs) (hl : l.length ≤ 1000000) :
    Calls Tryz.prog 201 #[v, u] w (RetE (rowRes l xs) w) := by
  have H := Lib.hid h
  have HR := Lib.hid hr
  obtain ⟨Av, capv, rfl, -⟩ := h
  obtain ⟨Ar, capr, rfl, hrc, hrm, -, -⟩ := hr
  have m4 : capr ≤ 9223372036854775807 := by simp only [maxLen] at hrm; omega
  clear hrm
  by_cases h12 : 12 < xs.length
  · have hx : RetE (rowRes l xs) w (.returned (.tuple #[.slice none 0 0, .int .i64 2])) w := by
      have e : rowRes l xs = ([], 2) := by unfold rowRes; rw [if_pos h12]
      rw [e]
      exact ⟨none, 0, rfl, World.ownsRow_nil _ _ _ _, Kept.refl _ _⟩
    have HXX := Lib.hid hx
    clear hx
    have h12' : (12 : Int) < (xs.length : Int) := by omega
    go_enter Tryz.func201, Tryz.ntmps201
    go_wp2
    go_ret2
    exact HXX.out
  · have H12 := Lib.hid h12
    have h12' : ¬ (12 : Int) < (xs.length : Int) := by omega
    go_enter Tryz.func201, Tryz.ntmps201
    go_wp2_with fail
    go_loopw [16] (fun i wr => Row1 xs w (.int .i64 0) i wr) (fun i _ => xs.length - (intOf i).toNat)
    case atStart => exact ⟨0, 0, Nat.zero_le _, rfl, rfl, by omega, rfl, Kept.refl _ _⟩
    case round =>
      obtain ⟨k, M, hk, rfl, -, -, hvo, hkr⟩ := hrel
      have HVO := Lib.hid hvo
      clear hvo
      by_cases hlt : k < xs.length
      · obtain ⟨A', cap', hv', -, -, hcell, hoks⟩ := HR.out.kept0 hkr
        injection hv' with e1 e2 e3
        subst e1 e3
        obtain ⟨g, o, rfl, hc⟩ := hcell (by omega)
        obtain ⟨x, hx⟩ : ∃ x, xs[k]? = some x := ⟨xs[k], List.getElem?_eq_getElem hlt⟩
        obtain ⟨c0, c1, c2⟩ := hc k x hx
        have hok := hoks x (List.mem_of_getElem? hx)
        have HX := Lib.hid hx
        obtain ⟨kind, n, s⟩ := x
        simp only at c0 c1 c2
        have hss : s.size ≤ 9223372036854775807 := by have := hok.2.2; simp only [maxLen] at this; exact this
        have hk0 : (0 : Int) ≤ (k : Int) := by omega
        have hk9 : (k : Int) < (xs.length : Int) := by omega
        clear hcell hoks hc hx e2 hok
        go_wp2_with fail
        have hkA : Kept Kno w (wr.alloc (.cells #[.int .i64 kind, .int .i64 n, .string s] 49)) := hkr.alloc _
        have HQ := Lib.hid (Blk.new wr 49 #[.int .i64 kind, .int .i64 n, .string s])
        generalize (wr.alloc (.cells #[.int .i64 kind, .int .i64 n, .string s] 49)) = wA at hkA HQ ⊢
        clear c0 c1 c2
        refine (refValid_any kind n s wA).mono ?_
        rintro e w1 ⟨rfl, hk1⟩
        have hkw : Kept Kno w w1 := hkA.then0 hk1
        have d2 : w1.cell? ⟨wr.heap.size, 2, none⟩ = some (.string s) := hk1.cell_some (HQ.out.cell 2) (fun h => h)
        cases hval : validB kind n s with
        | true =>
          have hsz := valid_size ⟨kind, n, s⟩ hval
          simp only at hsz
          have HV := Lib.hid hval
          clear hval
          go_wp2
          go_roundw
          case rel => exact ⟨k + 1, 0, by omega, by go_num, rfl, by omega, valsOk_next xs k _ HVO.out HX.out HV.out, hkw⟩
          case measure => simp [intOf]; omega
        | false =>
          have hno : valsOk xs = false := by
            unfold valsOk
            rw [List.all_eq_false]
            exact ⟨_, List.mem_of_getElem? HX.out, by simp [hval]⟩
          have hx : RetE (rowRes l xs) w (.returned (.tuple #[.slice none 0 0, .int .i64 10])) w1 := by
            have e : rowRes l xs = ([], 10) := by unfold rowRes; rw [if_neg H12.out, hno]; rfl
            rw [e]
            exact ⟨none, 0, rfl, World.ownsRow_nil _ _ _ _, hkw⟩
          have HXX := Lib.hid hx
          clear hx hno hval
          go_wp2
          go_ret2
          exact HXX.out
      · have hk9 : ¬ (k : Int) < (xs.length : Int) := by omega
        have hall : valsOk xs = true := by
          have := HVO.out
          rw [List.take_of_length_le (by omega)] at this
          exact this
        have HALL := Lib.hid hall
        clear hall
        go_wp2_with fail
        refine (fresh_any _ l wr (H.out.kept0 hkr) (by omega)).mono ?_
        rintro e w1 ⟨A1, cap1, rfl, hown, hk1⟩
        have hk1' : Kept Kno w w1 := hkr.then0 hk1
        have HO : Hid (OwnB w1 w.heap.size 5 (.slice A1 l.length cap1) l) := Lib.hid (own_rebase hown (fun k hk => Nat.le_trans hkr.size (own_base hown hk).1))
        clear hown hk1
        go_wp2_with fail
        refine (refUint_any w.heap.size _ l xs.length w1 HO.out (by omega) (by omega) hk1'.size).mono ?_
        rintro e w2 hp
        obtain ⟨A2, cap2, he, hown2, hk2⟩ := hp.b HO.out
        subst he
        obtain ⟨M2, hM2⟩ : ∃ M2, M2 = l ++ leb xs.length := ⟨_, rfl⟩
        rw [← hM2] at hown2 ⊢
        have hk2' : Kept Kno w w2 := kept_from hk1' hk2 (Nat.le_refl _)
        have HM2 := Lib.hid hM2
        have HO2 := Lib.hid hown2
        clear hp hown2 hM2 hk2
        go_wp2_with fail
        go_loopw [8, 32] (fun out i wr => Row2 l xs w out i wr) (fun _ i _ => xs.length - (intOf i).toNat)
        case atStart => exact ⟨0, A2, cap2, M2, Nat.zero_le _, rfl, rfl, HO2.out, by rw [HM2.out]; simp, hk2'⟩
        case round =>
          obtain ⟨k', A3, cap3, m, hk', rfl, rfl, hown3, hm, hkr3⟩ := hrel
          have HO3 := Lib.hid hown3
          have HM3 := Lib.hid hm
          have hml : m.length ≤ 1000000 + 11 + 80 * 12 := by
            rw [hm, List.length_append, List.length_append]
            have h1 := (leb_length xs.length).2
            have h2 := vencs_length (xs.take k') (valsOk_take xs k' HALL.out)
            have h3 : (xs.take k').length ≤ 12 := by rw [List.length_take]; omega
            omega
          clear hown3 hm
          by_cases hlt' : k' < xs.length
          · obtain ⟨A', cap', hv', -, -, hcell, hoks⟩ := HR.out.kept0 hkr3
            injection hv' with e1 e2 e3
            subst e1 e3
            obtain ⟨g, o, rfl, hc⟩ := hcell (by omega)
            obtain ⟨x, hx⟩ : ∃ x, xs[k']? = some x := ⟨xs[k'], List.getElem?_eq_getElem hlt'⟩
            obtain ⟨c0, c1, c2⟩ := hc k' x hx
            have hok := hoks x (List.mem_of_getElem? hx)
            have HX := Lib.hid hx
            have hvx : validB x.kind x.n x.s = true := by
              have := HALL.out
              unfold valsOk at this
              rw [List.all_eq_true] at this
              exact this x (List.mem_of_getElem? hx)
            have HVX := Lib.hid hvx
            have HOK := Lib.hid hok
            obtain ⟨kind, n, s⟩ := x
            simp only at c0 c1 c2
            have hk0 : (0 : Int) ≤ (k' : Int) := by omega
            have hk99 : (k' : Int) < (xs.length : Int) := by omega
            clear hcell hoks hc hx e2 hok hvx
            go_wp2_with fail
            have hkA : Kept Kno wr (wr.alloc (.cells #[.int .i64 kind, .int .i64 n, .string s] 49)) := (Kept.refl _ _).alloc _
            generalize (wr.alloc (.cells #[.int .i64 kind, .int .i64 n, .string s] 49)) = wA at hkA ⊢
            clear c0 c1 c2
            have hkwA : Kept Kno w wA := hkr3.then0 hkA
            refine (refValue_any w.heap.size _ m ⟨kind, n, s⟩ wA (own_kept HO3.out hkA (fun _ _ h => h)) HVX.out HOK.out.1 HOK.out.2.1 (by omega) hkwA.size).mono ?_
            rintro e w5 ⟨A5, cap5, rfl, hown5, hk5⟩
            obtain ⟨M5, hM5⟩ : ∃ M5, M5 = m ++ venc ⟨kind, n, s⟩ := ⟨_, rfl⟩
            rw [← hM5] at hown5 ⊢
            have hk5' : Kept Kno w w5 := kept_from hkwA hk5 (Nat.le_refl _)
            have HO5 := Lib.hid hown5
            have HM5 := Lib.hid hM5
            clear hown5 hM5 hk5
            go_wp2
            go_roundw
            case rel =>
              refine ⟨k' + 1, A5, cap5, M5, by omega, by go_num, rfl, HO5.out, ?_, hk5'⟩
              rw [HM5.out, HM3.out, List.take_add_one, HX.out]
              simp
            case measure => simp [intOf]; omega
          · have hk99 : ¬ (k' : Int) < (xs.length : Int) := by omega
            have hx : RetE (rowRes l xs) w (.returned (.tuple #[.slice A3 m.length cap3, .int .i64 0])) wr := by
              have e0 : rowRes l xs = (l ++ renc xs, 0) := by unfold rowRes; rw [if_neg H12.out, if_pos HALL.out]
              rw [e0]
              have e : m = l ++ renc xs := by rw [HM3.out, List.take_of_length_le (by omega)]; rfl
              have h9 := HO3.out
              rw [e] at h9 ⊢
              exact ⟨A3, cap3, rfl, h9, hkr3⟩
            have HXX := Lib.hid hx
            clear hx
            go_wp2
            go_ret2
            exact HXX.out


end Go.Proofs.YtffdaohmalmkfaaGreat
