/-
  Journal: cut, told by its own slices.
-/
import Derived.Test.YteoodgcpkgfomaaM11
namespace Go.Proofs.Yteoodgcpkgfomaa
open Go.RowKit
set_option linter.unusedVariables false

def cutS : Value → Nat → Value
  | .slice A _ c, m => .slice A m c
  | v, _ => v
def zipV (us : List Value) (rs : List (List UInt8)) : List Value := List.zipWith (fun v (b : List UInt8) => cutS v (min b.length 300)) us rs
theorem take_snocw {α : Type} {R : List α} {k : Nat} {b : α} (h : R[k]? = some b) : R.take (k + 1) = R.take k ++ [b] := by
  rw [List.take_add_one, h]; rfl
theorem zip_eight (us : List Value) (rs : List (List UInt8)) (hl : us.length = rs.length) {m : Nat} (hm : m = min rs.length 8) : (zipV us rs).take 8 = (zipV us rs).take m := by
  subst hm
  have h1 : (zipV us rs).length = rs.length := by simp [zipV, hl]
  rcases Nat.le_total rs.length 8 with h | h
  · rw [Nat.min_eq_left h, List.take_of_length_le (by omega), List.take_of_length_le (by omega)]
  · rw [Nat.min_eq_right h]
theorem zip_lsr2 {w w1 : World} {rv : Value} {us : List Value} {rs : List (List UInt8)} {A : Option Addr} {c : Nat} (h : LsR w rv us rs) (hr : Rd w1 1 (.slice A (cutR rs).length c) (cutR rs).length ((zipV us rs).take 8)) (hk1 : Kept Kno w w1) : LsR w1 (.slice A (cutR rs).length c) ((zipV us rs).take 8) (cutR rs) := by
  refine ⟨hr, fun i x b hx hb => ?_⟩
  have hl := h.len
  rw [List.getElem?_take] at hx
  split at hx
  · rename_i hi
    unfold zipV at hx
    rw [List.getElem?_zipWith] at hx
    unfold cutR at hb
    rw [List.getElem?_map, List.getElem?_take, if_pos hi] at hb
    cases hu : us[i]? with
    | none => rw [hu] at hx; cases hx
    | some u =>
      cases hr : rs[i]? with
      | none => rw [hr] at hb; cases hb
      | some r =>
        rw [hu, hr] at hx
        rw [hr] at hb
        simp only [Option.map_some, Option.some.injEq] at hx hb
        subst hx hb
        have hbs := h.2 i u r hu hr
        obtain ⟨A', c', hv, -⟩ := id hbs
        subst hv
        have h2 := Bs.cut (Rd.kept0 hbs hk1) (Nat.min_le_left r.length 300)
        rw [take_min] at h2
        exact h2
  · cases hx

def CutRel2 (vin : List Value) (rs : List (List UInt8)) (w : World) (c0 c1 c2 c3 c4 : Value) (m : Nat) (l i : Value) (wr : World) : Prop :=
  ∃ (k : Nat) (A : Option Addr) (cap : Nat) (us : List Value), k ≤ m ∧ i = .int .i64 (k : Nat) ∧ l = .slice A k cap ∧ wr.ownsRow (w.heap.size + 2) 30 1 (.slice A k cap) k us ∧
    us = (zipV vin rs).take k ∧
    Blk wr w.heap.size 47 #[c0, c1, c2, c3, c4] ∧ Blk wr (w.heap.size + 1) 47 #[.int .i64 0, .int .i64 0, .slice none 0 0, .slice none 0 0, .slice none 0 0] ∧ Kept Kno w wr

/-- What cut returns: the same slices, shortened, the records in a row of their own. -/
def CutOk2 (kk n : Int) (Ab : Option Addr) (cb : Nat) (l : List UInt8) (vin : List Value) (rs : List (List UInt8)) (keep : Value) (w : World) (e : Ending) (w' : World) : Prop :=
  ∃ A2 c2, e = .returned (.agg #[.int .i64 kk, .int .i64 n, .slice Ab (min l.length 300) cb, .slice A2 (cutR rs).length c2, keep]) ∧
    w'.ownsRow w.heap.size 30 1 (.slice A2 (cutR rs).length c2) (cutR rs).length ((zipV vin rs).take 8) ∧ Kept Kno w w'

set_option maxRecDepth 100000 in
set_option maxHeartbeats 4000000 in
theorem cut_any2 (kk n : Int) (Ab : Option Addr) (cb : Nat) (rv : Value) (l : List UInt8) (us : List Value) (rs : List (List UInt8)) (Ak : Option Addr) (nk ck : Nat) (w : World) (hb : Bs w (.slice Ab l.length cb) l) (hr : LsR w rv us rs) (hll : l.length ≤ maxLen) (hrl : rs.length ≤ maxLen) (hrm : ∀ b ∈ rs, b.length ≤ maxLen) :
    Calls Try.prog 25 #[.agg #[.int .i64 kk, .int .i64 n, .slice Ab l.length cb, rv, .slice Ak nk ck]] w (CutOk2 kk n Ab cb l us rs (.slice Ak nk ck) w) := by
  obtain ⟨j0, hj0, hy0, hy1, hy2⟩ := info_parts info_recs
  have HB := Lib.hid hb
  have HR := Lib.hid hr
  have HM := Lib.hid hrm
  have hlc : l.length ≤ cb := by obtain ⟨A', c', e, h9, -⟩ := hb; injection e with _ _ e; omega
  clear hb
  obtain ⟨Ar, cr, rfl, hrc⟩ := hr.form
  have hmin : (if (300 : Int) < (l.length : Int) then (300 : Int) else (l.length : Int)) = ((min l.length 300 : Nat) : Int) := min_natw l.length 300
  have q1 : min l.length 300 ≤ l.length := Nat.min_le_left _ _
  have hcut := Bs.cut HB.out q1
  rw [take_min] at hcut
  have HC := Lib.hid hcut
  have HMM : Hid (min l.length 300 = min l.length 300) := Lib.hid rfl
  generalize hm1 : min l.length 300 = m1 at hmin q1 HC
  have HM1 := Lib.hid hm1
  clear hm1 HMM
  have hmin2 : (if (8 : Int) < (rs.length : Int) then (8 : Int) else (rs.length : Int)) = ((min rs.length 8 : Nat) : Int) := min_natw rs.length 8
  have q2 : min rs.length 8 ≤ rs.length := Nat.min_le_left _ _
  have q2' : min rs.length 8 ≤ 8 := Nat.min_le_right _ _
  have hm8 : rs.take (min rs.length 8) = rs.take 8 := take_min rs 8
  have HM8 := Lib.hid hm8
  generalize hm2 : min rs.length 8 = m2 at hmin2 q2 q2' HM8
  have HM8b := Lib.hid hm2.symm
  clear hm2
  have q3 : m1 ≤ cb := by omega
  have q4 : (m1 : Int) ≤ (cb : Int) := by omega
  have q5 : (0 : Int) ≤ (m1 : Int) := by omega
  have q6 : m2 ≤ cr := by omega
  have q7 : (m2 : Int) ≤ (cr : Int) := by omega
  have q8 : (0 : Int) ≤ (m2 : Int) := by omega
  have n60 : l.length ≤ 9223372036854775807 := by simp only [maxLen] at hll; omega
  have n61 : rs.length ≤ 9223372036854775807 := by simp only [maxLen] at hrl; omega
  clear hr hrm hcut hm8 hll hrl
  go_enter Try.func25, Try.ntmps25
  go_wp2_with fail
  have hk1 : Kept Kno w (((w.alloc (.cells #[.int .i64 kk, .int .i64 n, .slice Ab m1 cb, .slice Ar rs.length cr, .slice Ak nk ck] 47)).alloc (.cells #[.int .i64 0, .int .i64 0, .slice none 0 0, .slice none 0 0, .slice none 0 0] 47)).alloc (.cells #[] 30)) := (((Kept.refl Kno w).alloc _).alloc _).alloc _
  have hb0 := ((Blk.new w 47 #[.int .i64 kk, .int .i64 n, .slice Ab m1 cb, .slice Ar rs.length cr, .slice Ak nk ck]).alloc (.cells #[.int .i64 0, .int .i64 0, .slice none 0 0, .slice none 0 0, .slice none 0 0] 47)).alloc (.cells #[] 30)
  have hb1 := (Blk.new (w.alloc (.cells #[.int .i64 kk, .int .i64 n, .slice Ab m1 cb, .slice Ar rs.length cr, .slice Ak nk ck] 47)) 47 #[.int .i64 0, .int .i64 0, .slice none 0 0, .slice none 0 0, .slice none 0 0]).alloc (.cells #[] 30)
  have hM0 := World.ownsRow_made (base := w.heap.size + 2) (e := 30) (size := 1) ((w.alloc (.cells #[.int .i64 kk, .int .i64 n, .slice Ab m1 cb, .slice Ar rs.length cr, .slice Ak nk ck] 47)).alloc (.cells #[.int .i64 0, .int .i64 0, .slice none 0 0, .slice none 0 0, .slice none 0 0] 47)) #[] 0 (by simp) (by decide) rfl
  simp only [World.size_alloc] at hb1 hM0
  generalize (((w.alloc (.cells #[.int .i64 kk, .int .i64 n, .slice Ab m1 cb, .slice Ar rs.length cr, .slice Ak nk ck] 47)).alloc (.cells #[.int .i64 0, .int .i64 0, .slice none 0 0, .slice none 0 0, .slice none 0 0] 47)).alloc (.cells #[] 30)) = W1 at hk1 hb0 hb1 hM0 ⊢
  have HK1 := Lib.hid hk1
  have HB0 := Lib.hid hb0
  have HB1 := Lib.hid hb1
  have HM0 := Lib.hid hM0
  clear hk1 hb0 hb1 hM0
  go_loopw [3, 23] (fun l i wr => CutRel2 us rs w (.int .i64 kk) (.int .i64 n) (.slice Ab m1 cb) (.slice Ar rs.length cr) (.slice Ak nk ck) m2 l i wr) (fun _ i _ => m2 - (intOf i).toNat)
  case atStart => exact ⟨0, _, 0, [], by omega, rfl, rfl, HM0.out, by simp, HB0.out, HB1.out, HK1.out⟩
  case round =>
    obtain ⟨k, A, cap, vs, hk, rfl, rfl, hown, hel, hc0, hc1, hkk⟩ := hrel
    have HOWN := Lib.hid hown
    have HEL := Lib.hid hel
    have HC0 := Lib.hid hc0
    have HC1 := Lib.hid hc1
    have HKK := Lib.hid hkk
    have hsz : w.heap.size + 2 ≤ wr.heap.size := by have := hc1.lt; omega
    clear hown hel
    by_cases hlt : k < m2
    · have hR := HR.out.kept0 hkk
      obtain ⟨g, o, c2, x, hv, hx, hcell⟩ := hR.at (i := k) (by omega)
      injection hv with e1 e2 e3
      subst e1 e3
      have hbk : rs[k]? = some (rs[k]'(by omega)) := List.getElem?_eq_getElem (by omega)
      have hml := HM.out (rs[k]'(by omega)) (List.getElem_mem _)
      generalize (rs[k]'(by omega)) = b at hbk hml
      have hbs := HR.out.2 k x b hx hbk
      have HBS := Lib.hid hbs
      have HX := Lib.hid hx
      obtain ⟨Ax, cx, rfl, hcx, -⟩ := hbs
      have HBK := Lib.hid hbk
      have hmin3 : (if (300 : Int) < (b.length : Int) then (300 : Int) else (b.length : Int)) = ((min b.length 300 : Nat) : Int) := min_natw b.length 300
      have p1 : min b.length 300 ≤ b.length := Nat.min_le_left _ _
      have hcut := Bs.cut HBS.out p1
      rw [take_min] at hcut
      have HCB := Lib.hid hcut
      have HZV : Hid ((zipV us rs)[k]? = some (.slice Ax (min b.length 300) cx)) := Lib.hid (by unfold zipV; rw [List.getElem?_zipWith, HX.out, HBK.out]; rfl)
      generalize min b.length 300 = m3 at hmin3 p1 HCB HZV
      have p3 : m3 ≤ cx := by omega
      have p4 : (m3 : Int) ≤ (cx : Int) := by omega
      have p5 : (0 : Int) ≤ (m3 : Int) := by omega
      have n62 : b.length ≤ 9223372036854775807 := by simp only [maxLen] at hml; omega
      have hk0 : (0 : Int) ≤ (k : Int) := by omega
      have hk1 : (k : Int) < (m2 : Int) := by omega
      have mm : k + 1 ≤ maxLen := by simp only [maxLen]; omega
      clear hR hx hbk hkk e2 hml hcut hc0 hc1
      go_wp2_with (at_builtin; (refine wpList_append_rd _ rfl _ _ 45 rfl (w.heap.size + 2) 30 j0 _ 1 24 Try.underlying45 hj0 hy0 hy1 hy2 rfl (by decide) (.slice A k cap) k vs rfl (World.ownsRow.alloc HOWN.out _) _ 1 [.slice Ax m3 cx] rfl (Rd.one _ _ _ rfl) (by simp [Value.oneCell']) mm (by omega) (by simp; omega) ?_); intro A3 cap3 w3 hown3 hg3 hat3)
      go_roundw
      case rel =>
        have hkA : Kept Kno wr (wr.alloc (.cells #[.slice Ax m3 cx] 30)) := (Kept.refl _ _).alloc _
        have hk3 : Kept (Kown (.slice A k cap)) wr w3 := (hkA.mono (T := Kown (.slice A k cap)) (fun _ _ h => h.elim)).grown hg3 (fun q _ e => e)
        have hno : ∀ q, Kown (.slice A k cap) q → w.heap.size + 2 ≤ q := fun q e => (own_base HOWN.out e).1
        have hvl : vs.length = k := by have := HOWN.out.1; omega
        refine ⟨k + 1, A3, cap3, vs ++ [.slice Ax m3 cx], by omega, by go_num, rfl, hown3, by rw [take_snocw HZV.out, HEL.out], HC0.out.kept hk3 (fun e => by have := hno _ e; omega), HC1.out.kept hk3 (fun e => by have := hno _ e; omega), HKK.out.trans hk3 (fun q hq e => by have := hno q e; omega)⟩
      case measure => simp [intOf]; omega
    · have hk1 : ¬ (k : Int) < (m2 : Int) := by omega
      obtain rfl : k = m2 := by omega
      have d0 := hc0.cell 0
      have d1 := hc0.cell 1
      have d2 := hc0.cell 2
      have d3 := hc0.cell 3
      have d4 := hc0.cell 4
      have g3 := hc0.frozen 3
      have e0 := hc1.cell 0
      have e1 := hc1.cell 1
      have e2 := hc1.cell 2
      have e3 := hc1.cell 3
      have e4 := hc1.cell 4
      have h0 := hc1.frozen 0
      have h1 := hc1.frozen 1
      have h2 := hc1.frozen 2
      have h3 := hc1.frozen 3
      have h4 := hc1.frozen 4
      simp only [List.getElem?_toArray, List.getElem?_cons_zero, List.getElem?_cons_succ] at d0 d1 d2 d3 d4 e0 e1 e2 e3 e4
      clear hc0 hc1 hkk
      go_wp2
      have hfin : Blk ((((((wr.setCell ⟨w.heap.size, 3, none⟩ (.slice A k cap)).setCell ⟨w.heap.size + 1, 0, none⟩ (.int .i64 kk)).setCell ⟨w.heap.size + 1, 1, none⟩ (.int .i64 n)).setCell ⟨w.heap.size + 1, 2, none⟩ (.slice Ab m1 cb)).setCell ⟨w.heap.size + 1, 3, none⟩ (.slice A k cap)).setCell ⟨w.heap.size + 1, 4, none⟩ (.slice Ak nk ck)) (w.heap.size + 1) 47 #[.int .i64 kk, .int .i64 n, .slice Ab m1 cb, .slice A k cap, .slice Ak nk ck] := (((((HC1.out.far (p := ⟨w.heap.size, 3, none⟩) (by simp) _).set_ 0 (.int .i64 kk)).set_ 1 (.int .i64 n)).set_ 2 (.slice Ab m1 cb)).set_ 3 (.slice A k cap)).set_ 4 (.slice Ak nk ck)
      have hkF : Kept (fun q => q = w.heap.size ∨ q = w.heap.size + 1) wr ((((((wr.setCell ⟨w.heap.size, 3, none⟩ (.slice A k cap)).setCell ⟨w.heap.size + 1, 0, none⟩ (.int .i64 kk)).setCell ⟨w.heap.size + 1, 1, none⟩ (.int .i64 n)).setCell ⟨w.heap.size + 1, 2, none⟩ (.slice Ab m1 cb)).setCell ⟨w.heap.size + 1, 3, none⟩ (.slice A k cap)).setCell ⟨w.heap.size + 1, 4, none⟩ (.slice Ak nk ck)) := (((((((Kept.refl _ wr).setIn (p := ⟨w.heap.size, 3, none⟩) (.inl rfl) _).setIn (p := ⟨w.heap.size + 1, 0, none⟩) (.inr rfl) _).setIn (p := ⟨w.heap.size + 1, 1, none⟩) (.inr rfl) _).setIn (p := ⟨w.heap.size + 1, 2, none⟩) (.inr rfl) _).setIn (p := ⟨w.heap.size + 1, 3, none⟩) (.inr rfl) _).setIn (p := ⟨w.heap.size + 1, 4, none⟩) (.inr rfl) _)
      generalize ((((((wr.setCell ⟨w.heap.size, 3, none⟩ (.slice A k cap)).setCell ⟨w.heap.size + 1, 0, none⟩ (.int .i64 kk)).setCell ⟨w.heap.size + 1, 1, none⟩ (.int .i64 n)).setCell ⟨w.heap.size + 1, 2, none⟩ (.slice Ab m1 cb)).setCell ⟨w.heap.size + 1, 3, none⟩ (.slice A k cap)).setCell ⟨w.heap.size + 1, 4, none⟩ (.slice Ak nk ck)) = wF at hfin hkF ⊢
      have hkW : Kept Kno w wF := HKK.out.trans hkF (fun q hq e => by rcases e with e | e <;> omega)
      have HLN := Lib.hid HR.out.len
      have hcl : (cutR rs).length = k := by unfold cutR; rw [← HM8.out, List.length_map, List.length_take]; omega
      refine bodyPost_ret (results_cell_row rfl _ _ (w.heap.size + 1) 47 _ (0, 0) _ rfl hfin Try.underlying47 rfl (by kernel_rfl)) rfl ?_
      have hz8 : (zipV us rs).take 8 = vs := by rw [HEL.out]; exact zip_eight us rs HLN.out HM8b.out
      refine ⟨A, cap, by rw [hcl, ← HM1.out], ?_, hkW⟩
      rw [hcl, hz8]
      exact own_rebase (own_kept HOWN.out hkF (fun q e e' => by have := (own_base HOWN.out e).1; rcases e' with e' | e' <;> omega)) (fun q e => by have := (own_base HOWN.out e).1; omega)

end Go.Proofs.Yteoodgcpkgfomaa
