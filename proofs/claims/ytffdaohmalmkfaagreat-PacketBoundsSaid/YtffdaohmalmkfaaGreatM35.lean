/-
  Contracts and plain laws that the claim's theorem rests on, some texts in one file.
-/
import Derived.Test.YtffdaohmalmkfaaGreatM34
/-
  Rows compared with themselves (the part of XCodecV that the packet needs).
-/
namespace Go.Proofs.YtffdaohmalmkfaaGreat
open Go.RowKit
set_option linter.unusedVariables false

theorem bytesLess_irrefl : ∀ l : List UInt8, Op.bytesLess l l = false
  | [] => rfl
  | c :: r => by simp [Op.bytesLess, bytesLess_irrefl r]

set_option maxHeartbeats 1000000 in
theorem compare_same (kind n : Int) (s : ByteArray) (w : World) :
    Calls Tryz.prog 120 #[.agg #[.int .i64 kind, .int .i64 n, .string s], .agg #[.int .i64 kind, .int .i64 n, .string s]] w (RetNew (.int .i64 0) w) := by
  have hs := bytesLess_irrefl s.toList
  have h1 : ¬ kind < kind := by omega
  have h2 : ¬ n < n := by omega
  go_enter Tryz.func120, Tryz.ntmps120
  go_wp2
  go_ret
  exact ⟨rfl, ((Kept.refl _ _).alloc _).alloc _⟩

def CmpRel (xs : List Val) (w : World) (i : Value) (wr : World) : Prop := ∃ j : Nat, j ≤ xs.length ∧ i = .int .i64 j ∧ Kept Kno w wr

set_option maxRecDepth 100000 in
set_option maxHeartbeats 2000000 in
theorem compareRows_same (u v : Value) (xs : List Val) (w : World) (hu : RowIn w u xs) (hv : RowIn w v xs) :
    Calls Tryz.prog 58 #[u, v] w (RetNew (.int .i64 0) w) := by
  have HU := Lib.hid hu
  have HV := Lib.hid hv
  obtain ⟨A, cap, rfl, hlc, hlm, -, -⟩ := hu
  obtain ⟨B, cap2, rfl, hlc2, -, -, -⟩ := hv
  have hll : xs.length ≤ 9223372036854775807 := by simp only [maxLen] at hlm; omega
  go_enter Tryz.func58, Tryz.ntmps58
  go_wp2_with fail
  go_loopw [5] (fun i wr => CmpRel xs w i wr) (fun i _ => xs.length - (intOf i).toNat)
  case atStart => exact ⟨0, by omega, rfl, Kept.refl _ _⟩
  case round =>
    obtain ⟨j, hj, rfl, hk⟩ := hrel
    by_cases hlt : j < xs.length
    · have hlt' : (j : Int) < (xs.length : Int) := by omega
      have hj0 : (0 : Int) ≤ (j : Int) := by omega
      obtain ⟨x, hx⟩ : ∃ x, xs[j]? = some x := ⟨_, List.getElem?_eq_getElem hlt⟩
      obtain ⟨A', capA, hv1, -, -, hcA, -⟩ := HU.out.kept0 hk
      injection hv1 with e1 e2 e3
      subst e1 e3
      obtain ⟨B', capB, hv2, -, -, hcB, -⟩ := HV.out.kept0 hk
      injection hv2 with e1 e2 e3
      subst e1 e3
      obtain ⟨g, o, rfl, hA⟩ := hcA (by omega)
      obtain ⟨g2, o2, rfl, hB⟩ := hcB (by omega)
      obtain ⟨a0, a1, a2⟩ := hA j x hx
      obtain ⟨b0, b1, b2⟩ := hB j x hx
      obtain ⟨kind, n, s⟩ := x
      simp only at a0 a1 a2 b0 b1 b2
      clear hA hB hcA hcB e2 hx
      go_upto_region 4 with (fail)
      go_region_held3 (fun w' => w'.cell? ⟨g, o + j * 3, none⟩ = some (.int .i64 kind) ∧ w'.cell? ⟨g, o + j * 3 + 1, none⟩ = some (.int .i64 n) ∧ w'.cell? ⟨g, o + j * 3 + 1 + 1, none⟩ = some (.string s) ∧ w'.cell? ⟨g2, o2 + j * 3, none⟩ = some (.int .i64 kind) ∧ w'.cell? ⟨g2, o2 + j * 3 + 1, none⟩ = some (.int .i64 n) ∧ w'.cell? ⟨g2, o2 + j * 3 + 1 + 1, none⟩ = some (.string s)) (first | (exact ⟨r0, r1, r2, r3, r4, r5⟩) | (exact ⟨a0, a1, a2, b0, b1, b2⟩) | go_keep)
        (first | (go_at_call 120; refine (compare_same _ _ _ _).mono ?_; rintro e w9 ⟨rfl, hkk9⟩; have hk9 : Kept Kno w w9 := (hk.drew).then0 hkk9; have r0 := hkk9.cell_some (p := ⟨g, o + j * 3, none⟩) a0 (fun h => h); have r1 := hkk9.cell_some (p := ⟨g, o + j * 3 + 1, none⟩) a1 (fun h => h); have r2 := hkk9.cell_some (p := ⟨g, o + j * 3 + 1 + 1, none⟩) a2 (fun h => h); have r3 := hkk9.cell_some (p := ⟨g2, o2 + j * 3, none⟩) b0 (fun h => h); have r4 := hkk9.cell_some (p := ⟨g2, o2 + j * 3 + 1, none⟩) b1 (fun h => h); have r5 := hkk9.cell_some (p := ⟨g2, o2 + j * 3 + 1 + 1, none⟩) b2 (fun h => h); clear hkk9))
      clear r0 r1 r2 r3 r4 r5 a0 a1 a2 b0 b1 b2
      go_wp2
      go_roundw
      case rel => exact ⟨j + 1, by omega, by go_num, hk9⟩
      case measure => simp only [intOf]; omega
    · have hlt' : ¬ (j : Int) < (xs.length : Int) := by omega
      have h2 : ¬ (xs.length : Int) < (xs.length : Int) := by omega
      go_wp2
      go_ret
      exact ⟨rfl, hk⟩

end Go.Proofs.YtffdaohmalmkfaaGreat
/-
  Packet's reference: SameSubscriptions at the same list; Same of no edits, of no submission, of no verdict. (Printed by gen_pakrk.py.)
-/
namespace Go.Proofs.YtffdaohmalmkfaaGreat
open Go.RowKit
set_option linter.unusedVariables false

set_option maxRecDepth 100000 in
set_option maxHeartbeats 8000000 in
theorem xsameSubs (u v : Value) (xs : List Sub) (B : Nat) (w : World) (hu : SubsIn w B u xs) (hv : SubsIn w B v xs) (hB : B ≤ w.heap.size) :
    Calls Tryz.prog 39 #[u, v] w (RetBool true w) := by
  obtain ⟨A, cap, rfl, hcap, hmax, -, hat⟩ := hu
  obtain ⟨A', cap', rfl, hcap', -, -, hat'⟩ := hv
  have HAT := Lib.hid hat
  have HAT' := Lib.hid hat'
  have hmax' : cap ≤ 9223372036854775807 := by simpa only [maxLen] using hmax
  clear hat hat' hmax
  go_enter Tryz.func39, Tryz.ntmps39
  go_wp2_with fail
  go_loopw [13] (fun i wr => IdxRel xs.length w i wr) (fun i _ => xs.length - (intOf i).toNat)
  case atStart => exact ⟨0, Nat.zero_le _, rfl, Kept.refl _ _⟩
  case round =>
    obtain ⟨k, hk, rfl, hkk⟩ := hrel
    have HKK := Lib.hid hkk
    clear hkk
    by_cases hlt : k < xs.length
    · obtain ⟨g, o, rfl, hgB, hc⟩ := HAT.out (by omega)
      obtain ⟨g', o', rfl, hgB', hc'⟩ := HAT'.out (by omega)
      have hold : Old B w wr := HKK.out.old hB (fun _ _ h => h)
      obtain ⟨x, hx⟩ : ∃ x, xs[k]? = some x := ⟨_, List.getElem?_eq_getElem hlt⟩
      obtain ⟨-, -, sq, hqi, hqc⟩ := hc k x hx
      obtain ⟨-, -, tq, hti, htc⟩ := hc' k x hx
      have HQI := Lib.hid (QIn.old hold (Nat.le_refl _) _ _ hqi)
      have HQC := Lib.hid (hqc.old hgB hold)
      have HTI := Lib.hid (QIn.old hold (Nat.le_refl _) _ _ hti)
      have HTC := Lib.hid (htc.old hgB' hold)
      have HI : Hid ((Tryz.prog.info? 59).map (·.size) = some (x.q.cells sq).length) := Lib.hid (by rw [x.q.cells_length sq]; kernel_rfl)
      have HI' : Hid ((Tryz.prog.info? 59).map (·.size) = some (x.q.cells tq).length) := Lib.hid (by rw [x.q.cells_length tq]; kernel_rfl)
      have HQV : Hid (x.q.v sq = .agg (x.q.cells sq).toArray) := Lib.hid (x.q.v_cells sq)
      have HTV : Hid (x.q.v tq = .agg (x.q.cells tq).toArray) := Lib.hid (x.q.v_cells tq)
      have HBR : Hid (B ≤ wr.heap.size) := Lib.hid (Nat.le_trans hB HKK.out.size)
      have HCC : Hid (Calls Tryz.prog 98 #[.agg (x.q.cells sq).toArray, .agg (x.q.cells tq).toArray] wr.drew (RetBool true wr.drew)) := Lib.hid (by
        rw [← HQV.out, ← HTV.out]
        have hd : Old B wr wr.drew := ((Kept.refl Kno wr).drew).old HBR.out (fun _ _ h => h)
        exact xequalQ x.q B sq tq wr.drew (QIn.old hd (Nat.le_refl _) _ _ HQI.out) (QIn.old hd (Nat.le_refl _) _ _ HTI.out) HBR.out)
      have hk0 : (0 : Int) ≤ (k : Int) := by omega
      have hk9 : (k : Int) < (xs.length : Int) := by omega
      have HH : Hid (CellsAt wr g (o + k * 23) (subC x sq) ∧ CellsAt wr g' (o' + k * 23) (subC x tq)) := Lib.hid ⟨HQC.out, HTC.out⟩
      clear hqc hqi htc hti hx hold hc hc'
      go_wp2_with fail
      refine wp_region_held_drew (S := fun w' => CellsAt w' g (o + k * 23) (subC x sq) ∧ CellsAt w' g' (o' + k * 23) (subC x tq)) (by kernel_rfl) HH.out (fun hHeld => ?_)
      refine wpAnyH_takeD (i := 0) (v := .slice (some ⟨g, o, none⟩) xs.length cap) rfl rfl (by kernel_rfl) (by kernel_rfl) (by kernel_rfl) (fun _ _ _ h => h) (Or.inl ⟨by rfl, fun w1 hw => by go_simp⟩) (by assumption) ?_
      (try simp only [List.setIfInBounds_toArray, List.set_cons_zero, List.set_cons_succ])
      refine wpAnyH_takeD (i := 1) (v := .int .i64 k) rfl rfl (by kernel_rfl) (by kernel_rfl) (by kernel_rfl) (fun _ _ _ h => h) (Or.inl ⟨by rfl, fun w1 hw => by go_simp⟩) (by assumption) ?_
      (try simp only [List.setIfInBounds_toArray, List.set_cons_zero, List.set_cons_succ])
      refine wpAnyH_takeD (i := 2) (v := .pointer (some ⟨g, o + k * 23, none⟩)) rfl rfl (by kernel_rfl) (by kernel_rfl) (by kernel_rfl) (fun _ _ _ h => h) (Or.inl ⟨by rfl, fun w1 hw => by go_simp⟩) (by assumption) ?_
      (try simp only [List.setIfInBounds_toArray, List.set_cons_zero, List.set_cons_succ])
      refine wpAnyH_takeD (i := 3) (v := .pointer (some ⟨g, o + k * 23, none⟩)) rfl rfl (by kernel_rfl) (by kernel_rfl) (by kernel_rfl) (fun _ _ _ h => h) (Or.inl ⟨by rfl, fun w1 hw => by go_simp⟩) (by assumption) ?_
      (try simp only [List.setIfInBounds_toArray, List.set_cons_zero, List.set_cons_succ])
      refine wpAnyH_takeD (i := 4) (v := .int .i64 x.id) rfl rfl (by kernel_rfl) (by kernel_rfl) (by kernel_rfl) (fun _ _ _ h => h) (Or.inl ⟨by rfl, fun w1 hw => by have c0 : w1.cell? ⟨g, o + k * 23, none⟩ = some (.int .i64 x.id) := hw.1 0 _ rfl; clear hw; go_simp⟩) (by assumption) ?_
      (try simp only [List.setIfInBounds_toArray, List.set_cons_zero, List.set_cons_succ])
      refine wpAnyH_takeD (i := 5) (v := .slice (some ⟨g', o', none⟩) xs.length cap') rfl rfl (by kernel_rfl) (by kernel_rfl) (by kernel_rfl) (fun _ _ _ h => h) (Or.inl ⟨by rfl, fun w1 hw => by go_simp⟩) (by assumption) ?_
      (try simp only [List.setIfInBounds_toArray, List.set_cons_zero, List.set_cons_succ])
      refine wpAnyH_takeD (i := 6) (v := .int .i64 k) rfl rfl (by kernel_rfl) (by kernel_rfl) (by kernel_rfl) (fun _ _ _ h => h) (Or.inl ⟨by rfl, fun w1 hw => by go_simp⟩) (by assumption) ?_
      (try simp only [List.setIfInBounds_toArray, List.set_cons_zero, List.set_cons_succ])
      refine wpAnyH_takeD (i := 7) (v := .pointer (some ⟨g', o' + k * 23, none⟩)) rfl rfl (by kernel_rfl) (by kernel_rfl) (by kernel_rfl) (fun _ _ _ h => h) (Or.inl ⟨by rfl, fun w1 hw => by go_simp⟩) (by assumption) ?_
      (try simp only [List.setIfInBounds_toArray, List.set_cons_zero, List.set_cons_succ])
      refine wpAnyH_takeD (i := 8) (v := .pointer (some ⟨g', o' + k * 23, none⟩)) rfl rfl (by kernel_rfl) (by kernel_rfl) (by kernel_rfl) (fun _ _ _ h => h) (Or.inl ⟨by rfl, fun w1 hw => by go_simp⟩) (by assumption) ?_
      (try simp only [List.setIfInBounds_toArray, List.set_cons_zero, List.set_cons_succ])
      refine wpAnyH_takeD (i := 9) (v := .int .i64 x.id) rfl rfl (by kernel_rfl) (by kernel_rfl) (by kernel_rfl) (fun _ _ _ h => h) (Or.inl ⟨by rfl, fun w1 hw => by have c0 : w1.cell? ⟨g', o' + k * 23, none⟩ = some (.int .i64 x.id) := hw.2 0 _ rfl; clear hw; go_simp⟩) (by assumption) ?_
      (try simp only [List.setIfInBounds_toArray, List.set_cons_zero, List.set_cons_succ])
      refine wpAnyH_takeD (i := 10) (v := .bool false) rfl rfl (by kernel_rfl) (by kernel_rfl) (by kernel_rfl) (fun _ _ _ h => h) (Or.inl ⟨by rfl, fun w1 hw => by go_simp⟩) (by assumption) ?_
      (try simp only [List.setIfInBounds_toArray, List.set_cons_zero, List.set_cons_succ])
      refine wpAnyH_takeD (i := 11) (v := .bool false) rfl rfl (by kernel_rfl) (by kernel_rfl) (by kernel_rfl) (fun _ _ _ h => h) (Or.inl ⟨by rfl, fun w1 hw => by go_simp⟩) (by assumption) ?_
      (try simp only [List.setIfInBounds_toArray, List.set_cons_zero, List.set_cons_succ])
      refine wpAnyH_takeD (i := 12) (v := .slice (some ⟨g, o, none⟩) xs.length cap) rfl rfl (by kernel_rfl) (by kernel_rfl) (by kernel_rfl) (fun _ _ _ h => h) (Or.inl ⟨by rfl, fun w1 hw => by go_simp⟩) (by assumption) ?_
      (try simp only [List.setIfInBounds_toArray, List.set_cons_zero, List.set_cons_succ])
      refine wpAnyH_takeD (i := 13) (v := .int .i64 k) rfl rfl (by kernel_rfl) (by kernel_rfl) (by kernel_rfl) (fun _ _ _ h => h) (Or.inl ⟨by rfl, fun w1 hw => by go_simp⟩) (by assumption) ?_
      (try simp only [List.setIfInBounds_toArray, List.set_cons_zero, List.set_cons_succ])
      refine wpAnyH_takeD (i := 14) (v := .pointer (some ⟨g, o + k * 23, none⟩)) rfl rfl (by kernel_rfl) (by kernel_rfl) (by kernel_rfl) (fun _ _ _ h => h) (Or.inl ⟨by rfl, fun w1 hw => by go_simp⟩) (by assumption) ?_
      (try simp only [List.setIfInBounds_toArray, List.set_cons_zero, List.set_cons_succ])
      refine wpAnyH_takeD (i := 15) (v := .pointer (some ⟨g, o + k * 23 + 1, none⟩)) rfl rfl (by kernel_rfl) (by kernel_rfl) (by kernel_rfl) (fun _ _ _ h => h) (Or.inl ⟨by rfl, fun w1 hw => by go_simp⟩) (by assumption) ?_
      (try simp only [List.setIfInBounds_toArray, List.set_cons_zero, List.set_cons_succ])
      refine wpAnyH_takeD (i := 16) (v := .int .i64 x.prio) rfl rfl (by kernel_rfl) (by kernel_rfl) (by kernel_rfl) (fun _ _ _ h => h) (Or.inl ⟨by rfl, fun w1 hw => by have c0 : w1.cell? ⟨g, o + k * 23 + 1, none⟩ = some (.int .i64 x.prio) := hw.1 1 _ rfl; clear hw; go_simp⟩) (by assumption) ?_
      (try simp only [List.setIfInBounds_toArray, List.set_cons_zero, List.set_cons_succ])
      refine wpAnyH_takeD (i := 17) (v := .slice (some ⟨g', o', none⟩) xs.length cap') rfl rfl (by kernel_rfl) (by kernel_rfl) (by kernel_rfl) (fun _ _ _ h => h) (Or.inl ⟨by rfl, fun w1 hw => by go_simp⟩) (by assumption) ?_
      (try simp only [List.setIfInBounds_toArray, List.set_cons_zero, List.set_cons_succ])
      refine wpAnyH_takeD (i := 18) (v := .int .i64 k) rfl rfl (by kernel_rfl) (by kernel_rfl) (by kernel_rfl) (fun _ _ _ h => h) (Or.inl ⟨by rfl, fun w1 hw => by go_simp⟩) (by assumption) ?_
      (try simp only [List.setIfInBounds_toArray, List.set_cons_zero, List.set_cons_succ])
      refine wpAnyH_takeD (i := 19) (v := .pointer (some ⟨g', o' + k * 23, none⟩)) rfl rfl (by kernel_rfl) (by kernel_rfl) (by kernel_rfl) (fun _ _ _ h => h) (Or.inl ⟨by rfl, fun w1 hw => by go_simp⟩) (by assumption) ?_
      (try simp only [List.setIfInBounds_toArray, List.set_cons_zero, List.set_cons_succ])
      refine wpAnyH_takeD (i := 20) (v := .pointer (some ⟨g', o' + k * 23 + 1, none⟩)) rfl rfl (by kernel_rfl) (by kernel_rfl) (by kernel_rfl) (fun _ _ _ h => h) (Or.inl ⟨by rfl, fun w1 hw => by go_simp⟩) (by assumption) ?_
      (try simp only [List.setIfInBounds_toArray, List.set_cons_zero, List.set_cons_succ])
      refine wpAnyH_takeD (i := 21) (v := .int .i64 x.prio) rfl rfl (by kernel_rfl) (by kernel_rfl) (by kernel_rfl) (fun _ _ _ h => h) (Or.inl ⟨by rfl, fun w1 hw => by have c0 : w1.cell? ⟨g', o' + k * 23 + 1, none⟩ = some (.int .i64 x.prio) := hw.2 1 _ rfl; clear hw; go_simp⟩) (by assumption) ?_
      (try simp only [List.setIfInBounds_toArray, List.set_cons_zero, List.set_cons_succ])
      refine wpAnyH_takeD (i := 22) (v := .bool false) rfl rfl (by kernel_rfl) (by kernel_rfl) (by kernel_rfl) (fun _ _ _ h => h) (Or.inl ⟨by rfl, fun w1 hw => by go_simp⟩) (by assumption) ?_
      (try simp only [List.setIfInBounds_toArray, List.set_cons_zero, List.set_cons_succ])
      refine wpAnyH_takeD (i := 23) (v := .bool false) rfl rfl (by kernel_rfl) (by kernel_rfl) (by kernel_rfl) (fun _ _ _ h => h) (Or.inl ⟨by rfl, fun w1 hw => by go_simp⟩) (by assumption) ?_
      (try simp only [List.setIfInBounds_toArray, List.set_cons_zero, List.set_cons_succ])
      refine wpAnyH_takeD (i := 24) (v := .bool false) rfl rfl (by kernel_rfl) (by kernel_rfl) (by kernel_rfl) (fun _ _ _ h => h) (Or.inl ⟨by rfl, fun w1 hw => by go_simp⟩) (by assumption) ?_
      (try simp only [List.setIfInBounds_toArray, List.set_cons_zero, List.set_cons_succ])
      refine wpAnyH_takeD (i := 25) (v := .slice (some ⟨g, o, none⟩) xs.length cap) rfl rfl (by kernel_rfl) (by kernel_rfl) (by kernel_rfl) (fun _ _ _ h => h) (Or.inl ⟨by rfl, fun w1 hw => by go_simp⟩) (by assumption) ?_
      (try simp only [List.setIfInBounds_toArray, List.set_cons_zero, List.set_cons_succ])
      refine wpAnyH_takeD (i := 26) (v := .int .i64 k) rfl rfl (by kernel_rfl) (by kernel_rfl) (by kernel_rfl) (fun _ _ _ h => h) (Or.inl ⟨by rfl, fun w1 hw => by go_simp⟩) (by assumption) ?_
      (try simp only [List.setIfInBounds_toArray, List.set_cons_zero, List.set_cons_succ])
      refine wpAnyH_takeD (i := 27) (v := .pointer (some ⟨g, o + k * 23, none⟩)) rfl rfl (by kernel_rfl) (by kernel_rfl) (by kernel_rfl) (fun _ _ _ h => h) (Or.inl ⟨by rfl, fun w1 hw => by go_simp⟩) (by assumption) ?_
      (try simp only [List.setIfInBounds_toArray, List.set_cons_zero, List.set_cons_succ])
      refine wpAnyH_takeD (i := 28) (v := .pointer (some ⟨g, o + k * 23 + 2, none⟩)) rfl rfl (by kernel_rfl) (by kernel_rfl) (by kernel_rfl) (fun _ _ _ h => h) (Or.inl ⟨by rfl, fun w1 hw => by go_simp⟩) (by assumption) ?_
      (try simp only [List.setIfInBounds_toArray, List.set_cons_zero, List.set_cons_succ])
      refine wpAnyH_takeD (i := 29) (v := .agg (x.q.cells sq).toArray) rfl rfl (by kernel_rfl) (by kernel_rfl) (by kernel_rfl) (fun _ _ _ h => h) (yieldsIf_load_at (by rfl) 59 _ rfl g (o + k * 23 + 2) rfl (x.q.cells sq) _ (fun w1 hw => by have := CellsAt.drop 2 hw.1; simpa [subC] using this) Tryz.underlying59 rfl HI.out) (by assumption) ?_
      (try simp only [List.setIfInBounds_toArray, List.set_cons_zero, List.set_cons_succ])
      refine wpAnyH_takeD (i := 30) (v := .slice (some ⟨g', o', none⟩) xs.length cap') rfl rfl (by kernel_rfl) (by kernel_rfl) (by kernel_rfl) (fun _ _ _ h => h) (Or.inl ⟨by rfl, fun w1 hw => by go_simp⟩) (by assumption) ?_
      (try simp only [List.setIfInBounds_toArray, List.set_cons_zero, List.set_cons_succ])
      refine wpAnyH_takeD (i := 31) (v := .int .i64 k) rfl rfl (by kernel_rfl) (by kernel_rfl) (by kernel_rfl) (fun _ _ _ h => h) (Or.inl ⟨by rfl, fun w1 hw => by go_simp⟩) (by assumption) ?_
      (try simp only [List.setIfInBounds_toArray, List.set_cons_zero, List.set_cons_succ])
      refine wpAnyH_takeD (i := 32) (v := .pointer (some ⟨g', o' + k * 23, none⟩)) rfl rfl (by kernel_rfl) (by kernel_rfl) (by kernel_rfl) (fun _ _ _ h => h) (Or.inl ⟨by rfl, fun w1 hw => by go_simp⟩) (by assumption) ?_
      (try simp only [List.setIfInBounds_toArray, List.set_cons_zero, List.set_cons_succ])
      refine wpAnyH_takeD (i := 33) (v := .pointer (some ⟨g', o' + k * 23 + 2, none⟩)) rfl rfl (by kernel_rfl) (by kernel_rfl) (by kernel_rfl) (fun _ _ _ h => h) (Or.inl ⟨by rfl, fun w1 hw => by go_simp⟩) (by assumption) ?_
      (try simp only [List.setIfInBounds_toArray, List.set_cons_zero, List.set_cons_succ])
      refine wpAnyH_takeD (i := 34) (v := .agg (x.q.cells tq).toArray) rfl rfl (by kernel_rfl) (by kernel_rfl) (by kernel_rfl) (fun _ _ _ h => h) (yieldsIf_load_at (by rfl) 59 _ rfl g' (o' + k * 23 + 2) rfl (x.q.cells tq) _ (fun w1 hw => by have := CellsAt.drop 2 hw.2; simpa [subC] using this) Tryz.underlying59 rfl HI'.out) (by assumption) ?_
      (try simp only [List.setIfInBounds_toArray, List.set_cons_zero, List.set_cons_succ])
      refine wpAnyH_ready (rs := [35]) (by kernel_rfl) (by simp) ?_
      refine AllReadyH.cons rfl (fun K hK => ?_) AllReadyH.nil
      go_simp
      go_at_call 98
      refine (HCC.out).mono ?_
      rintro e x1 ⟨rfl, hk1⟩
      have hkx : Kept Kno wr x1 := ((Kept.refl Kno wr).drew).then0 hk1
      have HKX := Lib.hid hkx
      have HX4 : Hid (CellsAt x1 g (o + k * 23) (subC x sq) ∧ CellsAt x1 g' (o' + k * 23) (subC x tq)) := Lib.hid ⟨HH.out.1.old hgB (hkx.old HBR.out (fun _ _ h => h)), HH.out.2.old hgB' (hkx.old HBR.out (fun _ _ h => h))⟩
      clear hk1 hkx
      go_wp2_with fail
      refine hK.out _ _ ?_ (fun hHeld => ?_)
      · exact HX4.out
      clear hK K
      (try simp only [List.setIfInBounds_toArray, List.set_cons_zero, List.set_cons_succ])
      refine wpAnyH_ready (rs := [36]) (by kernel_rfl) (by simp) ?_
      refine AllReadyH.cons rfl (fun K hK => ?_) AllReadyH.nil
      go_simp
      refine hK.out _ _ ?_ (fun hHeld => ?_)
      · exact HX4.out
      clear hK K
      (try simp only [List.setIfInBounds_toArray, List.set_cons_zero, List.set_cons_succ])
      refine wpAnyH_ready (rs := [37]) (by kernel_rfl) (by simp) ?_
      refine AllReadyH.cons rfl (fun K hK => ?_) AllReadyH.nil
      go_simp
      refine hK.out _ _ ?_ (fun hHeld => ?_)
      · exact HX4.out
      clear hK K
      refine wpAnyH_done (by kernel_rfl) ?_ _
      clear hHeld
      have HK9 := Lib.hid (HKK.out.then0 HKX.out)
      go_wp2
      go_roundw
      case rel => exact ⟨k + 1, by omega, by go_num, HK9.out⟩
      case measure => simp [intOf]; omega
    · have hk9 : ¬ (k : Int) < (xs.length : Int) := by omega
      have HX : Hid (RetBool true w (.returned (.bool true)) wr) := Lib.hid ⟨rfl, HKK.out⟩
      go_wp2
      go_ret
      exact HX.out

set_option maxRecDepth 100000 in
set_option maxHeartbeats 2000000 in
theorem xsameEdits_nil (w : World) : Calls Tryz.prog 23 #[.slice none 0 0, .slice none 0 0] w (RetBool true w) := by
  go_enter Tryz.func23, Tryz.ntmps23
  go_wp2_with fail
  go_loopw [13] (fun i wr => i = .int .i64 0 ∧ Kept Kno w wr) (fun i _ => 0)
  case atStart => exact ⟨rfl, Kept.refl _ _⟩
  case round =>
    obtain ⟨rfl, hkk⟩ := hrel
    have HX : Hid (RetBool true w (.returned (.bool true)) wr) := Lib.hid ⟨rfl, hkk⟩
    clear hkk
    go_wp2
    go_ret
    exact HX.out

set_option maxRecDepth 100000 in
set_option maxHeartbeats 2000000 in
theorem xsameReads_nil (w : World) : Calls Tryz.prog 99 #[.slice none 0 0, .slice none 0 0] w (RetBool true w) := by
  go_enter Tryz.func99, Tryz.ntmps99
  go_wp2_with fail
  go_loopw [13] (fun i wr => i = .int .i64 0 ∧ Kept Kno w wr) (fun i _ => 0)
  case atStart => exact ⟨rfl, Kept.refl _ _⟩
  case round =>
    obtain ⟨rfl, hkk⟩ := hrel
    have HX : Hid (RetBool true w (.returned (.bool true)) wr) := Lib.hid ⟨rfl, hkk⟩
    clear hkk
    go_wp2
    go_ret
    exact HX.out

end Go.Proofs.YtffdaohmalmkfaaGreat
