/-
  Contracts and plain laws that the claim's theorem rests on, some texts in one file.
-/
import Derived.Test.YtffdaohmalmkfaaGreatM37
/-
  Packet's reference: valid and Encode at a sync of one subscription. (Printed by gen_pakrn.py.)
-/
namespace Go.Proofs.YtffdaohmalmkfaaGreat
open Go.RowKit
set_option linter.unusedVariables false

theorem row_nil (w : World) : RowIn w (.slice none 0 0) [] := ⟨none, 0, rfl, Nat.le_refl _, Nat.zero_le _, fun h => absurd h (Nat.lt_irrefl 0), by simp⟩
theorem zs_in (w : World) (B size : Nat) : SlIn w B size (.slice none 0 0) 0 [] := ⟨none, 0, rfl, Nat.le_refl _, Nat.zero_le _, by simp, fun _ => rfl, fun k h => by simp [Value.ownBlock] at h, fun h => absurd h (Nat.lt_irrefl 0)⟩
theorem xsame_law (B : Nat) (A : Option Addr) (c : Nat) (x : Sub) (w : World) (hu : SubsIn w B (.slice A 1 c) [x]) (hB : B ≤ w.heap.size) :
    Calls Tryz.prog 12 #[.agg (lawC (.slice A 1 c)), .agg (lawC (.slice A 1 c))] w (RetBool true w) := by
  refine xsame_any 1 1 0 0 0 0 0 0 0 0 0 0 0 0 0 0 0 0 0 0 0 0 false w ?_ ?_ ?_ ?_ ?_ ?_
  · intro w' hk
    exact xsameSubs _ _ [x] B w' (hu.old (hk.old hB (fun _ _ h => h)) (Nat.le_refl _)) (hu.old (hk.old hB (fun _ _ h => h)) (Nat.le_refl _)) (Nat.le_trans hB hk.size)
  · intro w' hk
    exact xsameSubs _ _ [] w'.heap.size w' (SubsIn.nil _ _) (SubsIn.nil _ _) (Nat.le_refl _)
  · intro w' hk
    exact xsameInts _ _ [] w'.heap.size w' (zs_in _ _ _) (zs_in _ _ _) (Nat.le_refl _)
  · intro w' hk
    exact xsameEdits_nil w'
  · intro w' hk
    exact xsameSubmission 0 0 0 false [] w' (row_nil _) (row_nil _) (fun w2 _ => xsameReads_nil w2)
  · intro w' hk
    exact xsameVerdict 0 0 0 0 0 0 0 0 [] [] w' (row_nil _) (row_nil _) (row_nil _) (row_nil _)
def lawL (u : Value) : List Value := (lawC u).toList
set_option maxRecDepth 100000 in
set_option maxHeartbeats 8000000 in
theorem xvalid_law (B : Nat) (u : Value) (x : Sub) (w : World) (hu : SubsIn w B u [x]) (hB : B ≤ w.heap.size) (hl : (encSubs [x]).length ≤ 500000000000) :
    Calls Tryz.prog 101 #[.agg (lawC u), .int .i64 32] w (RetBool (writB [x]) w) := by
  have hu0 := hu
  obtain ⟨A, c, rfl, -⟩ := hu
  simp only [List.length_singleton] at hu0 ⊢
  have HU := Lib.hid hu0
  have HL := Lib.hid hl
  obtain ⟨wA, hA⟩ : ∃ wA, wA = w.alloc (.cells (lawL (.slice A 1 c)).toArray 36) := ⟨_, rfl⟩
  have hkA : Kept Kno w wA := by rw [hA]; exact (Kept.refl _ _).alloc _
  have hG0 : Blk wA w.heap.size 36 (lawL (.slice A 1 c)).toArray := by rw [hA]; exact Blk.new _ _ _
  have HKA := Lib.hid hkA
  have HG0 := Lib.hid hG0
  have HAe := Lib.hid hA
  have HI : Hid ((Tryz.prog.info? 36).map (·.size) = some (lawL (.slice A 1 c)).length) := Lib.hid (by kernel_rfl)
  clear hkA hG0 hA hu0
  go_enter Tryz.func101, Tryz.ntmps101
  go_upto_region 1 with (fail)
  rw [show (lawC (.slice A 1 c)) = (lawL (.slice A 1 c)).toArray from rfl, ← HAe.out]
  refine wp_region_held_drew (S := fun w' => CellsAt w' w.heap.size 0 (lawL (.slice A 1 c))) (by kernel_rfl) (CellsAt.blk HG0.out.drew) (fun hHeld => ?_)
  refine wpAnyH_takeD (i := 0) (v := .pointer (some ⟨w.heap.size, 0, none⟩)) rfl rfl (by kernel_rfl) (by kernel_rfl) (by kernel_rfl) (fun _ _ _ h => h) (Or.inl ⟨by rfl, fun w1 hw => by go_simp⟩) (by assumption) ?_
  (try simp only [List.setIfInBounds_toArray, List.set_cons_zero, List.set_cons_succ])
  refine wpAnyH_takeD (i := 1) (v := .int .i64 1) rfl rfl (by kernel_rfl) (by kernel_rfl) (by kernel_rfl) (fun _ _ _ h => h) (Or.inl ⟨by rfl, fun w1 hw => by have c0 : w1.cell? ⟨w.heap.size, 0, none⟩ = some (.int .i64 1) := by { have := hw 0 _ rfl; rwa [Nat.zero_add] at this }; clear hw; go_simp⟩) (by assumption) ?_
  (try simp only [List.setIfInBounds_toArray, List.set_cons_zero, List.set_cons_succ])
  refine wpAnyH_ready (rs := [2]) (by kernel_rfl) (by simp) ?_
  refine AllReadyH.cons rfl (fun K hK => ?_) AllReadyH.nil
  go_simp
  go_at_call 194
  refine (xbetween_any 1 1 4 wA.drew).mono ?_
  rintro e w1 ⟨rfl, hk1⟩
  have HK1 := Lib.hid (HKA.out.drew.then0 hk1)
  have HG1 := Lib.hid ((HG0.out.drew).kept hk1 (fun h => h))
  clear hk1
  go_wp2_with fail
  refine hK.out _ _ ?_ (fun hHeld => ?_)
  · exact CellsAt.blk HG1.out
  clear hK K
  (try simp only [List.setIfInBounds_toArray, List.set_cons_zero, List.set_cons_succ])
  have hb1 : wB 1 1 4 = true := by decide
  rw [hb1]; clear hb1
  refine wpAnyH_takeD (i := 3) (v := .bool false) rfl rfl (by kernel_rfl) (by kernel_rfl) (by kernel_rfl) (fun _ _ _ h => h) (Or.inl ⟨by rfl, fun w1 hw => by go_simp⟩) (by assumption) ?_
  (try simp only [List.setIfInBounds_toArray, List.set_cons_zero, List.set_cons_succ])
  refine wpAnyH_takeD (i := 4) (v := .bool false) rfl rfl (by kernel_rfl) (by kernel_rfl) (by kernel_rfl) (fun _ _ _ h => h) (Or.inl ⟨by rfl, fun w1 hw => by go_simp⟩) (by assumption) ?_
  (try simp only [List.setIfInBounds_toArray, List.set_cons_zero, List.set_cons_succ])
  refine wpAnyH_takeD (i := 5) (v := .pointer (some ⟨w.heap.size, 1, none⟩)) rfl rfl (by kernel_rfl) (by kernel_rfl) (by kernel_rfl) (fun _ _ _ h => h) (Or.inl ⟨by rfl, fun w1 hw => by go_simp⟩) (by assumption) ?_
  (try simp only [List.setIfInBounds_toArray, List.set_cons_zero, List.set_cons_succ])
  refine wpAnyH_takeD (i := 6) (v := .int .i64 1) rfl rfl (by kernel_rfl) (by kernel_rfl) (by kernel_rfl) (fun _ _ _ h => h) (Or.inl ⟨by rfl, fun w1 hw => by have c0 : w1.cell? ⟨w.heap.size, 1, none⟩ = some (.int .i64 1) := by { have := hw 1 _ rfl; rwa [Nat.zero_add] at this }; clear hw; go_simp⟩) (by assumption) ?_
  (try simp only [List.setIfInBounds_toArray, List.set_cons_zero, List.set_cons_succ])
  refine wpAnyH_ready (rs := [7]) (by kernel_rfl) (by simp) ?_
  refine AllReadyH.cons rfl (fun K hK => ?_) AllReadyH.nil
  go_simp
  go_at_call 194
  refine (xbetween_any 1 1 8 w1).mono ?_
  rintro e w2 ⟨rfl, hk2⟩
  have HK2 := Lib.hid (HK1.out.then0 hk2)
  have HG2 := Lib.hid (HG1.out.kept hk2 (fun h => h))
  clear hk2
  go_wp2_with fail
  refine hK.out _ _ ?_ (fun hHeld => ?_)
  · exact CellsAt.blk HG2.out
  clear hK K
  (try simp only [List.setIfInBounds_toArray, List.set_cons_zero, List.set_cons_succ])
  have hb1 : wB 1 1 8 = true := by decide
  rw [hb1]; clear hb1
  refine wpAnyH_takeD (i := 8) (v := .bool false) rfl rfl (by kernel_rfl) (by kernel_rfl) (by kernel_rfl) (fun _ _ _ h => h) (Or.inl ⟨by rfl, fun w1 hw => by go_simp⟩) (by assumption) ?_
  (try simp only [List.setIfInBounds_toArray, List.set_cons_zero, List.set_cons_succ])
  refine wpAnyH_takeD (i := 9) (v := .bool false) rfl rfl (by kernel_rfl) (by kernel_rfl) (by kernel_rfl) (fun _ _ _ h => h) (Or.inl ⟨by rfl, fun w1 hw => by go_simp⟩) (by assumption) ?_
  (try simp only [List.setIfInBounds_toArray, List.set_cons_zero, List.set_cons_succ])
  refine wpAnyH_takeD (i := 10) (v := .bool false) rfl rfl (by kernel_rfl) (by kernel_rfl) (by kernel_rfl) (fun _ _ _ h => h) (Or.inl ⟨by rfl, fun w1 hw => by go_simp⟩) (by assumption) ?_
  (try simp only [List.setIfInBounds_toArray, List.set_cons_zero, List.set_cons_succ])
  refine wpAnyH_takeD (i := 11) (v := .agg (lawL (.slice A 1 c)).toArray) rfl rfl (by kernel_rfl) (by kernel_rfl) (by kernel_rfl) (fun _ _ _ h => h) (yieldsIf_load_at (by rfl) 36 _ rfl w.heap.size 0 rfl (lawL (.slice A 1 c)) _ (fun w1 hw => hw) Tryz.underlying36 rfl HI.out) (by assumption) ?_
  (try simp only [List.setIfInBounds_toArray, List.set_cons_zero, List.set_cons_succ])
  refine wpAnyH_takeD (i := 12) (v := .agg (lawL (.slice A 1 c)).toArray) rfl rfl (by kernel_rfl) (by kernel_rfl) (by kernel_rfl) (fun _ _ _ h => h) (yieldsIf_load_at (by rfl) 36 _ rfl w.heap.size 0 rfl (lawL (.slice A 1 c)) _ (fun w1 hw => hw) Tryz.underlying36 rfl HI.out) (by assumption) ?_
  (try simp only [List.setIfInBounds_toArray, List.set_cons_zero, List.set_cons_succ])
  refine wpAnyH_ready (rs := [13]) (by kernel_rfl) (by simp) ?_
  refine AllReadyH.cons rfl (fun K hK => ?_) AllReadyH.nil
  go_simp
  go_at_call 195
  refine (xused_law w2).mono ?_
  rintro e w3 ⟨rfl, hk3⟩
  have HK3 := Lib.hid (HK2.out.then0 hk3)
  have HG3 := Lib.hid (HG2.out.kept hk3 (fun h => h))
  clear hk3
  go_wp2_with fail
  refine hK.out _ _ ?_ (fun hHeld => ?_)
  · exact CellsAt.blk HG3.out
  clear hK K
  (try simp only [List.setIfInBounds_toArray, List.set_cons_zero, List.set_cons_succ])
  refine wpAnyH_ready (rs := [14]) (by kernel_rfl) (by simp) ?_
  refine AllReadyH.cons rfl (fun K hK => ?_) AllReadyH.nil
  go_simp
  go_at_call 12
  refine (xsame_law B A c x w3 (HU.out.old (HK3.out.old hB (fun _ _ h => h)) (Nat.le_refl _)) (Nat.le_trans hB HK3.out.size)).mono ?_
  rintro e w4 ⟨rfl, hk4⟩
  have HK4 := Lib.hid (HK3.out.then0 hk4)
  have HG4 := Lib.hid (HG3.out.kept hk4 (fun h => h))
  clear hk4
  go_wp2_with fail
  refine hK.out _ _ ?_ (fun hHeld => ?_)
  · exact CellsAt.blk HG4.out
  clear hK K
  (try simp only [List.setIfInBounds_toArray, List.set_cons_zero, List.set_cons_succ])
  refine wpAnyH_takeD (i := 15) (v := .bool false) rfl rfl (by kernel_rfl) (by kernel_rfl) (by kernel_rfl) (fun _ _ _ h => h) (Or.inl ⟨by rfl, fun w1 hw => by go_simp⟩) (by assumption) ?_
  (try simp only [List.setIfInBounds_toArray, List.set_cons_zero, List.set_cons_succ])
  refine wpAnyH_takeD (i := 16) (v := .bool false) rfl rfl (by kernel_rfl) (by kernel_rfl) (by kernel_rfl) (fun _ _ _ h => h) (Or.inl ⟨by rfl, fun w1 hw => by go_simp⟩) (by assumption) ?_
  refine wpAnyH_done (by kernel_rfl) ?_ _
  clear hHeld
  have HW0 : Hid (writB [] = true) := Lib.hid (by decide)
  clear HG1 HG2 HG3 HK1 HK2 HK3 HG0 HKA
  have c0 : w4.cell? ⟨w.heap.size, 0, none⟩ = some (.int .i64 1) := HG4.out.cell 0
  have c2 : w4.cell? ⟨w.heap.size, 2, none⟩ = some (.int .i64 0) := HG4.out.cell 2
  go_wp2_with fail
  refine (xbetween_any 0 0 1073741824 w4).mono ?_
  rintro e w5 ⟨rfl, hk5⟩
  have HK5 := Lib.hid (HK4.out.then0 hk5)
  have HG5 := Lib.hid (HG4.out.kept hk5 (fun h => h))
  have hb1 : wB 0 0 1073741824 = true := by decide
  rw [hb1]
  clear hb1 hk5 c2 HG4 HK4 c0
  have c3 : w5.cell? ⟨w.heap.size, 3, none⟩ = some (.int .i64 0) := HG5.out.cell 3
  go_wp2_with fail
  refine (xbetween_any 0 0 1000 w5).mono ?_
  rintro e w6 ⟨rfl, hk6⟩
  have HK6 := Lib.hid (HK5.out.then0 hk6)
  have HG6 := Lib.hid (HG5.out.kept hk6 (fun h => h))
  have hb1 : wB 0 0 1000 = true := by decide
  rw [hb1]
  clear hb1 hk6 c3 HG5 HK5
  have c4 : w6.cell? ⟨w.heap.size, 4, none⟩ = some (.int .i64 0) := HG6.out.cell 4
  go_wp2_with fail
  refine (xbetween_any 0 0 1048576 w6).mono ?_
  rintro e w7 ⟨rfl, hk7⟩
  have HK7 := Lib.hid (HK6.out.then0 hk7)
  have HG7 := Lib.hid (HG6.out.kept hk7 (fun h => h))
  have hb1 : wB 0 0 1048576 = true := by decide
  rw [hb1]
  clear hb1 hk7 c4 HG6 HK6
  have c5 : w7.cell? ⟨w.heap.size, 5, none⟩ = some (.slice A 1 c) := HG7.out.cell 5
  go_wp2_with fail
  refine (xlight_any B (.slice A 1 c) [x] w7 (HU.out.old (HK7.out.old hB (fun _ _ h => h)) (Nat.le_refl _)) (Nat.le_trans hB HK7.out.size) HL.out (Nat.le_refl 1) (fun h => by cases h)).mono ?_
  rintro e w8 ⟨rfl, hk8⟩
  have HK8 := Lib.hid (HK7.out.then0 hk8)
  have HG8 := Lib.hid (HG7.out.kept hk8 (fun h => h))
  clear hk8 c5 HG7 HK7
  cases hwr : writB [x] with
  | false =>
    have HX : Hid (RetBool (writB [x]) w (.returned (.bool false)) w8) := Lib.hid ⟨by rw [hwr], HK8.out⟩
    clear hwr
    go_wp2
    go_ret
    exact HX.out
  | true =>
    have HWR := Lib.hid hwr
    clear hwr
    have c7 : w8.cell? ⟨w.heap.size, 7, none⟩ = some (.slice none 0 0) := HG8.out.cell 7
    go_wp2_with fail
    refine (xlight_any w8.heap.size (.slice none 0 0) [] w8 (SubsIn.nil _ _) (Nat.le_refl _) (by decide) (by decide) (fun _ => rfl)).mono ?_
    rintro e w9 ⟨rfl, hk9⟩
    have HK9 := Lib.hid (HK8.out.then0 hk9)
    have HG9 := Lib.hid (HG8.out.kept hk9 (fun h => h))
    rw [HW0.out]
    clear hk9 c7 HG8 HK8
    have c6 : w9.cell? ⟨w.heap.size, 6, none⟩ = some (.int .i64 0) := HG9.out.cell 6
    go_wp2_with fail
    refine (xbetween_any 0 (-1) 1073741824 w9).mono ?_
    rintro e w10 ⟨rfl, hk10⟩
    have HK10 := Lib.hid (HK9.out.then0 hk10)
    have HG10 := Lib.hid (HG9.out.kept hk10 (fun h => h))
    have hb1 : wB 0 (-1) 1073741824 = true := by decide
    rw [hb1]
    clear hb1 hk10 c6 HG9 HK9
    have c6 : w10.cell? ⟨w.heap.size, 6, none⟩ = some (.int .i64 0) := HG10.out.cell 6
    have HX : Hid (RetBool (writB [x]) w (.returned (.bool true)) w10) := Lib.hid ⟨by rw [HWR.out], HK10.out⟩
    go_wp2
    go_ret
    exact HX.out

set_option maxRecDepth 100000 in
set_option maxHeartbeats 2000000 in
theorem xValid_law (B : Nat) (u : Value) (x : Sub) (w : World) (hu : SubsIn w B u [x]) (hB : B ≤ w.heap.size) (hl : (encSubs [x]).length ≤ 500000000000) :
    Calls Tryz.prog 43 #[.agg (lawC u)] w (RetBool (writB [x]) w) := by
  have hkA : Kept Kno w (w.alloc (.cells (lawC u) 36)) := (Kept.refl _ _).alloc _
  have HC := Lib.hid (xvalid_law B u x (w.alloc (.cells (lawC u) 36)) (hu.old (hkA.old hB (fun _ _ h => h)) (Nat.le_refl _)) (Nat.le_trans hB hkA.size) hl)
  have HG : Hid (Blk (w.alloc (.cells (lawC u) 36)) w.heap.size 36 (lawC u)) := Lib.hid (Blk.new _ _ _)
  have HI : Hid ((Tryz.prog.info? 36).map (·.size) = some (lawC u).size) := Lib.hid (by kernel_rfl)
  have HKA := Lib.hid hkA
  clear hkA hu
  generalize writB [x] = b at HC ⊢
  go_enter Tryz.func43, Tryz.ntmps43
  go_wp2_with (refine wpList_load_row rfl 36 (.tmp 1) rfl w.heap.size rfl 36 (lawC u) (0, 0) _ HG.out Tryz.underlying36 rfl HI.out ?_)
  refine HC.out.mono ?_
  rintro e w2 ⟨rfl, hk2⟩
  have HX : Hid (RetBool b w (.returned (.bool b)) w2) := Lib.hid ⟨rfl, HKA.out.then0 hk2⟩
  clear hk2
  go_wp2
  go_ret
  exact HX.out

theorem lawB_len (x : Sub) (h : (encSubs [x]).length ≤ 16384) : (encSync 1 ⟨0, 0, 0, [x], 0, []⟩).length ≤ 65536 := by
  have i0 := (inum_length 1).2
  have i1 := (inum_length 0).2
  have e0 : (encSubs []).length = 1 := by decide
  simp only [encSync, syncBs, List.flatten_cons, List.flatten_nil, List.length_append, List.length_nil, e0]
  omega

set_option maxRecDepth 100000 in
set_option maxHeartbeats 2000000 in
theorem xencode_law (B : Nat) (u : Value) (x : Sub) (w : World) (hu : SubsIn w B u [x]) (hB : B ≤ w.heap.size) (hl : (encSubs [x]).length ≤ 200000000000) (hw : writB [x] = true) :
    Calls Tryz.prog 15 #[.agg (lawC u)] w (EncOk (encSync 1 ⟨0, 0, 0, [x], 0, []⟩) w) := by
  obtain ⟨fx, lx⟩ := writB_fit hw
  have hlen := lawB_len x lx
  have HG : Hid (Blk (w.alloc (.cells (lawC u) 36)) w.heap.size 36 (lawC u)) := Lib.hid (Blk.new _ _ _)
  have hkA : Kept Kno w (w.alloc (.cells (lawC u) 36)) := (Kept.refl _ _).alloc _
  have HC := Lib.hid (xValid_law B u x (w.alloc (.cells (lawC u) 36)) (hu.old (hkA.old hB (fun _ _ h => h)) (Nat.le_refl _)) (Nat.le_trans hB hkA.size) (by omega))
  have HI : Hid ((Tryz.prog.info? 36).map (·.size) = some (lawC u).size) := Lib.hid (by kernel_rfl)
  have HKA := Lib.hid hkA
  have z64 : I64 0 := ⟨by decide, by decide⟩
  have HB : Hid (∀ w', Kept Kno w w' → Calls Tryz.prog 44 #[.agg (lawC u)] w' (AppOk w'.heap.size (.slice none 0 0) (encSync 1 ⟨0, 0, 0, [x], 0, []⟩) w')) := Lib.hid (fun w' hk => by
    rw [lawC_sync [x] u]
    exact xbytes_sync 1 ⟨0, 0, 0, [x], 0, []⟩ u (.slice none 0 0) w' (hu.old (hk.old hB (fun _ _ h => h)) (Nat.le_trans hB hk.size)) (SubsIn.nil _ _) fx (by simp) hl (by show (encSubs []).length ≤ _; decide) ⟨by decide, by decide⟩ z64 z64 z64 z64)
  rw [hw] at HC
  generalize encSync 1 ⟨0, 0, 0, [x], 0, []⟩ = M at HB hlen ⊢
  have hlenI : (M.length : Int) ≤ 65536 := by omega
  have HLN := Lib.hid hlen
  clear hkA hu lx fx hl hw z64 hlen
  go_enter Tryz.func15, Tryz.ntmps15
  go_wp2_with (refine wpList_load_row rfl 36 (.tmp 1) rfl w.heap.size rfl 36 (lawC u) (0, 0) _ HG.out Tryz.underlying36 rfl HI.out ?_)
  refine HC.out.mono ?_
  rintro e w2 ⟨rfl, hk2⟩
  have HG2 := Lib.hid (HG.out.kept hk2 (fun h => h))
  have HK2 := Lib.hid (HKA.out.then0 hk2)
  clear hk2
  go_wp2_with (refine wpList_load_row rfl 36 (.tmp 1) rfl w.heap.size rfl 36 (lawC u) (0, 0) _ HG2.out Tryz.underlying36 rfl HI.out ?_)
  refine (HB.out _ HK2.out).mono ?_
  rintro e w3 ⟨A, cap, rfl, ho, hs⟩
  have hk3 : Kept Kno w w3 := HK2.out.then0 (hs.k.mono (fun i _ h => by cases h))
  have hx : EncOk M w (.returned (.tuple #[.slice A M.length cap, .int .i64 0])) w3 := ⟨hk3, by rw [if_pos HLN.out]; exact ⟨A, cap, rfl, own_rebase ho (fun k hk => by have := (own_base ho hk).1; have := HK2.out.size; omega)⟩⟩
  have HX := Lib.hid hx
  clear hx hk3 ho hs
  go_wp2
  go_ret2
  exact HX.out

set_option maxRecDepth 100000 in
set_option maxHeartbeats 2000000 in
theorem xencode_bad (B : Nat) (u : Value) (x : Sub) (w : World) (hu : SubsIn w B u [x]) (hB : B ≤ w.heap.size) (hl : (encSubs [x]).length ≤ 200000000000) (hw : writB [x] = false) :
    Calls Tryz.prog 15 #[.agg (lawC u)] w (fun e w' => e = .returned (.tuple #[.slice none 0 0, .int .i64 300]) ∧ Kept Kno w w') := by
  have HG : Hid (Blk (w.alloc (.cells (lawC u) 36)) w.heap.size 36 (lawC u)) := Lib.hid (Blk.new _ _ _)
  have hkA : Kept Kno w (w.alloc (.cells (lawC u) 36)) := (Kept.refl _ _).alloc _
  have HC := Lib.hid (xValid_law B u x (w.alloc (.cells (lawC u) 36)) (hu.old (hkA.old hB (fun _ _ h => h)) (Nat.le_refl _)) (Nat.le_trans hB hkA.size) (by omega))
  have HI : Hid ((Tryz.prog.info? 36).map (·.size) = some (lawC u).size) := Lib.hid (by kernel_rfl)
  have HKA := Lib.hid hkA
  rw [hw] at HC
  clear hkA hu hl hw
  go_enter Tryz.func15, Tryz.ntmps15
  go_wp2_with (refine wpList_load_row rfl 36 (.tmp 1) rfl w.heap.size rfl 36 (lawC u) (0, 0) _ HG.out Tryz.underlying36 rfl HI.out ?_)
  refine HC.out.mono ?_
  rintro e w2 ⟨rfl, hk2⟩
  have HX := Lib.hid (HKA.out.then0 hk2)
  clear hk2
  go_wp2
  go_ret2
  exact ⟨rfl, HX.out⟩

end Go.Proofs.YtffdaohmalmkfaaGreat
