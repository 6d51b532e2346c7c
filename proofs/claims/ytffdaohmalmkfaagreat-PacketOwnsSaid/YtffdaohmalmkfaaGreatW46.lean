/-
  Packet: a collector in memory; NewCollector, later and belongs at a part of the same delta. (Printed by gen_pakmg.py.)
-/
import Derived.Test.YtffdaohmalmkfaaGreatW23
import Derived.Test.YtffdaohmalmkfaaGreatW44
set_option linter.unusedSimpArgs false
set_option linter.unusedVariables false
namespace Go.Proofs.YtffdaohmalmkfaaGreat
open Go.RowKit
set_option linter.unusedVariables false

/-- A collector's cells: the delta's lists are k (Kept) and none (Edits), its parts pm. -/
def cltC (x : Dl) (k pm : Value) (dn : Bool) : Array Value := #[.bool true, .int .i64 2, .int .i64 x.dev, .int .i64 x.round, .int .i64 0, .int .i64 0, .slice none 0 0, .int .i64 0, .slice none 0 0, .int .i64 x.from_, .int .i64 x.to_, k, .int .i64 x.dec, .int .i64 x.part, .int .i64 x.parts, .slice none 0 0, .int .i64 0, .int .i64 0, .int .i64 0, .slice none 0 0, .bool false, .slice none 0 0, .int .i64 0, .int .i64 0, .int .i64 0, .slice none 0 0, .int .i64 0, .int .i64 0, .int .i64 0, .int .i64 0, .int .i64 0, .slice none 0 0, pm, .bool dn]
def cltZ : Array Value := #[.bool false, .int .i64 0, .int .i64 0, .int .i64 0, .int .i64 0, .int .i64 0, .slice none 0 0, .int .i64 0, .slice none 0 0, .int .i64 0, .int .i64 0, .slice none 0 0, .int .i64 0, .int .i64 0, .int .i64 0, .slice none 0 0, .int .i64 0, .int .i64 0, .int .i64 0, .slice none 0 0, .bool false, .slice none 0 0, .int .i64 0, .int .i64 0, .int .i64 0, .slice none 0 0, .int .i64 0, .int .i64 0, .int .i64 0, .int .i64 0, .int .i64 0, .slice none 0 0, .map none, .bool false]
def NewColOk (w : World) (e : Ending) (w' : World) : Prop := ∃ C, e = .returned (.pointer (some ⟨C, 0, none⟩)) ∧ w.heap.size ≤ C ∧ Blk w' C 142 cltZ ∧ Kept Kno w w'
set_option maxRecDepth 100000 in
set_option maxHeartbeats 2000000 in
theorem newCol_any (w : World) : Calls Tryz.prog 21 #[] w (NewColOk w) := by
  go_enter Tryz.func21, Tryz.ntmps21
  go_wp2
  go_ret
  exact ⟨_, rfl, Nat.le_refl _, Blk.new _ _ _, (Kept.refl _ _).alloc _⟩

set_option maxRecDepth 100000 in
set_option maxHeartbeats 2000000 in
theorem later_same (dev rnd frm too : Int) (kept : List Int) (dec prt pts : Int) (eds eds0 : List Ed) (kd pm : Value) (dn : Bool) (k e : Value) (C : Nat) (w : World) (hC : Blk w C 142 (cltC ⟨dev, rnd, frm, too, kept, dec, 0, pts, eds0⟩ kd pm dn)) :
    Calls Tryz.prog 56 #[.pointer (some ⟨C, 0, none⟩), .agg (dltC ⟨dev, rnd, frm, too, kept, dec, prt, pts, eds⟩ k e)] w (RetBool false w) := by
  have HC := Lib.hid hC
  have hCw : C < w.heap.size := hC.lt
  clear hC
  go_enter Tryz.func56, Tryz.ntmps56
  go_upto_region 1 with (fail)
  obtain ⟨w0, h0⟩ : ∃ w0, w.alloc (.cells (dltC ⟨dev, rnd, frm, too, kept, dec, prt, pts, eds⟩ k e) 36) = w0 := ⟨_, rfl⟩
  have HK := Lib.hid (show Kept Kno w w0 by rw [← h0]; exact (Kept.refl _ _).alloc _)
  have HG := Lib.hid (show Blk w0 w.heap.size 36 (dltC ⟨dev, rnd, frm, too, kept, dec, prt, pts, eds⟩ k e) by rw [← h0]; exact Blk.new _ _ _)
  have HCG := Lib.hid (HC.out.kept HK.out (fun h => h))
  rw [h0]
  clear h0 HC
  obtain ⟨Z, hZ⟩ : ∃ n, w.heap.size = n := ⟨_, rfl⟩
  rw [hZ] at HG hCw ⊢
  clear hZ
  have z2 : w0.cell? ⟨Z, 2, none⟩ = some (.int .i64 rnd) := HG.out.cell 2
  have z9 : w0.cell? ⟨Z, 9, none⟩ = some (.int .i64 too) := HG.out.cell 9
  have z8 : w0.cell? ⟨Z, 8, none⟩ = some (.int .i64 frm) := HG.out.cell 8
  have y3 : w0.cell? ⟨C, 3, none⟩ = some (.int .i64 rnd) := HCG.out.cell 3
  have y10 : w0.cell? ⟨C, 10, none⟩ = some (.int .i64 too) := HCG.out.cell 10
  have y9 : w0.cell? ⟨C, 9, none⟩ = some (.int .i64 frm) := HCG.out.cell 9
  go_quiet (fail)
  go_wp2_with fail
  go_quiet (fail)
  by_cases hf : frm = -1
  · subst hf
    go_wp2
    go_ret
    exact ⟨rfl, HK.out.trans ((Kept.refl Kno _).drewN _) (fun _ _ h => h)⟩
  · have hfb : (frm == -1) = false := by simpa using hf
    go_wp2
    go_ret
    exact ⟨rfl, HK.out.trans ((Kept.refl Kno _).drewN _) (fun _ _ h => h)⟩

theorem size_dlt' : (Tryz.prog.info? 36).map (·.size) = some 31 := by
  have h := size_dlt ⟨0, 0, 0, 0, [], 0, 0, 0, []⟩ (.slice none 0 0) (.slice none 0 0)
  exact h
set_option maxRecDepth 100000 in
set_option maxHeartbeats 4000000 in
theorem belongs_same (dev rnd frm too : Int) (kept : List Int) (dec prt pts : Int) (eds eds0 : List Ed) (pm : Value) (dn : Bool) (kd k e : Value) (B C : Nat) (w : World) (hC : Blk w C 142 (cltC ⟨dev, rnd, frm, too, kept, dec, 0, pts, eds0⟩ kd pm dn)) (hkd : IIn w B kd kept) (hk : IIn w B k kept) (hB : B ≤ w.heap.size) :
    Calls Tryz.prog 57 #[.pointer (some ⟨C, 0, none⟩), .agg (dltC ⟨dev, rnd, frm, too, kept, dec, prt, pts, eds⟩ k e)] w (RetBool true w) := by
  obtain ⟨kA, kc, rfl⟩ := IIn.form hk
  obtain ⟨dA, dc, rfl⟩ := IIn.form hkd
  have HIK := Lib.hid hk
  have HID := Lib.hid hkd
  have HC := Lib.hid hC
  have hCw : C < w.heap.size := hC.lt
  clear hC hk hkd
  go_enter Tryz.func57, Tryz.ntmps57
  go_upto_region 1 with (fail)
  obtain ⟨w0, h0⟩ : ∃ w0, w.alloc (.cells (dltC ⟨dev, rnd, frm, too, kept, dec, prt, pts, eds⟩ (.slice kA kept.length kc) e) 36) = w0 := ⟨_, rfl⟩
  have HK := Lib.hid (show Kept Kno w w0 by rw [← h0]; exact (Kept.refl _ _).alloc _)
  have HG := Lib.hid (show Blk w0 w.heap.size 36 (dltC ⟨dev, rnd, frm, too, kept, dec, prt, pts, eds⟩ (.slice kA kept.length kc) e) by rw [← h0]; exact Blk.new _ _ _)
  have HCG := Lib.hid (HC.out.kept HK.out (fun h => h))
  rw [h0]
  clear h0 HC
  obtain ⟨Z, hZ⟩ : ∃ n, w.heap.size = n := ⟨_, rfl⟩
  rw [hZ] at HG hCw ⊢
  have hB0 : B ≤ w0.heap.size := Nat.le_trans hB HK.out.size
  have HIK0 := Lib.hid (IIn.keep0 HIK.out hB HK.out)
  have HID0 := Lib.hid (IIn.keep0 HID.out hB HK.out)
  clear hZ HIK HID
  go_upto_region 2 with (first
    | (refine wpList_load_at rfl 36 (.tmp 8) rfl C 1 (dltC ⟨dev, rnd, frm, too, kept, dec, 0, pts, eds0⟩ (.slice dA kept.length dc) (.slice none 0 0)).toList _ rfl (CellsAt.sub HCG.out 1 rfl) Tryz.underlying36 rfl size_dlt' ?_)
    | (refine wpList_store_new rfl 36 (.tmp 5) (.tmp 9) rfl _ (dltC ⟨dev, rnd, frm, too, kept, dec, 0, pts, eds0⟩ (.slice dA kept.length dc) (.slice none 0 0)) rfl rfl (size_dlt _ _ _) rfl (dlt_one _ _ _ rfl rfl) ?_))
  obtain ⟨w1, h1⟩ : ∃ w1, w0.alloc (.cells (dltC ⟨dev, rnd, frm, too, kept, dec, 0, pts, eds0⟩ (.slice dA kept.length dc) (.slice none 0 0)) 36) = w1 := ⟨_, rfl⟩
  have HK1 := Lib.hid (show Kept Kno w0 w1 by rw [← h1]; exact (Kept.refl _ _).alloc _)
  have HG1 := Lib.hid (HG.out.kept HK1.out (fun h => h))
  have HD1 := Lib.hid (show Blk w1 w0.heap.size 36 (dltC ⟨dev, rnd, frm, too, kept, dec, 0, pts, eds0⟩ (.slice dA kept.length dc) (.slice none 0 0)) by rw [← h1]; exact Blk.new _ _ _)
  rw [h1]
  clear h1
  have a1 : w1.cell? ⟨Z, 1, none⟩ = some (.int .i64 dev) := HG1.out.cell 1
  have b1 : w1.cell? ⟨w0.heap.size, 1, none⟩ = some (.int .i64 dev) := HD1.out.cell 1
  have a2 : w1.cell? ⟨Z, 2, none⟩ = some (.int .i64 rnd) := HG1.out.cell 2
  have b2 : w1.cell? ⟨w0.heap.size, 2, none⟩ = some (.int .i64 rnd) := HD1.out.cell 2
  have a8 : w1.cell? ⟨Z, 8, none⟩ = some (.int .i64 frm) := HG1.out.cell 8
  have b8 : w1.cell? ⟨w0.heap.size, 8, none⟩ = some (.int .i64 frm) := HD1.out.cell 8
  have a9 : w1.cell? ⟨Z, 9, none⟩ = some (.int .i64 too) := HG1.out.cell 9
  have b9 : w1.cell? ⟨w0.heap.size, 9, none⟩ = some (.int .i64 too) := HD1.out.cell 9
  have a11 : w1.cell? ⟨Z, 11, none⟩ = some (.int .i64 dec) := HG1.out.cell 11
  have b11 : w1.cell? ⟨w0.heap.size, 11, none⟩ = some (.int .i64 dec) := HD1.out.cell 11
  have a13 : w1.cell? ⟨Z, 13, none⟩ = some (.int .i64 pts) := HG1.out.cell 13
  have b13 : w1.cell? ⟨w0.heap.size, 13, none⟩ = some (.int .i64 pts) := HD1.out.cell 13
  have a10 : w1.cell? ⟨Z, 10, none⟩ = some (.slice kA kept.length kc) := HG1.out.cell 10
  have b10 : w1.cell? ⟨w0.heap.size, 10, none⟩ = some (.slice dA kept.length dc) := HD1.out.cell 10
  go_wp2_with fail
  refine (equal_same _ _ kept B w1 (IIn.keep0 HIK0.out hB0 HK1.out) (IIn.keep0 HID0.out hB0 HK1.out) (Nat.le_trans hB0 HK1.out.size)).mono ?_
  rintro e w2 ⟨rfl, hk2⟩
  have HX := Lib.hid (show RetBool true w (.returned (.bool true)) w2 from ⟨rfl, HK.out.then0 (HK1.out.then0 hk2)⟩)
  clear hk2 a1 a2 a8 a9 a10 a11 a13 b1 b2 b8 b9 b10 b11 b13
  go_wp2
  go_ret
  exact HX.out

end Go.Proofs.YtffdaohmalmkfaaGreat
