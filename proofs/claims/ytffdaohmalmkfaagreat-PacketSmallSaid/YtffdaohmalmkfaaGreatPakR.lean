/-
  Packet: valid, as a whole, at a sync and at a verdict. (Printed by gen_pakr.py.)
-/
import Derived.Test.YtffdaohmalmkfaaGreatPakQ
import Derived.Test.YtffdaohmalmkfaaGreatPakJ
namespace Go.Proofs.YtffdaohmalmkfaaGreat
open Go.RowKit
set_option linter.unusedVariables false

section
variable {P : Program}
theorem wpList_load_rowW {ops : Array Oper} {rest : List Oper} {o : Oper} {a : Act} {w : World} {Q : Exit → Act → World → Prop} (hgd : Region.wanted o (yielded ops a.tmps) = true) (ty : TypeId) (x : Operand) (ho : o.op = .load ty x)
    (g : Nat) (hx : a.eval x = .pointer (some ⟨g, 0, none⟩)) (t : TypeId) (cs : Array Value) (fr : Nat × Nat) (d : TypeDesc) (hg : w.heap[g]? = some (.cells cs t fr))
    (hu : P.underlying ty = some d) (hd : (match d with | .struct _ | .array _ _ => true | _ => false) = true) (hi : (P.info? ty).map (·.size) = some cs.size)
    (h : wpList P ops Q rest (a.put o.dst (.agg cs)) w) : wpList P ops Q (o :: rest) a w :=
  BigFrame.wpList_want hgd fun _ hK => wp_load_row ty x ho g hx t cs fr d hg hu hd hi (hK _ _ h)
end

theorem wB_lo {d a b : Int} (h : d < a) : wB d a b = false := by unfold wB; rw [decide_eq_false (by omega)]; rfl
theorem wB_hi {d a b : Int} (h : b < d) : wB d a b = false := by unfold wB; rw [decide_eq_false (p := d ≤ b) (by omega)]; simp
theorem CellsAt.sub {w : World} {g : Nat} {t : TypeId} {cs : Array Value} (h : Blk w g t cs) (n : Nat) {l : List Value} (hl : (cs.toList.drop n).take l.length = l) : CellsAt w g n l := fun j u hj => by
  rw [h.cell]
  rw [← hl, List.getElem?_take, List.getElem?_drop] at hj
  split at hj
  · simpa using hj
  · cases hj

set_option maxRecDepth 100000 in
set_option maxHeartbeats 4000000 in
theorem valid_sync (d : Int) (x : Syn) (a b : Value) (B : Nat) (w : World) (ha : SubsIn w B a x.wanted) (hb : SubsIn w B b x.held) (hB : B ≤ w.heap.size) (hla : (encSubs x.wanted).length ≤ 500000000000) (hlb : (encSubs x.held).length ≤ 500000000000) :
    Calls Tryz.prog 34 #[.agg (syncC d x a b)] w (RetBool (wB d 1 8 && syncB x) w) := by
  have HSZ : Hid ((Tryz.prog.info? 36).map (·.size) = some (syncC d x a b).size) := Lib.hid (bad_load _ rfl)
  obtain ⟨w0, h0⟩ : ∃ w0, w0 = w.alloc (.cells (syncC d x a b) 36) := ⟨_, rfl⟩
  have hk0 : Kept Kno w w0 := by rw [h0]; exact (Kept.refl _ _).alloc _
  have hG : Blk w0 w.heap.size 36 (syncC d x a b) := by rw [h0]; exact Blk.new _ _ _
  have c1 : w0.cell? ⟨w.heap.size, 1, none⟩ = some (.int .i64 d) := hG.cell 1
  have c0 : w0.cell? ⟨w.heap.size, 0, none⟩ = some (.int .i64 1) := hG.cell 0
  have HK := Lib.hid hk0
  have HG := Lib.hid hG
  have HE0 := Lib.hid h0
  clear h0 hk0 hG
  go_enter Tryz.func34, Tryz.ntmps34
  go_upto_region 1 with (fail)
  rw [← HE0.out]
  by_cases hd1 : d < 1
  · have hx : RetBool (wB d 1 8 && syncB x) w (.returned (.bool false)) w0 := ⟨by rw [wB_lo hd1]; rfl, HK.out⟩
    have HX := Lib.hid hx
    clear hx
    go_wp2
    go_ret
    exact HX.out
  · by_cases hd8 : 8 < d
    · have hx : RetBool (wB d 1 8 && syncB x) w (.returned (.bool false)) w0 := ⟨by rw [wB_hi hd8]; rfl, HK.out⟩
      have HX := Lib.hid hx
      clear hx
      go_wp2
      go_ret
      exact HX.out
    · have hwb : wB d 1 8 = true := by unfold wB; rw [decide_eq_true (by omega), decide_eq_true (by omega)]; rfl
      have HWB := Lib.hid hwb
      clear hwb
      go_wp2_with (first | (refine wpList_load_row rfl 36 (.tmp 1) rfl w.heap.size rfl 36 (syncC d x a b) (0, 0) _ HG.out Tryz.underlying36 rfl HSZ.out ?_))
      refine (noDelta_z _ _ _ _ _ _ _ _ _ _ _ _ _ _ _ _ _ _ _ _ _ _ _ _ w0).mono ?_
      rintro e w1 ⟨rfl, hk1⟩
      have HG := Lib.hid (HG.out.kept hk1 (fun h => h))
      have HK := Lib.hid (HK.out.then0 hk1)
      clear hk1
      go_wp2_with (first | (refine wpList_load_atW rfl 29 (.tmp 18) rfl w.heap.size 15 [.int .i64 0, .int .i64 0, .int .i64 0, .slice none 0 0, .bool false, .slice none 0 0] _ rfl (CellsAt.sub HG.out 15 rfl) Tryz.underlying29 rfl (by kernel_rfl) ?_))
      refine (noSubmission_z w1).mono ?_
      rintro e w2 ⟨rfl, hk2⟩
      have HG := Lib.hid (HG.out.kept hk2 (fun h => h))
      have HK := Lib.hid (HK.out.then0 hk2)
      clear hk2
      go_wp2_with (first | (refine wpList_load_atW rfl 34 (.tmp 23) rfl w.heap.size 21 [.int .i64 0, .int .i64 0, .int .i64 0, .slice none 0 0, .int .i64 0, .int .i64 0, .int .i64 0, .int .i64 0, .int .i64 0, .slice none 0 0] _ rfl (CellsAt.sub HG.out 21 rfl) Tryz.underlying34 rfl (by kernel_rfl) ?_))
      refine (noVerdict_z w2).mono ?_
      rintro e w3 ⟨rfl, hk3⟩
      have HG := Lib.hid (HG.out.kept hk3 (fun h => h))
      have HK := Lib.hid (HK.out.then0 hk3)
      clear hk3
      go_wp2_with (first | (refine wpList_load_rowW rfl 36 (.tmp 1) rfl w.heap.size rfl 36 (syncC d x a b) (0, 0) _ HG.out Tryz.underlying36 rfl HSZ.out ?_))
      refine (validSync_any d x a b B w3 (ha.old (HK.out.old hB (fun _ _ h => h)) (Nat.le_refl _)) (hb.old (HK.out.old hB (fun _ _ h => h)) (Nat.le_refl _)) (Nat.le_trans hB HK.out.size) hla hlb).mono ?_
      rintro e w4 ⟨rfl, hk4⟩
      have HG := Lib.hid (HG.out.kept hk4 (fun h => h))
      have HK := Lib.hid (HK.out.then0 hk4)
      clear hk4
      obtain ⟨bh, hbh⟩ : ∃ bh, bh = syncB x := ⟨_, rfl⟩
      have hx : RetBool (wB d 1 8 && syncB x) w (.returned (.bool bh)) w4 := ⟨by rw [HWB.out, hbh]; rfl, HK.out⟩
      have HX := Lib.hid hx
      rw [← hbh]
      clear hx hbh
      go_wp2
      go_ret
      exact HX.out

set_option maxRecDepth 100000 in
set_option maxHeartbeats 4000000 in
theorem valid_verdict (d : Int) (x : Verd) (a k : Value) (w : World) (ha : RowIn w a x.args) (hkr : RowIn w k x.key) :
    Calls Tryz.prog 34 #[.agg (verdC d x a k)] w (RetBool (wB d 1 8 && verdB d x) w) := by
  have HSZ : Hid ((Tryz.prog.info? 36).map (·.size) = some (verdC d x a k).size) := Lib.hid (bad_load _ rfl)
  obtain ⟨w0, h0⟩ : ∃ w0, w0 = w.alloc (.cells (verdC d x a k) 36) := ⟨_, rfl⟩
  have hk0 : Kept Kno w w0 := by rw [h0]; exact (Kept.refl _ _).alloc _
  have hG : Blk w0 w.heap.size 36 (verdC d x a k) := by rw [h0]; exact Blk.new _ _ _
  have c1 : w0.cell? ⟨w.heap.size, 1, none⟩ = some (.int .i64 d) := hG.cell 1
  have c0 : w0.cell? ⟨w.heap.size, 0, none⟩ = some (.int .i64 4) := hG.cell 0
  have HK := Lib.hid hk0
  have HG := Lib.hid hG
  have HE0 := Lib.hid h0
  clear h0 hk0 hG
  go_enter Tryz.func34, Tryz.ntmps34
  go_upto_region 1 with (fail)
  rw [← HE0.out]
  by_cases hd1 : d < 1
  · have hx : RetBool (wB d 1 8 && verdB d x) w (.returned (.bool false)) w0 := ⟨by rw [wB_lo hd1]; rfl, HK.out⟩
    have HX := Lib.hid hx
    clear hx
    go_wp2
    go_ret
    exact HX.out
  · by_cases hd8 : 8 < d
    · have hx : RetBool (wB d 1 8 && verdB d x) w (.returned (.bool false)) w0 := ⟨by rw [wB_hi hd8]; rfl, HK.out⟩
      have HX := Lib.hid hx
      clear hx
      go_wp2
      go_ret
      exact HX.out
    · have hwb : wB d 1 8 = true := by unfold wB; rw [decide_eq_true (by omega), decide_eq_true (by omega)]; rfl
      have HWB := Lib.hid hwb
      clear hwb
      go_wp2_with (first | (refine wpList_load_row rfl 36 (.tmp 1) rfl w.heap.size rfl 36 (verdC d x a k) (0, 0) _ HG.out Tryz.underlying36 rfl HSZ.out ?_))
      refine (noRound_z _ _ _ _ _ _ _ _ _ _ _ _ _ _ _ _ _ _ _ _ _ _ _ _ _ _ _ w0).mono ?_
      rintro e w1 ⟨rfl, hk1⟩
      have HG := Lib.hid (HG.out.kept hk1 (fun h => h))
      have HK := Lib.hid (HK.out.then0 hk1)
      have c3 : w1.cell? ⟨w.heap.size, 3, none⟩ = some (.int .i64 0) := HG.out.cell 3
      have c4 : w1.cell? ⟨w.heap.size, 4, none⟩ = some (.int .i64 0) := HG.out.cell 4
      clear hk1
      go_wp2_with (first | (refine wpList_load_rowW rfl 36 (.tmp 1) rfl w.heap.size rfl 36 (verdC d x a k) (0, 0) _ HG.out Tryz.underlying36 rfl HSZ.out ?_))
      refine (noDelta_z _ _ _ _ _ _ _ _ _ _ _ _ _ _ _ _ _ _ _ _ _ _ _ _ w1).mono ?_
      rintro e w2 ⟨rfl, hk2⟩
      have HG := Lib.hid (HG.out.kept hk2 (fun h => h))
      have HK := Lib.hid (HK.out.then0 hk2)
      clear hk2
      go_wp2_with (first | (refine wpList_load_atW rfl 29 (.tmp 82) rfl w.heap.size 15 [.int .i64 0, .int .i64 0, .int .i64 0, .slice none 0 0, .bool false, .slice none 0 0] _ rfl (CellsAt.sub HG.out 15 rfl) Tryz.underlying29 rfl (by kernel_rfl) ?_))
      refine (noSubmission_z w2).mono ?_
      rintro e w3 ⟨rfl, hk3⟩
      have HG := Lib.hid (HG.out.kept hk3 (fun h => h))
      have HK := Lib.hid (HK.out.then0 hk3)
      clear hk3
      go_wp2_with (first | (refine wpList_load_rowW rfl 36 (.tmp 1) rfl w.heap.size rfl 36 (verdC d x a k) (0, 0) _ HG.out Tryz.underlying36 rfl HSZ.out ?_))
      refine (validVerdict_any d x a k w3 (ha.kept0 HK.out) (hkr.kept0 HK.out)).mono ?_
      rintro e w4 ⟨rfl, hk4⟩
      have HG := Lib.hid (HG.out.kept hk4 (fun h => h))
      have HK := Lib.hid (HK.out.then0 hk4)
      clear hk4
      obtain ⟨bh, hbh⟩ : ∃ bh, bh = verdB d x := ⟨_, rfl⟩
      have hx : RetBool (wB d 1 8 && verdB d x) w (.returned (.bool bh)) w4 := ⟨by rw [HWB.out, hbh]; rfl, HK.out⟩
      have HX := Lib.hid hx
      rw [← hbh]
      clear hx hbh
      go_wp2
      go_ret
      exact HX.out

end Go.Proofs.YtffdaohmalmkfaaGreat
