/-
  Packet: head. (Printed by gen_pakme.py.)
-/
import Derived.Test.YtffdaohmalmkfaaGreatW23
import Derived.Test.YtffdaohmalmkfaaGreatW42
set_option linter.unusedSimpArgs false
set_option linter.unusedVariables false
namespace Go.Proofs.YtffdaohmalmkfaaGreat
open Go.RowKit
set_option linter.unusedVariables false

/-- The zero message. -/
def dltZ : Array Value := #[.int .i64 0, .int .i64 0, .int .i64 0, .int .i64 0, .int .i64 0, .slice none 0 0, .int .i64 0, .slice none 0 0, .int .i64 0, .int .i64 0, .slice none 0 0, .int .i64 0, .int .i64 0, .int .i64 0, .slice none 0 0, .int .i64 0, .int .i64 0, .int .i64 0, .slice none 0 0, .bool false, .slice none 0 0, .int .i64 0, .int .i64 0, .int .i64 0, .slice none 0 0, .int .i64 0, .int .i64 0, .int .i64 0, .int .i64 0, .int .i64 0, .slice none 0 0]
theorem dlt_one (x : Dl) (k e : Value) (hk : k.oneCell' = true) (he : e.oneCell' = true) : (dltC x k e).all (·.oneCell') = true := by
  unfold dltC
  simp [hk, he]
  simp [Value.oneCell']
def HeadOk (x : Dl) (ev : Value) (w : World) (e : Ending) (w' : World) : Prop :=
  ∃ A cap, e = .returned (.agg (dltC x (.slice A x.kept.length cap) ev)) ∧ w'.ownsRow w.heap.size 3 1 (.slice A x.kept.length cap) x.kept.length (x.kept.map iv) ∧ Kept Kno w w'

set_option maxRecDepth 100000 in
set_option maxHeartbeats 4000000 in
theorem head_any (x : Dl) (B : Nat) (k e : Value) (vA : Option Addr) (vn vc : Nat) (p n : Int) (w : World) (hk : IIn w B k x.kept) (hB : B ≤ w.heap.size) (hl : x.kept.length ≤ 1000) :
    Calls Tryz.prog 54 #[.agg (dltC x k e), .int .i64 p, .int .i64 n, .slice vA vn vc] w (HeadOk { x with part := p, parts := n } (.slice vA vn vc) w) := by
  obtain ⟨i2, hi2, z20, z21, z22⟩ := info_parts info_into
  obtain ⟨dev, rnd, frm, too, kept, dec, prt, pts, eds⟩ := x
  simp only at hk hl ⊢
  obtain ⟨kA, kc, rfl⟩ := IIn.form hk
  have HIK := Lib.hid hk
  have m1 : 0 + kept.length ≤ maxLen := by simp only [maxLen]; omega
  clear hk
  go_enter Tryz.func54, Tryz.ntmps54
  go_upto_region 1 with (fail)
  obtain ⟨w0, h0⟩ : ∃ w0, (w.alloc (.cells (dltC ⟨dev, rnd, frm, too, kept, dec, prt, pts, eds⟩ (.slice kA kept.length kc) e) 36)).alloc (.cells dltZ 36) = w0 := ⟨_, rfl⟩
  have HK := Lib.hid (show Kept Kno w w0 by rw [← h0]; exact ((Kept.refl _ _).alloc _).alloc _)
  have HG := Lib.hid (show Blk w0 w.heap.size 36 (dltC ⟨dev, rnd, frm, too, kept, dec, prt, pts, eds⟩ (.slice kA kept.length kc) e) by rw [← h0]; exact (Blk.new _ _ _).alloc _)
  have HH := Lib.hid (show Blk w0 (w.heap.size + 1) 36 dltZ by rw [← h0]; have := Blk.new (w.alloc (.cells (dltC ⟨dev, rnd, frm, too, kept, dec, prt, pts, eds⟩ (.slice kA kept.length kc) e) 36)) 36 dltZ; simpa using this)
  have HRD := Lib.hid (show Rd w0 1 (.slice kA kept.length kc) kept.length (kept.map iv) from (SlIn.rd HIK.out).kept0 HK.out)
  have h0' := h0
  unfold dltZ at h0'
  rw [h0']
  clear h0 h0'
  obtain ⟨Z, hZ⟩ : ∃ n, w.heap.size = n := ⟨_, rfl⟩
  obtain ⟨Y, hY⟩ : ∃ n, Z + 1 = n := ⟨_, rfl⟩
  have hZw : Z ≤ w.heap.size := by omega
  have hYw : w.heap.size ≤ Y := by omega
  have hZY : Z < Y := by omega
  rw [hZ] at HG HH ⊢
  rw [hY] at HH ⊢
  clear hZ hY
  refine wp_region_held_drew (S := fun w' => Blk w' Z 36 (dltC ⟨dev, rnd, frm, too, kept, dec, prt, pts, eds⟩ (.slice kA kept.length kc) e)) (by kernel_rfl) HG.out.drew (fun hHeld => ?_)
  refine wpAnyH_takeE (i := 0) (v := .pointer (some ⟨Z, 0, none⟩)) rfl rfl (by kernel_rfl) (by kernel_rfl) (by kernel_rfl) (fun _ _ _ h => h) (Or.inl ⟨by rfl, fun w1 hw => by go_simp⟩) (by assumption) ?_
  (try simp only [Act.put, List.setIfInBounds_toArray, List.set_cons_zero, List.set_cons_succ])
  refine wpAnyH_takeE (i := 1) (v := .int .i64 2) rfl rfl (by kernel_rfl) (by kernel_rfl) (by kernel_rfl) (fun _ _ _ h => h) (Or.inl ⟨by rfl, fun w1 hw => by have c1 : w1.cell? ⟨Z, 0, none⟩ = some (.int .i64 2) := hw.cell 0; clear hw; go_simp⟩) (by assumption) ?_
  (try simp only [Act.put, List.setIfInBounds_toArray, List.set_cons_zero, List.set_cons_succ])
  refine wpAnyH_takeE (i := 2) (v := .pointer (some ⟨Z, 1, none⟩)) rfl rfl (by kernel_rfl) (by kernel_rfl) (by kernel_rfl) (fun _ _ _ h => h) (Or.inl ⟨by rfl, fun w1 hw => by go_simp⟩) (by assumption) ?_
  (try simp only [Act.put, List.setIfInBounds_toArray, List.set_cons_zero, List.set_cons_succ])
  refine wpAnyH_takeE (i := 3) (v := .int .i64 dev) rfl rfl (by kernel_rfl) (by kernel_rfl) (by kernel_rfl) (fun _ _ _ h => h) (Or.inl ⟨by rfl, fun w1 hw => by have c1 : w1.cell? ⟨Z, 1, none⟩ = some (.int .i64 dev) := hw.cell 1; clear hw; go_simp⟩) (by assumption) ?_
  (try simp only [Act.put, List.setIfInBounds_toArray, List.set_cons_zero, List.set_cons_succ])
  refine wpAnyH_takeE (i := 4) (v := .pointer (some ⟨Z, 2, none⟩)) rfl rfl (by kernel_rfl) (by kernel_rfl) (by kernel_rfl) (fun _ _ _ h => h) (Or.inl ⟨by rfl, fun w1 hw => by go_simp⟩) (by assumption) ?_
  (try simp only [Act.put, List.setIfInBounds_toArray, List.set_cons_zero, List.set_cons_succ])
  refine wpAnyH_takeE (i := 5) (v := .int .i64 rnd) rfl rfl (by kernel_rfl) (by kernel_rfl) (by kernel_rfl) (fun _ _ _ h => h) (Or.inl ⟨by rfl, fun w1 hw => by have c1 : w1.cell? ⟨Z, 2, none⟩ = some (.int .i64 rnd) := hw.cell 2; clear hw; go_simp⟩) (by assumption) ?_
  (try simp only [Act.put, List.setIfInBounds_toArray, List.set_cons_zero, List.set_cons_succ])
  refine wpAnyH_takeE (i := 6) (v := .pointer (some ⟨Z, 8, none⟩)) rfl rfl (by kernel_rfl) (by kernel_rfl) (by kernel_rfl) (fun _ _ _ h => h) (Or.inl ⟨by rfl, fun w1 hw => by go_simp⟩) (by assumption) ?_
  (try simp only [Act.put, List.setIfInBounds_toArray, List.set_cons_zero, List.set_cons_succ])
  refine wpAnyH_takeE (i := 7) (v := .int .i64 frm) rfl rfl (by kernel_rfl) (by kernel_rfl) (by kernel_rfl) (fun _ _ _ h => h) (Or.inl ⟨by rfl, fun w1 hw => by have c1 : w1.cell? ⟨Z, 8, none⟩ = some (.int .i64 frm) := hw.cell 8; clear hw; go_simp⟩) (by assumption) ?_
  (try simp only [Act.put, List.setIfInBounds_toArray, List.set_cons_zero, List.set_cons_succ])
  refine wpAnyH_takeE (i := 8) (v := .pointer (some ⟨Z, 9, none⟩)) rfl rfl (by kernel_rfl) (by kernel_rfl) (by kernel_rfl) (fun _ _ _ h => h) (Or.inl ⟨by rfl, fun w1 hw => by go_simp⟩) (by assumption) ?_
  (try simp only [Act.put, List.setIfInBounds_toArray, List.set_cons_zero, List.set_cons_succ])
  refine wpAnyH_takeE (i := 9) (v := .int .i64 too) rfl rfl (by kernel_rfl) (by kernel_rfl) (by kernel_rfl) (fun _ _ _ h => h) (Or.inl ⟨by rfl, fun w1 hw => by have c1 : w1.cell? ⟨Z, 9, none⟩ = some (.int .i64 too) := hw.cell 9; clear hw; go_simp⟩) (by assumption) ?_
  (try simp only [Act.put, List.setIfInBounds_toArray, List.set_cons_zero, List.set_cons_succ])
  refine wpAnyH_takeE (i := 10) (v := .pointer (some ⟨Z, 10, none⟩)) rfl rfl (by kernel_rfl) (by kernel_rfl) (by kernel_rfl) (fun _ _ _ h => h) (Or.inl ⟨by rfl, fun w1 hw => by go_simp⟩) (by assumption) ?_
  (try simp only [Act.put, List.setIfInBounds_toArray, List.set_cons_zero, List.set_cons_succ])
  refine wpAnyH_takeE (i := 11) (v := .slice kA kept.length kc) rfl rfl (by kernel_rfl) (by kernel_rfl) (by kernel_rfl) (fun _ _ _ h => h) (Or.inl ⟨by rfl, fun w1 hw => by have c1 : w1.cell? ⟨Z, 10, none⟩ = some (.slice kA kept.length kc) := hw.cell 10; clear hw; go_simp⟩) (by assumption) ?_
  (try simp only [Act.put, List.setIfInBounds_toArray, List.set_cons_zero, List.set_cons_succ])
  refine wpAnyH_takeE (i := 13) (v := .pointer (some ⟨Z, 11, none⟩)) rfl rfl (by kernel_rfl) (by kernel_rfl) (by kernel_rfl) (fun _ _ _ h => h) (Or.inl ⟨by rfl, fun w1 hw => by go_simp⟩) (by assumption) ?_
  (try simp only [Act.put, List.setIfInBounds_toArray, List.set_cons_zero, List.set_cons_succ])
  refine wpAnyH_takeE (i := 14) (v := .int .i64 dec) rfl rfl (by kernel_rfl) (by kernel_rfl) (by kernel_rfl) (fun _ _ _ h => h) (Or.inl ⟨by rfl, fun w1 hw => by have c1 : w1.cell? ⟨Z, 11, none⟩ = some (.int .i64 dec) := hw.cell 11; clear hw; go_simp⟩) (by assumption) ?_
  (try simp only [Act.put, List.setIfInBounds_toArray, List.set_cons_zero, List.set_cons_succ])
  refine wpAnyH_takeE (i := 15) (v := .int .i64 p) rfl rfl (by kernel_rfl) (by kernel_rfl) (by kernel_rfl) (fun _ _ _ h => h) (Or.inl ⟨by rfl, fun w1 hw => by go_simp⟩) (by assumption) ?_
  (try simp only [Act.put, List.setIfInBounds_toArray, List.set_cons_zero, List.set_cons_succ])
  refine wpAnyH_takeE (i := 16) (v := .int .i64 n) rfl rfl (by kernel_rfl) (by kernel_rfl) (by kernel_rfl) (fun _ _ _ h => h) (Or.inl ⟨by rfl, fun w1 hw => by go_simp⟩) (by assumption) ?_
  (try simp only [Act.put, List.setIfInBounds_toArray, List.set_cons_zero, List.set_cons_succ])
  refine wpAnyH_takeE (i := 17) (v := .slice vA vn vc) rfl rfl (by kernel_rfl) (by kernel_rfl) (by kernel_rfl) (fun _ _ _ h => h) (Or.inl ⟨by rfl, fun w1 hw => by go_simp⟩) (by assumption) ?_
  (try simp only [Act.put, List.setIfInBounds_toArray, List.set_cons_zero, List.set_cons_succ])
  refine wpAnyH_ready (rs := [12]) (by kernel_rfl) (by simp) ?_
  refine AllReadyH.cons rfl (fun K' hK => ?_) (AllReadyH.nil)
  refine step_append_rd _ (by rfl) _ _ 24 (by rfl) w.heap.size 3 i2 _ 1 8 Tryz.underlying24 hi2 z20 z21 z22 (by rfl) (by decide) (.slice none 0 0) 0 [] (by rfl) (World.ownsRow_nil _ _ _ _) (.slice kA kept.length kc) kept.length (kept.map iv) (by rfl) HRD.out.drew (ints_one _) m1 (by omega) (by have := HK.out.drew.size; omega) ?_
  intro A2 c2 w2 hown2 hg2 hat2
  rw [Nat.zero_add] at hown2
  simp only [Nat.zero_add, List.nil_append] at hown2 ⊢
  have HK2 := Lib.hid (show Kept Kno w w2 from HK.out.drew.grown hg2 (fun k hk e => by cases e))
  have HG2 := Lib.hid (show Blk w2 Z 36 (dltC ⟨dev, rnd, frm, too, kept, dec, prt, pts, eds⟩ (.slice kA kept.length kc) e) from HG.out.drew.grown hg2 (by simp [Value.ownBlock]))
  have HH2 := Lib.hid (show Blk w2 Y 36 dltZ from HH.out.drew.grown hg2 (by simp [Value.ownBlock]))
  have HO2 := Lib.hid hown2
  clear hown2 hg2 hat2
  refine hK.out _ _ ?_ (fun hHeld => ?_)
  · exact HG2.out
  clear hK K'
  (try simp only [Act.put, List.setIfInBounds_toArray, List.set_cons_zero, List.set_cons_succ])
  refine wpAnyH_takeE (i := 18) (v := .agg (dltC ⟨dev, rnd, frm, too, kept, dec, p, n, eds⟩ (.slice A2 kept.length c2) (.slice vA vn vc))) rfl rfl (by kernel_rfl) (by kernel_rfl) (by kernel_rfl) (fun _ _ _ h => h) (Or.inl ⟨by rfl, fun w1 hw => by clear hw; simp only [dltC]; go_simp⟩) (by assumption) ?_
  (try simp only [Act.put, List.setIfInBounds_toArray, List.set_cons_zero, List.set_cons_succ])
  refine wpAnyH_ready (rs := [19]) (by kernel_rfl) (by simp) ?_
  refine AllReadyH.cons rfl (fun K' hK => ?_) (AllReadyH.nil)
  rw [if_pos (by rfl)]
  refine wp_store_row 36 (.tmp 8) (.tmp 27) rfl Y (dltC ⟨dev, rnd, frm, too, kept, dec, p, n, eds⟩ (.slice A2 kept.length c2) (.slice vA vn vc)) rfl rfl _ _ HH2.out (size_dlt _ _ _) rfl (dlt_one _ _ _ rfl rfl) ?_
  have hks : Kept (Kone Y) w2 (w2.setRow Y (dltC ⟨dev, rnd, frm, too, kept, dec, p, n, eds⟩ (.slice A2 kept.length c2) (.slice vA vn vc))) := (Kept.refl _ _).setRow (fun _ => by unfold Kone; rfl) _
  have HKF := Lib.hid (show Kept Kno w (w2.setRow Y (dltC ⟨dev, rnd, frm, too, kept, dec, p, n, eds⟩ (.slice A2 kept.length c2) (.slice vA vn vc))) from HK2.out.setRow (fun h => absurd h (by omega)) _)
  have HOF := Lib.hid (show (w2.setRow Y (dltC ⟨dev, rnd, frm, too, kept, dec, p, n, eds⟩ (.slice A2 kept.length c2) (.slice vA vn vc))).ownsRow w.heap.size 3 1 (.slice A2 kept.length c2) kept.length (kept.map iv) from own_kept HO2.out hks (fun k e h => own_blk_ne HO2.out HH2.out (by decide) (by unfold Kone at h; rw [e, h])))
  refine hK.out _ _ ?_ (fun hHeld => ?_)
  · exact HG2.out.kept hks (fun h => by unfold Kone at h; omega)
  clear hK K'
  (try simp only [Act.put, List.setIfInBounds_toArray, List.set_cons_zero, List.set_cons_succ])
  refine wpAnyH_done (by kernel_rfl) ?_ _
  clear hHeld
  go_wp2_with fail
  refine bodyPost_ret (v := .agg (dltC ⟨dev, rnd, frm, too, kept, dec, p, n, eds⟩ (.slice A2 kept.length c2) (.slice vA vn vc))) ?_ rfl ⟨A2, c2, rfl, HOF.out, HKF.out⟩
  exact results_cell_row rfl _ _ Y 36 _ (0, 0) _ rfl (HH2.out.setRow _) Tryz.underlying36 rfl (size_dlt _ _ _)

end Go.Proofs.YtffdaohmalmkfaaGreat
