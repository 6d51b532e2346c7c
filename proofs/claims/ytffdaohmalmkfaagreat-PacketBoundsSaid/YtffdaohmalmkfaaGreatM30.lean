/-
  Contracts and plain laws that the claim's theorem rests on, some texts in one file.
-/
import Derived.Test.YtffdaohmalmkfaaGreatM29
/-
  Packet's reference: the bytes of a sync message. (Printed by gen_pakrf.py.)
-/
namespace Go.Proofs.YtffdaohmalmkfaaGreat
open Go.RowKit
set_option linter.unusedVariables false

theorem xsubs_to {m : List UInt8} {base B : Nat} {b u : Value} {l : List UInt8} {xs : List Sub} {w : World} (hm : m = l ++ encSubs xs) (h : OwnB w base 5 b l) (hu : SubsIn w B u xs) (hf : ∀ x ∈ xs, fitQ 1 x.q = true) (hB : B ≤ base) (hbw : base ≤ w.heap.size) (hl : l.length + (encSubs xs).length ≤ 600000000000) :
    Calls Tryz.prog 48 #[b, u] w (AppOk base b m w) := by subst hm; exact xsubs_any base B b u l xs w h hu hf hB hbw hl

def syncL (d : Int) (x : Syn) (a b : Value) : List Value := (syncC d x a b).toList

set_option maxRecDepth 100000 in
set_option maxHeartbeats 8000000 in
theorem xbytes_sync (d : Int) (x : Syn) (a b : Value) (w : World) (ha : SubsIn w w.heap.size a x.wanted) (hb : SubsIn w w.heap.size b x.held) (hfa : ∀ y ∈ x.wanted, fitQ 1 y.q = true) (hfb : ∀ y ∈ x.held, fitQ 1 y.q = true)
    (hla : (encSubs x.wanted).length ≤ 200000000000) (hlb : (encSubs x.held).length ≤ 200000000000) (h0 : I64 d) (h1 : I64 x.round) (h2 : I64 x.version) (h3 : I64 x.budget) (h4 : I64 x.cut) :
    Calls Tryz.prog 44 #[.agg (syncC d x a b)] w (AppOk w.heap.size (.slice none 0 0) (encSync d x) w) := by
  have HA := Lib.hid ha
  have HB := Lib.hid hb
  have HFA := Lib.hid hfa
  have HFB := Lib.hid hfb
  have H0 := Lib.hid h0
  have H1 := Lib.hid h1
  have H2 := Lib.hid h2
  have H3 := Lib.hid h3
  have H4 := Lib.hid h4
  have i0 := (inum_length 1).2
  have i1 := (inum_length d).2
  have i2 := (inum_length x.round).2
  have i3 := (inum_length x.version).2
  have i4 := (inum_length x.budget).2
  have i5 := (inum_length x.cut).2
  obtain ⟨aA, an, ac, rfl⟩ : ∃ A n c, a = .slice A n c := by obtain ⟨A, c, h, -⟩ := ha; exact ⟨_, _, _, h⟩
  obtain ⟨bA, bn, bc, rfl⟩ : ∃ A n c, b = .slice A n c := by obtain ⟨A, c, h, -⟩ := hb; exact ⟨_, _, _, h⟩
  obtain ⟨wA, hA⟩ : ∃ wA, wA = w.alloc (.cells (syncL d x (.slice aA an ac) (.slice bA bn bc)).toArray 36) := ⟨_, rfl⟩
  have hkA : Kept Kno w wA := by rw [hA]; exact (Kept.refl _ _).alloc _
  have hn : OwnB w w.heap.size 5 (.slice none 0 0) [] := World.ownsRow_nil _ _ _ _
  have HNIL := Lib.hid hn
  have HG0 : Hid (GdB wA (.slice none 0 0) w.heap.size 36 (syncL d x (.slice aA an ac) (.slice bA bn bc)).toArray) := Lib.hid (by rw [hA]; exact GdB.new hn _ _)
  have HO0 : Hid (OwnB wA w.heap.size 5 (.slice none 0 0) []) := Lib.hid (own_kept hn hkA (fun _ _ h => h))
  have HR0 : Hid (BStep (.slice none 0 0) w (.slice none 0 0) wA) := Lib.hid (.new hkA)
  have hb0 : w.heap.size ≤ wA.heap.size := hkA.size
  obtain ⟨M1, hM1⟩ : ∃ m, m = ([] : List UInt8) ++ inum 1 := ⟨_, rfl⟩
  have HM1 := Lib.hid hM1
  have HN1 : Hid (M1.length = ([] : List UInt8).length + (inum 1).length) := Lib.hid (by rw [hM1, List.length_append])
  clear hM1
  obtain ⟨M2, hM2⟩ : ∃ m, m = M1 ++ inum d := ⟨_, rfl⟩
  have HM2 := Lib.hid hM2
  have HN2 : Hid (M2.length = M1.length + (inum d).length) := Lib.hid (by rw [hM2, List.length_append])
  clear hM2
  obtain ⟨M3, hM3⟩ : ∃ m, m = M2 ++ inum x.round := ⟨_, rfl⟩
  have HM3 := Lib.hid hM3
  have HN3 : Hid (M3.length = M2.length + (inum x.round).length) := Lib.hid (by rw [hM3, List.length_append])
  clear hM3
  obtain ⟨M4, hM4⟩ : ∃ m, m = M3 ++ inum x.version := ⟨_, rfl⟩
  have HM4 := Lib.hid hM4
  have HN4 : Hid (M4.length = M3.length + (inum x.version).length) := Lib.hid (by rw [hM4, List.length_append])
  clear hM4
  obtain ⟨M5, hM5⟩ : ∃ m, m = M4 ++ inum x.budget := ⟨_, rfl⟩
  have HM5 := Lib.hid hM5
  have HN5 : Hid (M5.length = M4.length + (inum x.budget).length) := Lib.hid (by rw [hM5, List.length_append])
  clear hM5
  obtain ⟨M6, hM6⟩ : ∃ m, m = M5 ++ encSubs x.wanted := ⟨_, rfl⟩
  have HM6 := Lib.hid hM6
  have HN6 : Hid (M6.length = M5.length + (encSubs x.wanted).length) := Lib.hid (by rw [hM6, List.length_append])
  clear hM6
  obtain ⟨M7, hM7⟩ : ∃ m, m = M6 ++ inum x.cut := ⟨_, rfl⟩
  have HM7 := Lib.hid hM7
  have HN7 : Hid (M7.length = M6.length + (inum x.cut).length) := Lib.hid (by rw [hM7, List.length_append])
  clear hM7
  obtain ⟨M8, hM8⟩ : ∃ m, m = M7 ++ encSubs x.held := ⟨_, rfl⟩
  have HM8 := Lib.hid hM8
  have HN8 : Hid (M8.length = M7.length + (encSubs x.held).length) := Lib.hid (by rw [hM8, List.length_append])
  clear hM8
  have HLL : Hid (M1.length ≤ 11 ∧ M2.length ≤ 22 ∧ M3.length ≤ 33 ∧ M4.length ≤ 44 ∧ M5.length ≤ 55 ∧ M6.length + (encSubs x.held).length ≤ 500000000000 ∧ M7.length + (encSubs x.held).length ≤ 500000000000 ∧ M5.length + (encSubs x.wanted).length ≤ 600000000000) := Lib.hid (by have := HN1.out; have := HN2.out; have := HN3.out; have := HN4.out; have := HN5.out; have := HN6.out; have := HN7.out; simp only [List.length_nil] at *; omega)
  have HAe := Lib.hid hA
  clear ha hb hfa hfb h0 h1 h2 h3 h4 hA hkA hn
  go_enter Tryz.func44, Tryz.ntmps44
  go_upto_region 1 with (fail)
  rw [show w.alloc (.cells (syncC d x (.slice aA an ac) (.slice bA bn bc)) 36) = wA from HAe.out.symm]
  refine wp_region_held_drew (S := fun w' => CellsAt w' w.heap.size 0 (syncL d x (.slice aA an ac) (.slice bA bn bc))) (by kernel_rfl) (CellsAt.blk HG0.out.b) (fun hHeld => ?_)
  refine wpAnyH_take (i := 0) (v := .pointer (some ⟨w.heap.size, 0, none⟩)) rfl (by kernel_rfl) (by kernel_rfl) (by kernel_rfl) (fun _ _ _ h => h) (Or.inl ⟨by rfl, fun w1 hw => by go_simp⟩) (by assumption) ?_
  (try simp only [Act.put, List.setIfInBounds_toArray, List.set_cons_zero, List.set_cons_succ])
  refine wpAnyH_take (i := 1) (v := .int .i64 1) rfl (by kernel_rfl) (by kernel_rfl) (by kernel_rfl) (fun _ _ _ h => h) (Or.inl ⟨by rfl, fun w1 hw => by have c0 : w1.cell? ⟨w.heap.size, 0, none⟩ = some (.int .i64 1) := hw 0 _ rfl; clear hw; go_simp⟩) (by assumption) ?_
  (try simp only [Act.put, List.setIfInBounds_toArray, List.set_cons_zero, List.set_cons_succ])
  refine wpAnyH_take (i := 3) (v := .pointer (some ⟨w.heap.size, 1, none⟩)) rfl (by kernel_rfl) (by kernel_rfl) (by kernel_rfl) (fun _ _ _ h => h) (Or.inl ⟨by rfl, fun w1 hw => by go_simp⟩) (by assumption) ?_
  (try simp only [Act.put, List.setIfInBounds_toArray, List.set_cons_zero, List.set_cons_succ])
  refine wpAnyH_take (i := 4) (v := .int .i64 d) rfl (by kernel_rfl) (by kernel_rfl) (by kernel_rfl) (fun _ _ _ h => h) (Or.inl ⟨by rfl, fun w1 hw => by have c0 : w1.cell? ⟨w.heap.size, 1, none⟩ = some (.int .i64 d) := hw 1 _ rfl; clear hw; go_simp⟩) (by assumption) ?_
  (try simp only [Act.put, List.setIfInBounds_toArray, List.set_cons_zero, List.set_cons_succ])
  refine wpAnyH_ready (rs := [2]) (by kernel_rfl) (by simp) ?_
  refine AllReadyH.cons rfl (fun K hK => ?_) AllReadyH.nil
  go_simp
  go_at_call 102
  refine (xnumber_to (w := wA.drew) HM1.out HO0.out (by unfold I64; decide) (by simp) hb0).mono ?_
  rintro e x1 ⟨A1, cap1, rfl, ho1, hs1⟩
  have hq1 : BStep (.slice none 0 0) wA (.slice A1 M1.length cap1) x1 := (BStep.new ((Kept.refl _ _).drew)).trans hs1
  have HR1 := Lib.hid (HR0.out.trans hq1)
  have HG1 := Lib.hid (HG0.out.step hq1)
  have HO1 := Lib.hid ho1
  have hb1 : w.heap.size ≤ x1.heap.size := Nat.le_trans hb0 hq1.k.size
  clear hs1 hq1 ho1
  go_wp2_with fail
  refine hK.out _ _ ?_ (fun hHeld => ?_)
  · exact CellsAt.blk HG1.out.b
  clear hK K
  (try simp only [Act.put, List.setIfInBounds_toArray, List.set_cons_zero, List.set_cons_succ])
  refine wpAnyH_ready (rs := [5]) (by kernel_rfl) (by simp) ?_
  refine AllReadyH.cons rfl (fun K hK => ?_) AllReadyH.nil
  go_simp
  go_at_call 102
  refine (xnumber_to HM2.out HO1.out H0.out (by have := HLL.out; omega) hb1).mono ?_
  rintro e x2 ⟨A2, cap2, rfl, ho2, hs2⟩
  have hq2 := hs2
  have HR2 := Lib.hid (HR1.out.trans hq2)
  have HG2 := Lib.hid (HG1.out.step hq2)
  have HO2 := Lib.hid ho2
  have hb2 : w.heap.size ≤ x2.heap.size := Nat.le_trans hb1 hq2.k.size
  clear hs2 hq2 ho2
  go_wp2_with fail
  refine hK.out _ _ ?_ (fun hHeld => ?_)
  · exact CellsAt.blk HG2.out.b
  clear hK K
  (try simp only [Act.put, List.setIfInBounds_toArray, List.set_cons_zero, List.set_cons_succ])
  refine wpAnyH_ready (rs := [6]) (by kernel_rfl) (by simp) ?_
  refine AllReadyH.cons rfl (fun K hK => ?_) AllReadyH.nil
  go_simp
  refine hK.out _ _ ?_ (fun hHeld => ?_)
  · exact CellsAt.blk HG2.out.b
  clear hK K
  refine wpAnyH_done (by kernel_rfl) ?_ _
  clear hHeld
  have c0 : x2.cell? ⟨w.heap.size, 0, none⟩ = some (.int .i64 1) := HG2.out.b.cell 0
  go_wp2_with fail
  refine wp_region_held_drew (S := fun w' => CellsAt w' w.heap.size 0 (syncL d x (.slice aA an ac) (.slice bA bn bc))) (by kernel_rfl) (CellsAt.blk HG2.out.b) (fun hHeld => ?_)
  refine wpAnyH_take (i := 0) (v := .slice A2 M2.length cap2) rfl (by kernel_rfl) (by kernel_rfl) (by kernel_rfl) (fun _ _ _ h => h) (Or.inl ⟨by rfl, fun w1 hw => by go_simp⟩) (by assumption) ?_
  (try simp only [Act.put, List.setIfInBounds_toArray, List.set_cons_zero, List.set_cons_succ])
  refine wpAnyH_take (i := 1) (v := .pointer (some ⟨w.heap.size, 2, none⟩)) rfl (by kernel_rfl) (by kernel_rfl) (by kernel_rfl) (fun _ _ _ h => h) (Or.inl ⟨by rfl, fun w1 hw => by go_simp⟩) (by assumption) ?_
  (try simp only [Act.put, List.setIfInBounds_toArray, List.set_cons_zero, List.set_cons_succ])
  refine wpAnyH_take (i := 2) (v := .int .i64 x.round) rfl (by kernel_rfl) (by kernel_rfl) (by kernel_rfl) (fun _ _ _ h => h) (Or.inl ⟨by rfl, fun w1 hw => by have c0 : w1.cell? ⟨w.heap.size, 2, none⟩ = some (.int .i64 x.round) := hw 2 _ rfl; clear hw; go_simp⟩) (by assumption) ?_
  (try simp only [Act.put, List.setIfInBounds_toArray, List.set_cons_zero, List.set_cons_succ])
  refine wpAnyH_take (i := 4) (v := .pointer (some ⟨w.heap.size, 3, none⟩)) rfl (by kernel_rfl) (by kernel_rfl) (by kernel_rfl) (fun _ _ _ h => h) (Or.inl ⟨by rfl, fun w1 hw => by go_simp⟩) (by assumption) ?_
  (try simp only [Act.put, List.setIfInBounds_toArray, List.set_cons_zero, List.set_cons_succ])
  refine wpAnyH_take (i := 5) (v := .int .i64 x.version) rfl (by kernel_rfl) (by kernel_rfl) (by kernel_rfl) (fun _ _ _ h => h) (Or.inl ⟨by rfl, fun w1 hw => by have c0 : w1.cell? ⟨w.heap.size, 3, none⟩ = some (.int .i64 x.version) := hw 3 _ rfl; clear hw; go_simp⟩) (by assumption) ?_
  (try simp only [Act.put, List.setIfInBounds_toArray, List.set_cons_zero, List.set_cons_succ])
  refine wpAnyH_take (i := 7) (v := .pointer (some ⟨w.heap.size, 4, none⟩)) rfl (by kernel_rfl) (by kernel_rfl) (by kernel_rfl) (fun _ _ _ h => h) (Or.inl ⟨by rfl, fun w1 hw => by go_simp⟩) (by assumption) ?_
  (try simp only [Act.put, List.setIfInBounds_toArray, List.set_cons_zero, List.set_cons_succ])
  refine wpAnyH_take (i := 8) (v := .int .i64 x.budget) rfl (by kernel_rfl) (by kernel_rfl) (by kernel_rfl) (fun _ _ _ h => h) (Or.inl ⟨by rfl, fun w1 hw => by have c0 : w1.cell? ⟨w.heap.size, 4, none⟩ = some (.int .i64 x.budget) := hw 4 _ rfl; clear hw; go_simp⟩) (by assumption) ?_
  (try simp only [Act.put, List.setIfInBounds_toArray, List.set_cons_zero, List.set_cons_succ])
  refine wpAnyH_ready (rs := [3]) (by kernel_rfl) (by simp) ?_
  refine AllReadyH.cons rfl (fun K hK => ?_) AllReadyH.nil
  go_simp
  go_at_call 102
  refine (xnumber_to (w := x2.drew) HM3.out HO2.out H1.out (by have := HLL.out; omega) hb2).mono ?_
  rintro e x3 ⟨A3, cap3, rfl, ho3, hs3⟩
  have hq3 : BStep (.slice A2 M2.length cap2) x2 (.slice A3 M3.length cap3) x3 := (BStep.new ((Kept.refl _ _).drew)).trans hs3
  have HR3 := Lib.hid (HR2.out.trans hq3)
  have HG3 := Lib.hid (HG2.out.step hq3)
  have HO3 := Lib.hid ho3
  have hb3 : w.heap.size ≤ x3.heap.size := Nat.le_trans hb2 hq3.k.size
  clear hs3 hq3 ho3
  go_wp2_with fail
  refine hK.out _ _ ?_ (fun hHeld => ?_)
  · exact CellsAt.blk HG3.out.b
  clear hK K
  (try simp only [Act.put, List.setIfInBounds_toArray, List.set_cons_zero, List.set_cons_succ])
  refine wpAnyH_ready (rs := [6]) (by kernel_rfl) (by simp) ?_
  refine AllReadyH.cons rfl (fun K hK => ?_) AllReadyH.nil
  go_simp
  go_at_call 102
  refine (xnumber_to HM4.out HO3.out H2.out (by have := HLL.out; omega) hb3).mono ?_
  rintro e x4 ⟨A4, cap4, rfl, ho4, hs4⟩
  have hq4 := hs4
  have HR4 := Lib.hid (HR3.out.trans hq4)
  have HG4 := Lib.hid (HG3.out.step hq4)
  have HO4 := Lib.hid ho4
  have hb4 : w.heap.size ≤ x4.heap.size := Nat.le_trans hb3 hq4.k.size
  clear hs4 hq4 ho4
  go_wp2_with fail
  refine hK.out _ _ ?_ (fun hHeld => ?_)
  · exact CellsAt.blk HG4.out.b
  clear hK K
  (try simp only [Act.put, List.setIfInBounds_toArray, List.set_cons_zero, List.set_cons_succ])
  refine wpAnyH_ready (rs := [9]) (by kernel_rfl) (by simp) ?_
  refine AllReadyH.cons rfl (fun K hK => ?_) AllReadyH.nil
  go_simp
  go_at_call 102
  refine (xnumber_to HM5.out HO4.out H3.out (by have := HLL.out; omega) hb4).mono ?_
  rintro e x5 ⟨A5, cap5, rfl, ho5, hs5⟩
  have hq5 := hs5
  have HR5 := Lib.hid (HR4.out.trans hq5)
  have HG5 := Lib.hid (HG4.out.step hq5)
  have HO5 := Lib.hid ho5
  have hb5 : w.heap.size ≤ x5.heap.size := Nat.le_trans hb4 hq5.k.size
  clear hs5 hq5 ho5
  go_wp2_with fail
  refine hK.out _ _ ?_ (fun hHeld => ?_)
  · exact CellsAt.blk HG5.out.b
  clear hK K
  (try simp only [Act.put, List.setIfInBounds_toArray, List.set_cons_zero, List.set_cons_succ])
  refine wpAnyH_ready (rs := [10]) (by kernel_rfl) (by simp) ?_
  refine AllReadyH.cons rfl (fun K hK => ?_) AllReadyH.nil
  go_simp
  refine hK.out _ _ ?_ (fun hHeld => ?_)
  · exact CellsAt.blk HG5.out.b
  clear hK K
  refine wpAnyH_done (by kernel_rfl) ?_ _
  clear hHeld
  go_wp2_with fail
  refine wp_region_held_drew (S := fun w' => CellsAt w' w.heap.size 0 (syncL d x (.slice aA an ac) (.slice bA bn bc))) (by kernel_rfl) (CellsAt.blk HG5.out.b) (fun hHeld => ?_)
  refine wpAnyH_take (i := 0) (v := .slice A5 M5.length cap5) rfl (by kernel_rfl) (by kernel_rfl) (by kernel_rfl) (fun _ _ _ h => h) (Or.inl ⟨by rfl, fun w1 hw => by go_simp⟩) (by assumption) ?_
  (try simp only [Act.put, List.setIfInBounds_toArray, List.set_cons_zero, List.set_cons_succ])
  refine wpAnyH_take (i := 1) (v := .pointer (some ⟨w.heap.size, 5, none⟩)) rfl (by kernel_rfl) (by kernel_rfl) (by kernel_rfl) (fun _ _ _ h => h) (Or.inl ⟨by rfl, fun w1 hw => by go_simp⟩) (by assumption) ?_
  (try simp only [Act.put, List.setIfInBounds_toArray, List.set_cons_zero, List.set_cons_succ])
  refine wpAnyH_take (i := 2) (v := .slice aA an ac) rfl (by kernel_rfl) (by kernel_rfl) (by kernel_rfl) (fun _ _ _ h => h) (Or.inl ⟨by rfl, fun w1 hw => by have c0 : w1.cell? ⟨w.heap.size, 5, none⟩ = some (.slice aA an ac) := hw 5 _ rfl; clear hw; go_simp⟩) (by assumption) ?_
  (try simp only [Act.put, List.setIfInBounds_toArray, List.set_cons_zero, List.set_cons_succ])
  refine wpAnyH_take (i := 4) (v := .pointer (some ⟨w.heap.size, 6, none⟩)) rfl (by kernel_rfl) (by kernel_rfl) (by kernel_rfl) (fun _ _ _ h => h) (Or.inl ⟨by rfl, fun w1 hw => by go_simp⟩) (by assumption) ?_
  (try simp only [Act.put, List.setIfInBounds_toArray, List.set_cons_zero, List.set_cons_succ])
  refine wpAnyH_take (i := 5) (v := .int .i64 x.cut) rfl (by kernel_rfl) (by kernel_rfl) (by kernel_rfl) (fun _ _ _ h => h) (Or.inl ⟨by rfl, fun w1 hw => by have c0 : w1.cell? ⟨w.heap.size, 6, none⟩ = some (.int .i64 x.cut) := hw 6 _ rfl; clear hw; go_simp⟩) (by assumption) ?_
  (try simp only [Act.put, List.setIfInBounds_toArray, List.set_cons_zero, List.set_cons_succ])
  refine wpAnyH_take (i := 7) (v := .pointer (some ⟨w.heap.size, 7, none⟩)) rfl (by kernel_rfl) (by kernel_rfl) (by kernel_rfl) (fun _ _ _ h => h) (Or.inl ⟨by rfl, fun w1 hw => by go_simp⟩) (by assumption) ?_
  (try simp only [Act.put, List.setIfInBounds_toArray, List.set_cons_zero, List.set_cons_succ])
  refine wpAnyH_take (i := 8) (v := .slice bA bn bc) rfl (by kernel_rfl) (by kernel_rfl) (by kernel_rfl) (fun _ _ _ h => h) (Or.inl ⟨by rfl, fun w1 hw => by have c0 : w1.cell? ⟨w.heap.size, 7, none⟩ = some (.slice bA bn bc) := hw 7 _ rfl; clear hw; go_simp⟩) (by assumption) ?_
  (try simp only [Act.put, List.setIfInBounds_toArray, List.set_cons_zero, List.set_cons_succ])
  refine wpAnyH_ready (rs := [3]) (by kernel_rfl) (by simp) ?_
  refine AllReadyH.cons rfl (fun K hK => ?_) AllReadyH.nil
  go_simp
  go_at_call 48
  refine (xsubs_to (w := x5.drew) HM6.out HO5.out (HA.out.old (HR5.out.old HNIL.out (Nat.le_refl _)) (Nat.le_refl _)) HFA.out (Nat.le_refl _) hb5 (by have := HLL.out; omega)).mono ?_
  rintro e x6 ⟨A6, cap6, rfl, ho6, hs6⟩
  have hq6 : BStep (.slice A5 M5.length cap5) x5 (.slice A6 M6.length cap6) x6 := (BStep.new ((Kept.refl _ _).drew)).trans hs6
  have HR6 := Lib.hid (HR5.out.trans hq6)
  have HG6 := Lib.hid (HG5.out.step hq6)
  have HO6 := Lib.hid ho6
  have hb6 : w.heap.size ≤ x6.heap.size := Nat.le_trans hb5 hq6.k.size
  clear hs6 hq6 ho6
  go_wp2_with fail
  refine hK.out _ _ ?_ (fun hHeld => ?_)
  · exact CellsAt.blk HG6.out.b
  clear hK K
  (try simp only [Act.put, List.setIfInBounds_toArray, List.set_cons_zero, List.set_cons_succ])
  refine wpAnyH_ready (rs := [6]) (by kernel_rfl) (by simp) ?_
  refine AllReadyH.cons rfl (fun K hK => ?_) AllReadyH.nil
  go_simp
  go_at_call 102
  refine (xnumber_to HM7.out HO6.out H4.out (by have := HLL.out; omega) hb6).mono ?_
  rintro e x7 ⟨A7, cap7, rfl, ho7, hs7⟩
  have hq7 := hs7
  have HR7 := Lib.hid (HR6.out.trans hq7)
  have HG7 := Lib.hid (HG6.out.step hq7)
  have HO7 := Lib.hid ho7
  have hb7 : w.heap.size ≤ x7.heap.size := Nat.le_trans hb6 hq7.k.size
  clear hs7 hq7 ho7
  go_wp2_with fail
  refine hK.out _ _ ?_ (fun hHeld => ?_)
  · exact CellsAt.blk HG7.out.b
  clear hK K
  (try simp only [Act.put, List.setIfInBounds_toArray, List.set_cons_zero, List.set_cons_succ])
  refine wpAnyH_ready (rs := [9]) (by kernel_rfl) (by simp) ?_
  refine AllReadyH.cons rfl (fun K hK => ?_) AllReadyH.nil
  go_simp
  go_at_call 48
  refine (xsubs_to HM8.out HO7.out (HB.out.old (HR7.out.old HNIL.out (Nat.le_refl _)) (Nat.le_refl _)) HFB.out (Nat.le_refl _) hb7 (by have := HLL.out; omega)).mono ?_
  rintro e x8 ⟨A8, cap8, rfl, ho8, hs8⟩
  have hq8 := hs8
  have HR8 := Lib.hid (HR7.out.trans hq8)
  have HG8 := Lib.hid (HG7.out.step hq8)
  have HO8 := Lib.hid ho8
  have hb8 : w.heap.size ≤ x8.heap.size := Nat.le_trans hb7 hq8.k.size
  clear hs8 hq8 ho8
  go_wp2_with fail
  refine hK.out _ _ ?_ (fun hHeld => ?_)
  · exact CellsAt.blk HG8.out.b
  clear hK K
  (try simp only [Act.put, List.setIfInBounds_toArray, List.set_cons_zero, List.set_cons_succ])
  refine wpAnyH_ready (rs := [10]) (by kernel_rfl) (by simp) ?_
  refine AllReadyH.cons rfl (fun K hK => ?_) AllReadyH.nil
  go_simp
  refine hK.out _ _ ?_ (fun hHeld => ?_)
  · exact CellsAt.blk HG8.out.b
  clear hK K
  refine wpAnyH_done (by kernel_rfl) ?_ _
  clear hHeld
  have he : M8 = encSync d x := by rw [HM8.out, HM7.out, HM6.out, HM5.out, HM4.out, HM3.out, HM2.out, HM1.out]; simp [encSync, syncBs]
  have hx : AppOk w.heap.size (.slice none 0 0) (encSync d x) w (.returned (.slice A8 M8.length cap8)) x8 := by rw [← he]; exact ⟨A8, cap8, rfl, HO8.out, HR8.out⟩
  have HX := Lib.hid hx
  clear hx he
  go_wp2
  go_ret
  exact HX.out

end Go.Proofs.YtffdaohmalmkfaaGreat
