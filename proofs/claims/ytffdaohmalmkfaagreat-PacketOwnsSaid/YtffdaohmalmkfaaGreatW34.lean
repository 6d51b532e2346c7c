/-
  PacketOwns: the reference's checks of schemas return: references.
-/
import Derived.Test.YtffdaohmalmkfaaGreatW33
set_option linter.unusedSimpArgs false
set_option linter.unusedVariables false
namespace Go.Proofs.YtffdaohmalmkfaaGreat
open Go.RowKit
set_option linter.unusedVariables false

set_option maxRecDepth 100000 in
set_option maxHeartbeats 3000000 in
theorem references_any (B : Nat) (sv : Value) (ver : Int) (ts : List Tbl) (w : World) (h : SchIn w B ver ts sv) (hB : B ≤ w.heap.size) (j : Nat) (t : Tbl) (hj : ts[j]? = some t) :
    Calls Tryz.prog 221 #[sv, .int .i64 j] w (RetAny w) := by
  have HX : Hid (∀ (b : Bool) (w' : World), Kept Kno w w' → RetAny w (.returned (.bool b)) w') := Lib.hid (fun b w' h => ⟨b, rfl, h⟩)
  obtain ⟨hjl, -⟩ := List.getElem?_eq_some_iff.1 hj
  obtain ⟨g, o, cap, st, rfl, hcap, hmax, hgB, hst, hcs⟩ := h.tbl hj
  obtain ⟨name, cols, key, refs, chk⟩ := t
  obtain ⟨hcols, hkr, h8, hk1, hk2, hrf, hch⟩ := hst
  simp only at hcols hkr h8 hk1 hk2 hrf hch
  obtain ⟨sc, sr, sk⟩ := st
  simp only at hcols hrf hch
  obtain ⟨rA, rc, rfl, hrc, hrm, -, -, hrat⟩ := hrf
  obtain ⟨kA, kc, rfl⟩ := LyIn.form hch
  obtain ⟨cA, cc, rfl, hcc, hcm, -, -, -, hcat⟩ := hcols
  obtain ⟨g2, o2, rfl, hgB2, hc2⟩ := hcat (by omega)
  have HSCH := Lib.hid h
  have HC2 := Lib.hid hc2
  have HRAT := Lib.hid hrat
  have hcs' : CellsAt (w.alloc (.cells #[.int .i64 ver, .slice (some ⟨g, o, none⟩) ts.length cap] 82)) g (o + j * 5) [.string name, .slice (some ⟨g2, o2, none⟩) cols.length cc, .int .i64 key, .slice rA refs.length rc, .slice kA chk.length kc] := hcs.old (w' := w.alloc _) hgB (((Kept.refl Kno w).alloc _).old hB (fun _ _ h => h))
  have HCS := Lib.hid hcs'
  have hj0 : (0 : Int) ≤ (j : Int) := by omega
  have hjI : (j : Int) < (ts.length : Int) := by omega
  have hmax' : cap ≤ 9223372036854775807 := by simpa only [maxLen] using hmax
  have hcm' : cc ≤ 9223372036854775807 := by simpa only [maxLen] using hcm
  have hrm' : rc ≤ 9223372036854775807 := by simpa only [maxLen] using hrm
  have hgw : g < w.heap.size := by omega
  clear h hj hcs hcs' hcat hc2 hmax hcm hrm hch hkr hrat
  go_enter Tryz.func221, Tryz.ntmps221
  go_upto_region 2 with (first
    | (refine wpList_load_at rfl 151 (.tmp 13) rfl g (o + j * 5) [.string name, .slice (some ⟨g2, o2, none⟩) cols.length cc, .int .i64 key, .slice rA refs.length rc, .slice kA chk.length kc] _ rfl HCS.out Tryz.underlying151 rfl (by kernel_rfl) ?_)
    | (refine wpList_store_new rfl 151 (.tmp 5) (.tmp 14) rfl _ #[.string name, .slice (some ⟨g2, o2, none⟩) cols.length cc, .int .i64 key, .slice rA refs.length rc, .slice kA chk.length kc] rfl rfl (by kernel_rfl) rfl (by simp [Value.oneCell']) ?_))
  try simp only [Act.put]
  obtain ⟨w1, h1⟩ : ∃ w1, (w.alloc (.cells #[.int .i64 ver, .slice (some ⟨g, o, none⟩) ts.length cap] 82)).alloc (.cells #[.string name, .slice (some ⟨g2, o2, none⟩) cols.length cc, .int .i64 key, .slice rA refs.length rc, .slice kA chk.length kc] 151) = w1 := ⟨_, rfl⟩
  have hk1 : Kept Kno w w1 := by rw [← h1]; exact ((Kept.refl _ _).alloc _).alloc _
  have HB2 : Hid (Blk w1 w.heap.size 82 #[.int .i64 ver, .slice (some ⟨g, o, none⟩) ts.length cap]) := Lib.hid (by rw [← h1]; exact (Blk.new _ _ _).alloc _)
  have HB5 : Hid (Blk w1 (w.heap.size + 1) 151 #[.string name, .slice (some ⟨g2, o2, none⟩) cols.length cc, .int .i64 key, .slice rA refs.length rc, .slice kA chk.length kc]) := Lib.hid (by rw [← h1]; have := Blk.new (w.alloc (.cells #[.int .i64 ver, .slice (some ⟨g, o, none⟩) ts.length cap] 82)) 151 #[.string name, .slice (some ⟨g2, o2, none⟩) cols.length cc, .int .i64 key, .slice rA refs.length rc, .slice kA chk.length kc]; simpa using this)
  have HK1 := Lib.hid hk1
  rw [h1]
  have c53 : w1.cell? ⟨w.heap.size + 1, 3, none⟩ = some (.slice rA refs.length rc) := HB5.out.cell 3
  clear h1 hk1 HCS
  go_upto_region 3 with (fail)
  clear c53
  go_loopw [18] (fun i wr => NRel refs.length w1 i wr) (fun i _ => refs.length - (intOf i).toNat)
  case atStart => exact ⟨0, Nat.zero_le _, rfl, Kept.refl _ _⟩
  case round =>
    obtain ⟨k, hk, rfl, hkr⟩ := hrel
    have HKR := Lib.hid hkr
    have hk0 : (0 : Int) ≤ (k : Int) := by omega
    clear hkr
    by_cases hlt : k < refs.length
    · have hltI : (k : Int) < (refs.length : Int) := by omega
      obtain ⟨gr, og, rfl, hgr, hrr⟩ := HRAT.out (by omega)
      obtain ⟨⟨rcols, m⟩, hr⟩ : ∃ r, refs[k]? = some r := ⟨_, List.getElem?_eq_getElem hlt⟩
      obtain ⟨rs, hrs, hrcc⟩ := RefsAt.get hrr hr
      simp only at hrs hrcc
      obtain ⟨cA, cn, rfl⟩ : ∃ A c, rs = .slice A rcols.length c := SlIn.form hrs
      have cr0 : wr.cell? ⟨gr, og + k * 2, none⟩ = some (.slice cA rcols.length cn) := (HK1.out.then0 HKR.out).cell_some (hrcc 0 _ rfl) (fun h => h)
      have cr1 : wr.cell? ⟨gr, og + k * 2 + 1, none⟩ = some (.int .i64 m) := (HK1.out.then0 HKR.out).cell_some (hrcc 1 _ rfl) (fun h => h)
      have HRS := Lib.hid hrs
      clear hrr hr hrs hrcc
      go_upto_region 5 with (fail)
      obtain ⟨w2, h2⟩ : ∃ w2, wr.alloc (.cells #[.slice cA rcols.length cn, .int .i64 m] 153) = w2 := ⟨_, rfl⟩
      have HK2 : Hid (Kept Kno w1 w2) := Lib.hid (HKR.out.then0 (by rw [← h2]; exact (Kept.refl _ _).alloc _))
      have HB7 : Hid (Blk w2 wr.heap.size 153 #[.slice cA rcols.length cn, .int .i64 m]) := Lib.hid (by rw [← h2]; exact Blk.new _ _ _)
      rw [h2]
      clear h2 cr0 cr1 HKR
      obtain ⟨T7, hT7⟩ : ∃ T, wr.heap.size = T := ⟨_, rfl⟩
      rw [hT7] at HB7 ⊢
      clear hT7
      by_cases hm0 : m < 0
      · have hm0d : decide (m < 0) = true := by simp [hm0]
        refine wp_region_held_drew (S := fun w' => Blk w' T7 153 #[.slice cA rcols.length cn, .int .i64 m] ∧ Blk w' w.heap.size 82 #[.int .i64 ver, .slice (some ⟨g, o, none⟩) ts.length cap]) (by kernel_rfl) ⟨HB7.out, (HB2.out.kept HK2.out (fun h => h)).drew⟩ (fun hHeld => ?_)
        refine wpAnyH_takeE (i := 0) (v := .pointer (some ⟨T7, 1, none⟩)) rfl rfl (by kernel_rfl) (by kernel_rfl) (by kernel_rfl) (fun _ _ _ h => h) (Or.inl ⟨by rfl, fun w1 hw => by go_simp⟩) (by assumption) ?_
        (try simp only [Act.put, List.setIfInBounds_toArray, List.set_cons_zero, List.set_cons_succ])
        refine wpAnyH_takeE (i := 1) (v := .int .i64 m) rfl rfl (by kernel_rfl) (by kernel_rfl) (by kernel_rfl) (fun _ _ _ h => h) (Or.inl ⟨by rfl, fun w1 hw => by have c1 : w1.cell? ⟨T7, 1, none⟩ = some (.int .i64 m) := hw.1.cell 1; clear hw; go_simp⟩) (by assumption) ?_
        (try simp only [Act.put, List.setIfInBounds_toArray, List.set_cons_zero, List.set_cons_succ])
        refine wpAnyH_takeE (i := 2) (v := .bool true) rfl rfl (by kernel_rfl) (by kernel_rfl) (by kernel_rfl) (fun _ _ _ h => h) (Or.inl ⟨by rfl, fun w1 hw => by go_simp⟩) (by assumption) ?_
        (try simp only [Act.put, List.setIfInBounds_toArray, List.set_cons_zero, List.set_cons_succ])
        refine wpAnyH_takeE (i := 3) (v := .bool true) rfl rfl (by kernel_rfl) (by kernel_rfl) (by kernel_rfl) (fun _ _ _ h => h) (Or.inl ⟨by rfl, fun w1 hw => by go_simp⟩) (by assumption) ?_
        (try simp only [Act.put, List.setIfInBounds_toArray, List.set_cons_zero, List.set_cons_succ])
        refine wpAnyH_takeE (i := 4) (v := undef) rfl rfl (by kernel_rfl) (by kernel_rfl) (by kernel_rfl) (fun _ _ _ h => h) (Or.inr ⟨by rfl, rfl⟩) (by assumption) ?_
        (try simp only [Act.put, List.setIfInBounds_toArray, List.set_cons_zero, List.set_cons_succ])
        refine wpAnyH_takeE (i := 5) (v := undef) rfl rfl (by kernel_rfl) (by kernel_rfl) (by kernel_rfl) (fun _ _ _ h => h) (Or.inr ⟨by rfl, rfl⟩) (by assumption) ?_
        (try simp only [Act.put, List.setIfInBounds_toArray, List.set_cons_zero, List.set_cons_succ])
        refine wpAnyH_takeE (i := 6) (v := undef) rfl rfl (by kernel_rfl) (by kernel_rfl) (by kernel_rfl) (fun _ _ _ h => h) (Or.inr ⟨by rfl, rfl⟩) (by assumption) ?_
        (try simp only [Act.put, List.setIfInBounds_toArray, List.set_cons_zero, List.set_cons_succ])
        refine wpAnyH_takeE (i := 7) (v := undef) rfl rfl (by kernel_rfl) (by kernel_rfl) (by kernel_rfl) (fun _ _ _ h => h) (Or.inr ⟨by rfl, rfl⟩) (by assumption) ?_
        (try simp only [Act.put, List.setIfInBounds_toArray, List.set_cons_zero, List.set_cons_succ])
        refine wpAnyH_takeE (i := 8) (v := undef) rfl rfl (by kernel_rfl) (by kernel_rfl) (by kernel_rfl) (fun _ _ _ h => h) (Or.inr ⟨by rfl, rfl⟩) (by assumption) ?_
        (try simp only [Act.put, List.setIfInBounds_toArray, List.set_cons_zero, List.set_cons_succ])
        refine wpAnyH_takeE (i := 9) (v := undef) rfl rfl (by kernel_rfl) (by kernel_rfl) (by kernel_rfl) (fun _ _ _ h => h) (Or.inr ⟨by rfl, rfl⟩) (by assumption) ?_
        (try simp only [Act.put, List.setIfInBounds_toArray, List.set_cons_zero, List.set_cons_succ])
        refine wpAnyH_takeE (i := 10) (v := .bool true) rfl rfl (by kernel_rfl) (by kernel_rfl) (by kernel_rfl) (fun _ _ _ h => h) (Or.inl ⟨by rfl, fun w1 hw => by go_simp⟩) (by assumption) ?_
        (try simp only [Act.put, List.setIfInBounds_toArray, List.set_cons_zero, List.set_cons_succ])
        refine wpAnyH_takeE (i := 11) (v := .bool true) rfl rfl (by kernel_rfl) (by kernel_rfl) (by kernel_rfl) (fun _ _ _ h => h) (Or.inl ⟨by rfl, fun w1 hw => by go_simp⟩) (by assumption) ?_
        (try simp only [Act.put, List.setIfInBounds_toArray, List.set_cons_zero, List.set_cons_succ])
        refine wpAnyH_takeE (i := 12) (v := undef) rfl rfl (by kernel_rfl) (by kernel_rfl) (by kernel_rfl) (fun _ _ _ h => h) (Or.inr ⟨by rfl, rfl⟩) (by assumption) ?_
        (try simp only [Act.put, List.setIfInBounds_toArray, List.set_cons_zero, List.set_cons_succ])
        refine wpAnyH_takeE (i := 13) (v := undef) rfl rfl (by kernel_rfl) (by kernel_rfl) (by kernel_rfl) (fun _ _ _ h => h) (Or.inr ⟨by rfl, rfl⟩) (by assumption) ?_
        (try simp only [Act.put, List.setIfInBounds_toArray, List.set_cons_zero, List.set_cons_succ])
        refine wpAnyH_takeE (i := 14) (v := undef) rfl rfl (by kernel_rfl) (by kernel_rfl) (by kernel_rfl) (fun _ _ _ h => h) (Or.inr ⟨by rfl, rfl⟩) (by assumption) ?_
        (try simp only [Act.put, List.setIfInBounds_toArray, List.set_cons_zero, List.set_cons_succ])
        refine wpAnyH_takeE (i := 15) (v := undef) rfl rfl (by kernel_rfl) (by kernel_rfl) (by kernel_rfl) (fun _ _ _ h => h) (Or.inr ⟨by rfl, rfl⟩) (by assumption) ?_
        (try simp only [Act.put, List.setIfInBounds_toArray, List.set_cons_zero, List.set_cons_succ])
        refine wpAnyH_takeE (i := 16) (v := undef) rfl rfl (by kernel_rfl) (by kernel_rfl) (by kernel_rfl) (fun _ _ _ h => h) (Or.inr ⟨by rfl, rfl⟩) (by assumption) ?_
        (try simp only [Act.put, List.setIfInBounds_toArray, List.set_cons_zero, List.set_cons_succ])
        refine wpAnyH_takeE (i := 17) (v := undef) rfl rfl (by kernel_rfl) (by kernel_rfl) (by kernel_rfl) (fun _ _ _ h => h) (Or.inr ⟨by rfl, rfl⟩) (by assumption) ?_
        (try simp only [Act.put, List.setIfInBounds_toArray, List.set_cons_zero, List.set_cons_succ])
        refine wpAnyH_takeE (i := 18) (v := undef) rfl rfl (by kernel_rfl) (by kernel_rfl) (by kernel_rfl) (fun _ _ _ h => h) (Or.inr ⟨by rfl, rfl⟩) (by assumption) ?_
        (try simp only [Act.put, List.setIfInBounds_toArray, List.set_cons_zero, List.set_cons_succ])
        refine wpAnyH_takeE (i := 19) (v := undef) rfl rfl (by kernel_rfl) (by kernel_rfl) (by kernel_rfl) (fun _ _ _ h => h) (Or.inr ⟨by rfl, rfl⟩) (by assumption) ?_
        (try simp only [Act.put, List.setIfInBounds_toArray, List.set_cons_zero, List.set_cons_succ])
        refine wpAnyH_takeE (i := 20) (v := undef) rfl rfl (by kernel_rfl) (by kernel_rfl) (by kernel_rfl) (fun _ _ _ h => h) (Or.inr ⟨by rfl, rfl⟩) (by assumption) ?_
        (try simp only [Act.put, List.setIfInBounds_toArray, List.set_cons_zero, List.set_cons_succ])
        refine wpAnyH_takeE (i := 21) (v := undef) rfl rfl (by kernel_rfl) (by kernel_rfl) (by kernel_rfl) (fun _ _ _ h => h) (Or.inr ⟨by rfl, rfl⟩) (by assumption) ?_
        (try simp only [Act.put, List.setIfInBounds_toArray, List.set_cons_zero, List.set_cons_succ])
        refine wpAnyH_takeE (i := 22) (v := undef) rfl rfl (by kernel_rfl) (by kernel_rfl) (by kernel_rfl) (fun _ _ _ h => h) (Or.inr ⟨by rfl, rfl⟩) (by assumption) ?_
        (try simp only [Act.put, List.setIfInBounds_toArray, List.set_cons_zero, List.set_cons_succ])
        refine wpAnyH_takeE (i := 23) (v := .bool true) rfl rfl (by kernel_rfl) (by kernel_rfl) (by kernel_rfl) (fun _ _ _ h => h) (Or.inl ⟨by rfl, fun w1 hw => by go_simp⟩) (by assumption) ?_
        refine wpAnyH_done (by kernel_rfl) ?_ _
        clear hHeld
        go_wp2
        go_ret
        exact HX.out _ _ ((HK1.out.then0 HK2.out).drew)
      by_cases hmT : (ts.length : Int) ≤ m
      · have hm0' : ¬ m < 0 := hm0
        refine wp_region_held_drew (S := fun w' => Blk w' T7 153 #[.slice cA rcols.length cn, .int .i64 m] ∧ Blk w' w.heap.size 82 #[.int .i64 ver, .slice (some ⟨g, o, none⟩) ts.length cap]) (by kernel_rfl) ⟨HB7.out, (HB2.out.kept HK2.out (fun h => h)).drew⟩ (fun hHeld => ?_)
        refine wpAnyH_takeE (i := 0) (v := .pointer (some ⟨T7, 1, none⟩)) rfl rfl (by kernel_rfl) (by kernel_rfl) (by kernel_rfl) (fun _ _ _ h => h) (Or.inl ⟨by rfl, fun w1 hw => by go_simp⟩) (by assumption) ?_
        (try simp only [Act.put, List.setIfInBounds_toArray, List.set_cons_zero, List.set_cons_succ])
        refine wpAnyH_takeE (i := 1) (v := .int .i64 m) rfl rfl (by kernel_rfl) (by kernel_rfl) (by kernel_rfl) (fun _ _ _ h => h) (Or.inl ⟨by rfl, fun w1 hw => by have c1 : w1.cell? ⟨T7, 1, none⟩ = some (.int .i64 m) := hw.1.cell 1; clear hw; go_simp⟩) (by assumption) ?_
        (try simp only [Act.put, List.setIfInBounds_toArray, List.set_cons_zero, List.set_cons_succ])
        refine wpAnyH_takeE (i := 2) (v := .bool false) rfl rfl (by kernel_rfl) (by kernel_rfl) (by kernel_rfl) (fun _ _ _ h => h) (Or.inl ⟨by rfl, fun w1 hw => by go_simp⟩) (by assumption) ?_
        (try simp only [Act.put, List.setIfInBounds_toArray, List.set_cons_zero, List.set_cons_succ])
        refine wpAnyH_takeE (i := 3) (v := .bool false) rfl rfl (by kernel_rfl) (by kernel_rfl) (by kernel_rfl) (fun _ _ _ h => h) (Or.inl ⟨by rfl, fun w1 hw => by go_simp⟩) (by assumption) ?_
        (try simp only [Act.put, List.setIfInBounds_toArray, List.set_cons_zero, List.set_cons_succ])
        refine wpAnyH_takeE (i := 4) (v := .pointer (some ⟨T7, 1, none⟩)) rfl rfl (by kernel_rfl) (by kernel_rfl) (by kernel_rfl) (fun _ _ _ h => h) (Or.inl ⟨by rfl, fun w1 hw => by go_simp⟩) (by assumption) ?_
        (try simp only [Act.put, List.setIfInBounds_toArray, List.set_cons_zero, List.set_cons_succ])
        refine wpAnyH_takeE (i := 5) (v := .int .i64 m) rfl rfl (by kernel_rfl) (by kernel_rfl) (by kernel_rfl) (fun _ _ _ h => h) (Or.inl ⟨by rfl, fun w1 hw => by have c1 : w1.cell? ⟨T7, 1, none⟩ = some (.int .i64 m) := hw.1.cell 1; clear hw; go_simp⟩) (by assumption) ?_
        (try simp only [Act.put, List.setIfInBounds_toArray, List.set_cons_zero, List.set_cons_succ])
        refine wpAnyH_takeE (i := 6) (v := .pointer (some ⟨w.heap.size, 1, none⟩)) rfl rfl (by kernel_rfl) (by kernel_rfl) (by kernel_rfl) (fun _ _ _ h => h) (Or.inl ⟨by rfl, fun w1 hw => by go_simp⟩) (by assumption) ?_
        (try simp only [Act.put, List.setIfInBounds_toArray, List.set_cons_zero, List.set_cons_succ])
        refine wpAnyH_takeE (i := 7) (v := .slice (some ⟨g, o, none⟩) ts.length cap) rfl rfl (by kernel_rfl) (by kernel_rfl) (by kernel_rfl) (fun _ _ _ h => h) (Or.inl ⟨by rfl, fun w1 hw => by have c1 : w1.cell? ⟨w.heap.size, 1, none⟩ = some (.slice (some ⟨g, o, none⟩) ts.length cap) := hw.2.cell 1; clear hw; go_simp⟩) (by assumption) ?_
        (try simp only [Act.put, List.setIfInBounds_toArray, List.set_cons_zero, List.set_cons_succ])
        refine wpAnyH_takeE (i := 8) (v := .int .i64 (ts.length : Int)) rfl rfl (by kernel_rfl) (by kernel_rfl) (by kernel_rfl) (fun _ _ _ h => h) (Or.inl ⟨by rfl, fun w1 hw => by go_simp⟩) (by assumption) ?_
        (try simp only [Act.put, List.setIfInBounds_toArray, List.set_cons_zero, List.set_cons_succ])
        refine wpAnyH_takeE (i := 9) (v := .bool true) rfl rfl (by kernel_rfl) (by kernel_rfl) (by kernel_rfl) (fun _ _ _ h => h) (Or.inl ⟨by rfl, fun w1 hw => by go_simp⟩) (by assumption) ?_
        (try simp only [Act.put, List.setIfInBounds_toArray, List.set_cons_zero, List.set_cons_succ])
        refine wpAnyH_takeE (i := 10) (v := .bool true) rfl rfl (by kernel_rfl) (by kernel_rfl) (by kernel_rfl) (fun _ _ _ h => h) (Or.inl ⟨by rfl, fun w1 hw => by go_simp⟩) (by assumption) ?_
        (try simp only [Act.put, List.setIfInBounds_toArray, List.set_cons_zero, List.set_cons_succ])
        refine wpAnyH_takeE (i := 11) (v := .bool true) rfl rfl (by kernel_rfl) (by kernel_rfl) (by kernel_rfl) (fun _ _ _ h => h) (Or.inl ⟨by rfl, fun w1 hw => by go_simp⟩) (by assumption) ?_
        (try simp only [Act.put, List.setIfInBounds_toArray, List.set_cons_zero, List.set_cons_succ])
        refine wpAnyH_takeE (i := 12) (v := undef) rfl rfl (by kernel_rfl) (by kernel_rfl) (by kernel_rfl) (fun _ _ _ h => h) (Or.inr ⟨by rfl, rfl⟩) (by assumption) ?_
        (try simp only [Act.put, List.setIfInBounds_toArray, List.set_cons_zero, List.set_cons_succ])
        refine wpAnyH_takeE (i := 13) (v := undef) rfl rfl (by kernel_rfl) (by kernel_rfl) (by kernel_rfl) (fun _ _ _ h => h) (Or.inr ⟨by rfl, rfl⟩) (by assumption) ?_
        (try simp only [Act.put, List.setIfInBounds_toArray, List.set_cons_zero, List.set_cons_succ])
        refine wpAnyH_takeE (i := 14) (v := undef) rfl rfl (by kernel_rfl) (by kernel_rfl) (by kernel_rfl) (fun _ _ _ h => h) (Or.inr ⟨by rfl, rfl⟩) (by assumption) ?_
        (try simp only [Act.put, List.setIfInBounds_toArray, List.set_cons_zero, List.set_cons_succ])
        refine wpAnyH_takeE (i := 15) (v := undef) rfl rfl (by kernel_rfl) (by kernel_rfl) (by kernel_rfl) (fun _ _ _ h => h) (Or.inr ⟨by rfl, rfl⟩) (by assumption) ?_
        (try simp only [Act.put, List.setIfInBounds_toArray, List.set_cons_zero, List.set_cons_succ])
        refine wpAnyH_takeE (i := 16) (v := undef) rfl rfl (by kernel_rfl) (by kernel_rfl) (by kernel_rfl) (fun _ _ _ h => h) (Or.inr ⟨by rfl, rfl⟩) (by assumption) ?_
        (try simp only [Act.put, List.setIfInBounds_toArray, List.set_cons_zero, List.set_cons_succ])
        refine wpAnyH_takeE (i := 17) (v := undef) rfl rfl (by kernel_rfl) (by kernel_rfl) (by kernel_rfl) (fun _ _ _ h => h) (Or.inr ⟨by rfl, rfl⟩) (by assumption) ?_
        (try simp only [Act.put, List.setIfInBounds_toArray, List.set_cons_zero, List.set_cons_succ])
        refine wpAnyH_takeE (i := 18) (v := undef) rfl rfl (by kernel_rfl) (by kernel_rfl) (by kernel_rfl) (fun _ _ _ h => h) (Or.inr ⟨by rfl, rfl⟩) (by assumption) ?_
        (try simp only [Act.put, List.setIfInBounds_toArray, List.set_cons_zero, List.set_cons_succ])
        refine wpAnyH_takeE (i := 19) (v := undef) rfl rfl (by kernel_rfl) (by kernel_rfl) (by kernel_rfl) (fun _ _ _ h => h) (Or.inr ⟨by rfl, rfl⟩) (by assumption) ?_
        (try simp only [Act.put, List.setIfInBounds_toArray, List.set_cons_zero, List.set_cons_succ])
        refine wpAnyH_takeE (i := 20) (v := undef) rfl rfl (by kernel_rfl) (by kernel_rfl) (by kernel_rfl) (fun _ _ _ h => h) (Or.inr ⟨by rfl, rfl⟩) (by assumption) ?_
        (try simp only [Act.put, List.setIfInBounds_toArray, List.set_cons_zero, List.set_cons_succ])
        refine wpAnyH_takeE (i := 21) (v := undef) rfl rfl (by kernel_rfl) (by kernel_rfl) (by kernel_rfl) (fun _ _ _ h => h) (Or.inr ⟨by rfl, rfl⟩) (by assumption) ?_
        (try simp only [Act.put, List.setIfInBounds_toArray, List.set_cons_zero, List.set_cons_succ])
        refine wpAnyH_takeE (i := 22) (v := undef) rfl rfl (by kernel_rfl) (by kernel_rfl) (by kernel_rfl) (fun _ _ _ h => h) (Or.inr ⟨by rfl, rfl⟩) (by assumption) ?_
        (try simp only [Act.put, List.setIfInBounds_toArray, List.set_cons_zero, List.set_cons_succ])
        refine wpAnyH_takeE (i := 23) (v := .bool true) rfl rfl (by kernel_rfl) (by kernel_rfl) (by kernel_rfl) (fun _ _ _ h => h) (Or.inl ⟨by rfl, fun w1 hw => by go_simp⟩) (by assumption) ?_
        refine wpAnyH_done (by kernel_rfl) ?_ _
        clear hHeld
        go_wp2
        go_ret
        exact HX.out _ _ ((HK1.out.then0 HK2.out).drew)
      obtain ⟨mn, rfl⟩ : ∃ n : Nat, m = n := ⟨m.toNat, by omega⟩
      have hmI : (mn : Int) < (ts.length : Int) := by omega
      have hmn0 : (0 : Int) ≤ (mn : Int) := by omega
      obtain ⟨t2, ht2⟩ : ∃ t2, ts[mn]? = some t2 := ⟨_, List.getElem?_eq_getElem (by omega)⟩
      obtain ⟨-, st2, hT2, hc⟩ := HSCH.out.at_ ht2
      have CK : Hid (w2.cell? ⟨g, o + mn * 5 + 2, none⟩ = some (.int .i64 t2.key)) := Lib.hid ((HK1.out.then0 HK2.out).cell_some (hc 2 _ rfl) (fun h => h))
      have HCK : Hid (w.cell? ⟨g, o + mn * 5 + 1, none⟩ = some st2.cols) := Lib.hid (hc 1 _ rfl)
      obtain ⟨hcols2, -, h82, hk12, hk22, -, -⟩ := hT2
      obtain ⟨c2A, cc3, hst2, hcc3, hcm3, -, -, -, hcat2⟩ := hcols2
      obtain ⟨g3, o3, rfl, hgB3, hc3⟩ := hcat2 (by omega)
      rw [hst2] at HCK
      have HC3 := Lib.hid hc3
      obtain ⟨cols3, hcols3⟩ : ∃ c, t2.cols = c := ⟨_, rfl⟩
      rw [hcols3] at HC3 HCK hcc3 hk22
      obtain ⟨n3, hn3⟩ : ∃ n, cols3.length = n := ⟨_, rfl⟩
      rw [hn3] at HCK hcc3 hk22
      have HN3 := Lib.hid hn3
      have hcm3' : cc3 ≤ 9223372036854775807 := by simpa only [maxLen] using hcm3
      generalize t2.key = key2 at CK hk12 hk22
      clear ht2 hc hc3 hcat2 hst2 hcols3 hn3 hcm3 h82
      by_cases hkl : (rcols.length : Int) = key2
      · have hkb : ((rcols.length : Int) != key2) = false := by simp [hkl]
        refine wp_region_held_drew (S := fun w' => Blk w' T7 153 #[.slice cA rcols.length cn, .int .i64 (mn : Int)] ∧ Blk w' w.heap.size 82 #[.int .i64 ver, .slice (some ⟨g, o, none⟩) ts.length cap] ∧ w'.cell? ⟨g, o + mn * 5 + 2, none⟩ = some (.int .i64 key2)) (by kernel_rfl) ⟨HB7.out, (HB2.out.kept HK2.out (fun h => h)).drew, CK.out⟩ (fun hHeld => ?_)
        refine wpAnyH_takeE (i := 0) (v := .pointer (some ⟨T7, 1, none⟩)) rfl rfl (by kernel_rfl) (by kernel_rfl) (by kernel_rfl) (fun _ _ _ h => h) (Or.inl ⟨by rfl, fun w1 hw => by go_simp⟩) (by assumption) ?_
        (try simp only [Act.put, List.setIfInBounds_toArray, List.set_cons_zero, List.set_cons_succ])
        refine wpAnyH_takeE (i := 1) (v := .int .i64 (mn : Int)) rfl rfl (by kernel_rfl) (by kernel_rfl) (by kernel_rfl) (fun _ _ _ h => h) (Or.inl ⟨by rfl, fun w1 hw => by have c1 : w1.cell? ⟨T7, 1, none⟩ = some (.int .i64 (mn : Int)) := hw.1.cell 1; clear hw; go_simp⟩) (by assumption) ?_
        (try simp only [Act.put, List.setIfInBounds_toArray, List.set_cons_zero, List.set_cons_succ])
        refine wpAnyH_takeE (i := 2) (v := .bool false) rfl rfl (by kernel_rfl) (by kernel_rfl) (by kernel_rfl) (fun _ _ _ h => h) (Or.inl ⟨by rfl, fun w1 hw => by go_simp⟩) (by assumption) ?_
        (try simp only [Act.put, List.setIfInBounds_toArray, List.set_cons_zero, List.set_cons_succ])
        refine wpAnyH_takeE (i := 3) (v := .bool false) rfl rfl (by kernel_rfl) (by kernel_rfl) (by kernel_rfl) (fun _ _ _ h => h) (Or.inl ⟨by rfl, fun w1 hw => by go_simp⟩) (by assumption) ?_
        (try simp only [Act.put, List.setIfInBounds_toArray, List.set_cons_zero, List.set_cons_succ])
        refine wpAnyH_takeE (i := 4) (v := .pointer (some ⟨T7, 1, none⟩)) rfl rfl (by kernel_rfl) (by kernel_rfl) (by kernel_rfl) (fun _ _ _ h => h) (Or.inl ⟨by rfl, fun w1 hw => by go_simp⟩) (by assumption) ?_
        (try simp only [Act.put, List.setIfInBounds_toArray, List.set_cons_zero, List.set_cons_succ])
        refine wpAnyH_takeE (i := 5) (v := .int .i64 (mn : Int)) rfl rfl (by kernel_rfl) (by kernel_rfl) (by kernel_rfl) (fun _ _ _ h => h) (Or.inl ⟨by rfl, fun w1 hw => by have c1 : w1.cell? ⟨T7, 1, none⟩ = some (.int .i64 (mn : Int)) := hw.1.cell 1; clear hw; go_simp⟩) (by assumption) ?_
        (try simp only [Act.put, List.setIfInBounds_toArray, List.set_cons_zero, List.set_cons_succ])
        refine wpAnyH_takeE (i := 6) (v := .pointer (some ⟨w.heap.size, 1, none⟩)) rfl rfl (by kernel_rfl) (by kernel_rfl) (by kernel_rfl) (fun _ _ _ h => h) (Or.inl ⟨by rfl, fun w1 hw => by go_simp⟩) (by assumption) ?_
        (try simp only [Act.put, List.setIfInBounds_toArray, List.set_cons_zero, List.set_cons_succ])
        refine wpAnyH_takeE (i := 7) (v := .slice (some ⟨g, o, none⟩) ts.length cap) rfl rfl (by kernel_rfl) (by kernel_rfl) (by kernel_rfl) (fun _ _ _ h => h) (Or.inl ⟨by rfl, fun w1 hw => by have c1 : w1.cell? ⟨w.heap.size, 1, none⟩ = some (.slice (some ⟨g, o, none⟩) ts.length cap) := hw.2.1.cell 1; clear hw; go_simp⟩) (by assumption) ?_
        (try simp only [Act.put, List.setIfInBounds_toArray, List.set_cons_zero, List.set_cons_succ])
        refine wpAnyH_takeE (i := 8) (v := .int .i64 (ts.length : Int)) rfl rfl (by kernel_rfl) (by kernel_rfl) (by kernel_rfl) (fun _ _ _ h => h) (Or.inl ⟨by rfl, fun w1 hw => by go_simp⟩) (by assumption) ?_
        (try simp only [Act.put, List.setIfInBounds_toArray, List.set_cons_zero, List.set_cons_succ])
        refine wpAnyH_takeE (i := 9) (v := .bool false) rfl rfl (by kernel_rfl) (by kernel_rfl) (by kernel_rfl) (fun _ _ _ h => h) (Or.inl ⟨by rfl, fun w1 hw => by go_simp⟩) (by assumption) ?_
        (try simp only [Act.put, List.setIfInBounds_toArray, List.set_cons_zero, List.set_cons_succ])
        refine wpAnyH_takeE (i := 10) (v := .bool false) rfl rfl (by kernel_rfl) (by kernel_rfl) (by kernel_rfl) (fun _ _ _ h => h) (Or.inl ⟨by rfl, fun w1 hw => by go_simp⟩) (by assumption) ?_
        (try simp only [Act.put, List.setIfInBounds_toArray, List.set_cons_zero, List.set_cons_succ])
        refine wpAnyH_takeE (i := 11) (v := .bool false) rfl rfl (by kernel_rfl) (by kernel_rfl) (by kernel_rfl) (fun _ _ _ h => h) (Or.inl ⟨by rfl, fun w1 hw => by go_simp⟩) (by assumption) ?_
        (try simp only [Act.put, List.setIfInBounds_toArray, List.set_cons_zero, List.set_cons_succ])
        refine wpAnyH_takeE (i := 12) (v := .pointer (some ⟨T7, 0, none⟩)) rfl rfl (by kernel_rfl) (by kernel_rfl) (by kernel_rfl) (fun _ _ _ h => h) (Or.inl ⟨by rfl, fun w1 hw => by go_simp⟩) (by assumption) ?_
        (try simp only [Act.put, List.setIfInBounds_toArray, List.set_cons_zero, List.set_cons_succ])
        refine wpAnyH_takeE (i := 13) (v := .slice cA rcols.length cn) rfl rfl (by kernel_rfl) (by kernel_rfl) (by kernel_rfl) (fun _ _ _ h => h) (Or.inl ⟨by rfl, fun w1 hw => by have c1 : w1.cell? ⟨T7, 0, none⟩ = some (.slice cA rcols.length cn) := hw.1.cell 0; clear hw; go_simp⟩) (by assumption) ?_
        (try simp only [Act.put, List.setIfInBounds_toArray, List.set_cons_zero, List.set_cons_succ])
        refine wpAnyH_takeE (i := 14) (v := .int .i64 (rcols.length : Int)) rfl rfl (by kernel_rfl) (by kernel_rfl) (by kernel_rfl) (fun _ _ _ h => h) (Or.inl ⟨by rfl, fun w1 hw => by go_simp⟩) (by assumption) ?_
        (try simp only [Act.put, List.setIfInBounds_toArray, List.set_cons_zero, List.set_cons_succ])
        refine wpAnyH_takeE (i := 15) (v := .pointer (some ⟨w.heap.size, 1, none⟩)) rfl rfl (by kernel_rfl) (by kernel_rfl) (by kernel_rfl) (fun _ _ _ h => h) (Or.inl ⟨by rfl, fun w1 hw => by go_simp⟩) (by assumption) ?_
        (try simp only [Act.put, List.setIfInBounds_toArray, List.set_cons_zero, List.set_cons_succ])
        refine wpAnyH_takeE (i := 16) (v := .slice (some ⟨g, o, none⟩) ts.length cap) rfl rfl (by kernel_rfl) (by kernel_rfl) (by kernel_rfl) (fun _ _ _ h => h) (Or.inl ⟨by rfl, fun w1 hw => by have c1 : w1.cell? ⟨w.heap.size, 1, none⟩ = some (.slice (some ⟨g, o, none⟩) ts.length cap) := hw.2.1.cell 1; clear hw; go_simp⟩) (by assumption) ?_
        (try simp only [Act.put, List.setIfInBounds_toArray, List.set_cons_zero, List.set_cons_succ])
        refine wpAnyH_takeE (i := 17) (v := .pointer (some ⟨T7, 1, none⟩)) rfl rfl (by kernel_rfl) (by kernel_rfl) (by kernel_rfl) (fun _ _ _ h => h) (Or.inl ⟨by rfl, fun w1 hw => by go_simp⟩) (by assumption) ?_
        (try simp only [Act.put, List.setIfInBounds_toArray, List.set_cons_zero, List.set_cons_succ])
        refine wpAnyH_takeE (i := 18) (v := .int .i64 (mn : Int)) rfl rfl (by kernel_rfl) (by kernel_rfl) (by kernel_rfl) (fun _ _ _ h => h) (Or.inl ⟨by rfl, fun w1 hw => by have c1 : w1.cell? ⟨T7, 1, none⟩ = some (.int .i64 (mn : Int)) := hw.1.cell 1; clear hw; go_simp⟩) (by assumption) ?_
        (try simp only [Act.put, List.setIfInBounds_toArray, List.set_cons_zero, List.set_cons_succ])
        refine wpAnyH_takeE (i := 19) (v := .pointer (some ⟨g, o + mn * 5, none⟩)) rfl rfl (by kernel_rfl) (by kernel_rfl) (by kernel_rfl) (fun _ _ _ h => h) (Or.inl ⟨by rfl, fun w1 hw => by go_simp⟩) (by assumption) ?_
        (try simp only [Act.put, List.setIfInBounds_toArray, List.set_cons_zero, List.set_cons_succ])
        refine wpAnyH_takeE (i := 20) (v := .pointer (some ⟨g, o + mn * 5 + 2, none⟩)) rfl rfl (by kernel_rfl) (by kernel_rfl) (by kernel_rfl) (fun _ _ _ h => h) (Or.inl ⟨by rfl, fun w1 hw => by go_simp⟩) (by assumption) ?_
        (try simp only [Act.put, List.setIfInBounds_toArray, List.set_cons_zero, List.set_cons_succ])
        refine wpAnyH_takeE (i := 21) (v := .int .i64 key2) rfl rfl (by kernel_rfl) (by kernel_rfl) (by kernel_rfl) (fun _ _ _ h => h) (Or.inl ⟨by rfl, fun w1 hw => by have c1 := hw.2.2; clear hw; go_simp⟩) (by assumption) ?_
        (try simp only [Act.put, List.setIfInBounds_toArray, List.set_cons_zero, List.set_cons_succ])
        refine wpAnyH_takeE (i := 22) (v := .bool false) rfl rfl (by kernel_rfl) (by kernel_rfl) (by kernel_rfl) (fun _ _ _ h => h) (Or.inl ⟨by rfl, fun w1 hw => by go_simp⟩) (by assumption) ?_
        (try simp only [Act.put, List.setIfInBounds_toArray, List.set_cons_zero, List.set_cons_succ])
        refine wpAnyH_takeE (i := 23) (v := .bool false) rfl rfl (by kernel_rfl) (by kernel_rfl) (by kernel_rfl) (fun _ _ _ h => h) (Or.inl ⟨by rfl, fun w1 hw => by go_simp⟩) (by assumption) ?_
        refine wpAnyH_done (by kernel_rfl) ?_ _
        clear hHeld
        clear hkb
        have HKL : Hid ((rcols.length : Int) = key2) := Lib.hid hkl
        clear hkl
        obtain ⟨w3, hw3⟩ : ∃ w3, w2.drew = w3 := ⟨_, rfl⟩
        have hkd : Kept Kno w2 w3 := by rw [← hw3]; exact (Kept.refl _ _).drew
        have HKD := Lib.hid hkd
        have c70 : w3.cell? ⟨T7, 0, none⟩ = some (.slice cA rcols.length cn) := (HB7.out.kept hkd (fun h => h)).cell 0
        rw [hw3]
        clear hw3 hkd
        go_upto_region 8 with (fail)
        clear c70
        go_loopw [49] (fun i wr => NRel rcols.length w2 i wr) (fun i _ => rcols.length - (intOf i).toNat)
        case atStart => exact ⟨0, Nat.zero_le _, rfl, HKD.out⟩
        case round =>
          clear HKD
          obtain ⟨kk, hkk, rfl, hkr⟩ := hrel
          have HKK := Lib.hid hkr
          have hkk0 : (0 : Int) ≤ (kk : Int) := by omega
          clear hkr
          by_cases hltk : kk < rcols.length
          · have hltkI : (kk : Int) < (rcols.length : Int) := by omega
            obtain ⟨cA', cn', he, hcn1, hcn2, -, -, -, hcatR⟩ := HRS.out
            simp only [Value.slice.injEq, true_and] at he
            obtain ⟨rfl, rfl⟩ := he
            obtain ⟨gC, oC, rfl, -, hcR⟩ := hcatR (by omega)
            obtain ⟨cvI, hcv⟩ : ∃ c, rcols[kk]? = some c := ⟨_, List.getElem?_eq_getElem hltk⟩
            have cR : wr.cell? ⟨gC, oC + kk, none⟩ = some (.int .i64 cvI) := (HK1.out.then0 (HK2.out.then0 HKK.out)).cell_some (hcR kk _ (by rw [List.getElem?_map, hcv]; rfl)) (fun h => h)
            have hcn2' : cn ≤ 9223372036854775807 := by simpa only [maxLen] using hcn2
            clear hcatR hcR hcv hcn2
            go_upto_region 10 with (fail)
            clear cR
            by_cases hc0 : cvI < 0
            · have hc0d : decide (cvI < 0) = true := by simp [hc0]
              refine wp_region_held_drew (S := fun w' => Blk w' T7 153 #[.slice (some ⟨gC, oC, none⟩) rcols.length cn, .int .i64 (mn : Int)] ∧ Blk w' w.heap.size 82 #[.int .i64 ver, .slice (some ⟨g, o, none⟩) ts.length cap] ∧ Blk w' (w.heap.size + 1) 151 #[.string name, .slice (some ⟨g2, o2, none⟩) cols.length cc, .int .i64 key, .slice (some ⟨gr, og, none⟩) refs.length rc, .slice kA chk.length kc]) (by kernel_rfl) ⟨(HB7.out.kept HKK.out (fun h => h)).drew, (HB2.out.kept (HK2.out.then0 HKK.out) (fun h => h)).drew, (HB5.out.kept (HK2.out.then0 HKK.out) (fun h => h)).drew⟩ (fun hHeld => ?_)
              refine wpAnyH_takeE (i := 0) (v := .int .i64 cvI) rfl rfl (by kernel_rfl) (by kernel_rfl) (by kernel_rfl) (fun _ _ _ h => h) (Or.inl ⟨by rfl, fun w1 hw => by go_simp⟩) (by assumption) ?_
              (try simp only [Act.put, List.setIfInBounds_toArray, List.set_cons_zero, List.set_cons_succ])
              refine wpAnyH_takeE (i := 1) (v := .bool true) rfl rfl (by kernel_rfl) (by kernel_rfl) (by kernel_rfl) (fun _ _ _ h => h) (Or.inl ⟨by rfl, fun w1 hw => by go_simp⟩) (by assumption) ?_
              (try simp only [Act.put, List.setIfInBounds_toArray, List.set_cons_zero, List.set_cons_succ])
              refine wpAnyH_takeE (i := 2) (v := .bool true) rfl rfl (by kernel_rfl) (by kernel_rfl) (by kernel_rfl) (fun _ _ _ h => h) (Or.inl ⟨by rfl, fun w1 hw => by go_simp⟩) (by assumption) ?_
              (try simp only [Act.put, List.setIfInBounds_toArray, List.set_cons_zero, List.set_cons_succ])
              refine wpAnyH_takeE (i := 3) (v := undef) rfl rfl (by kernel_rfl) (by kernel_rfl) (by kernel_rfl) (fun _ _ _ h => h) (Or.inr ⟨by rfl, rfl⟩) (by assumption) ?_
              (try simp only [Act.put, List.setIfInBounds_toArray, List.set_cons_zero, List.set_cons_succ])
              refine wpAnyH_takeE (i := 4) (v := undef) rfl rfl (by kernel_rfl) (by kernel_rfl) (by kernel_rfl) (fun _ _ _ h => h) (Or.inr ⟨by rfl, rfl⟩) (by assumption) ?_
              (try simp only [Act.put, List.setIfInBounds_toArray, List.set_cons_zero, List.set_cons_succ])
              refine wpAnyH_takeE (i := 5) (v := undef) rfl rfl (by kernel_rfl) (by kernel_rfl) (by kernel_rfl) (fun _ _ _ h => h) (Or.inr ⟨by rfl, rfl⟩) (by assumption) ?_
              (try simp only [Act.put, List.setIfInBounds_toArray, List.set_cons_zero, List.set_cons_succ])
              refine wpAnyH_takeE (i := 6) (v := undef) rfl rfl (by kernel_rfl) (by kernel_rfl) (by kernel_rfl) (fun _ _ _ h => h) (Or.inr ⟨by rfl, rfl⟩) (by assumption) ?_
              (try simp only [Act.put, List.setIfInBounds_toArray, List.set_cons_zero, List.set_cons_succ])
              refine wpAnyH_takeE (i := 7) (v := undef) rfl rfl (by kernel_rfl) (by kernel_rfl) (by kernel_rfl) (fun _ _ _ h => h) (Or.inr ⟨by rfl, rfl⟩) (by assumption) ?_
              (try simp only [Act.put, List.setIfInBounds_toArray, List.set_cons_zero, List.set_cons_succ])
              refine wpAnyH_takeE (i := 8) (v := .bool true) rfl rfl (by kernel_rfl) (by kernel_rfl) (by kernel_rfl) (fun _ _ _ h => h) (Or.inl ⟨by rfl, fun w1 hw => by go_simp⟩) (by assumption) ?_
              (try simp only [Act.put, List.setIfInBounds_toArray, List.set_cons_zero, List.set_cons_succ])
              refine wpAnyH_takeE (i := 9) (v := .bool true) rfl rfl (by kernel_rfl) (by kernel_rfl) (by kernel_rfl) (fun _ _ _ h => h) (Or.inl ⟨by rfl, fun w1 hw => by go_simp⟩) (by assumption) ?_
              (try simp only [Act.put, List.setIfInBounds_toArray, List.set_cons_zero, List.set_cons_succ])
              refine wpAnyH_takeE (i := 10) (v := undef) rfl rfl (by kernel_rfl) (by kernel_rfl) (by kernel_rfl) (fun _ _ _ h => h) (Or.inr ⟨by rfl, rfl⟩) (by assumption) ?_
              (try simp only [Act.put, List.setIfInBounds_toArray, List.set_cons_zero, List.set_cons_succ])
              refine wpAnyH_takeE (i := 11) (v := undef) rfl rfl (by kernel_rfl) (by kernel_rfl) (by kernel_rfl) (fun _ _ _ h => h) (Or.inr ⟨by rfl, rfl⟩) (by assumption) ?_
              (try simp only [Act.put, List.setIfInBounds_toArray, List.set_cons_zero, List.set_cons_succ])
              refine wpAnyH_takeE (i := 12) (v := undef) rfl rfl (by kernel_rfl) (by kernel_rfl) (by kernel_rfl) (fun _ _ _ h => h) (Or.inr ⟨by rfl, rfl⟩) (by assumption) ?_
              (try simp only [Act.put, List.setIfInBounds_toArray, List.set_cons_zero, List.set_cons_succ])
              refine wpAnyH_takeE (i := 13) (v := undef) rfl rfl (by kernel_rfl) (by kernel_rfl) (by kernel_rfl) (fun _ _ _ h => h) (Or.inr ⟨by rfl, rfl⟩) (by assumption) ?_
              (try simp only [Act.put, List.setIfInBounds_toArray, List.set_cons_zero, List.set_cons_succ])
              refine wpAnyH_takeE (i := 14) (v := undef) rfl rfl (by kernel_rfl) (by kernel_rfl) (by kernel_rfl) (fun _ _ _ h => h) (Or.inr ⟨by rfl, rfl⟩) (by assumption) ?_
              (try simp only [Act.put, List.setIfInBounds_toArray, List.set_cons_zero, List.set_cons_succ])
              refine wpAnyH_takeE (i := 15) (v := undef) rfl rfl (by kernel_rfl) (by kernel_rfl) (by kernel_rfl) (fun _ _ _ h => h) (Or.inr ⟨by rfl, rfl⟩) (by assumption) ?_
              (try simp only [Act.put, List.setIfInBounds_toArray, List.set_cons_zero, List.set_cons_succ])
              refine wpAnyH_takeE (i := 16) (v := undef) rfl rfl (by kernel_rfl) (by kernel_rfl) (by kernel_rfl) (fun _ _ _ h => h) (Or.inr ⟨by rfl, rfl⟩) (by assumption) ?_
              (try simp only [Act.put, List.setIfInBounds_toArray, List.set_cons_zero, List.set_cons_succ])
              refine wpAnyH_takeE (i := 17) (v := undef) rfl rfl (by kernel_rfl) (by kernel_rfl) (by kernel_rfl) (fun _ _ _ h => h) (Or.inr ⟨by rfl, rfl⟩) (by assumption) ?_
              (try simp only [Act.put, List.setIfInBounds_toArray, List.set_cons_zero, List.set_cons_succ])
              refine wpAnyH_takeE (i := 18) (v := undef) rfl rfl (by kernel_rfl) (by kernel_rfl) (by kernel_rfl) (fun _ _ _ h => h) (Or.inr ⟨by rfl, rfl⟩) (by assumption) ?_
              (try simp only [Act.put, List.setIfInBounds_toArray, List.set_cons_zero, List.set_cons_succ])
              refine wpAnyH_takeE (i := 19) (v := undef) rfl rfl (by kernel_rfl) (by kernel_rfl) (by kernel_rfl) (fun _ _ _ h => h) (Or.inr ⟨by rfl, rfl⟩) (by assumption) ?_
              (try simp only [Act.put, List.setIfInBounds_toArray, List.set_cons_zero, List.set_cons_succ])
              refine wpAnyH_takeE (i := 20) (v := undef) rfl rfl (by kernel_rfl) (by kernel_rfl) (by kernel_rfl) (fun _ _ _ h => h) (Or.inr ⟨by rfl, rfl⟩) (by assumption) ?_
              (try simp only [Act.put, List.setIfInBounds_toArray, List.set_cons_zero, List.set_cons_succ])
              refine wpAnyH_takeE (i := 21) (v := undef) rfl rfl (by kernel_rfl) (by kernel_rfl) (by kernel_rfl) (fun _ _ _ h => h) (Or.inr ⟨by rfl, rfl⟩) (by assumption) ?_
              (try simp only [Act.put, List.setIfInBounds_toArray, List.set_cons_zero, List.set_cons_succ])
              refine wpAnyH_takeE (i := 22) (v := undef) rfl rfl (by kernel_rfl) (by kernel_rfl) (by kernel_rfl) (fun _ _ _ h => h) (Or.inr ⟨by rfl, rfl⟩) (by assumption) ?_
              (try simp only [Act.put, List.setIfInBounds_toArray, List.set_cons_zero, List.set_cons_succ])
              refine wpAnyH_takeE (i := 23) (v := undef) rfl rfl (by kernel_rfl) (by kernel_rfl) (by kernel_rfl) (fun _ _ _ h => h) (Or.inr ⟨by rfl, rfl⟩) (by assumption) ?_
              (try simp only [Act.put, List.setIfInBounds_toArray, List.set_cons_zero, List.set_cons_succ])
              refine wpAnyH_takeE (i := 24) (v := undef) rfl rfl (by kernel_rfl) (by kernel_rfl) (by kernel_rfl) (fun _ _ _ h => h) (Or.inr ⟨by rfl, rfl⟩) (by assumption) ?_
              (try simp only [Act.put, List.setIfInBounds_toArray, List.set_cons_zero, List.set_cons_succ])
              refine wpAnyH_takeE (i := 25) (v := undef) rfl rfl (by kernel_rfl) (by kernel_rfl) (by kernel_rfl) (fun _ _ _ h => h) (Or.inr ⟨by rfl, rfl⟩) (by assumption) ?_
              (try simp only [Act.put, List.setIfInBounds_toArray, List.set_cons_zero, List.set_cons_succ])
              refine wpAnyH_takeE (i := 26) (v := undef) rfl rfl (by kernel_rfl) (by kernel_rfl) (by kernel_rfl) (fun _ _ _ h => h) (Or.inr ⟨by rfl, rfl⟩) (by assumption) ?_
              (try simp only [Act.put, List.setIfInBounds_toArray, List.set_cons_zero, List.set_cons_succ])
              refine wpAnyH_takeE (i := 27) (v := undef) rfl rfl (by kernel_rfl) (by kernel_rfl) (by kernel_rfl) (fun _ _ _ h => h) (Or.inr ⟨by rfl, rfl⟩) (by assumption) ?_
              (try simp only [Act.put, List.setIfInBounds_toArray, List.set_cons_zero, List.set_cons_succ])
              refine wpAnyH_takeE (i := 28) (v := .bool true) rfl rfl (by kernel_rfl) (by kernel_rfl) (by kernel_rfl) (fun _ _ _ h => h) (Or.inl ⟨by rfl, fun w1 hw => by go_simp⟩) (by assumption) ?_
              refine wpAnyH_done (by kernel_rfl) ?_ _
              clear hHeld
              go_wp2
              go_ret
              exact HX.out _ _ ((HK1.out.then0 (HK2.out.then0 HKK.out)).drew)
            by_cases hcT : (cols.length : Int) ≤ cvI
            · have hc0' : ¬ cvI < 0 := hc0
              refine wp_region_held_drew (S := fun w' => Blk w' T7 153 #[.slice (some ⟨gC, oC, none⟩) rcols.length cn, .int .i64 (mn : Int)] ∧ Blk w' w.heap.size 82 #[.int .i64 ver, .slice (some ⟨g, o, none⟩) ts.length cap] ∧ Blk w' (w.heap.size + 1) 151 #[.string name, .slice (some ⟨g2, o2, none⟩) cols.length cc, .int .i64 key, .slice (some ⟨gr, og, none⟩) refs.length rc, .slice kA chk.length kc]) (by kernel_rfl) ⟨(HB7.out.kept HKK.out (fun h => h)).drew, (HB2.out.kept (HK2.out.then0 HKK.out) (fun h => h)).drew, (HB5.out.kept (HK2.out.then0 HKK.out) (fun h => h)).drew⟩ (fun hHeld => ?_)
              refine wpAnyH_takeE (i := 0) (v := .int .i64 cvI) rfl rfl (by kernel_rfl) (by kernel_rfl) (by kernel_rfl) (fun _ _ _ h => h) (Or.inl ⟨by rfl, fun w1 hw => by go_simp⟩) (by assumption) ?_
              (try simp only [Act.put, List.setIfInBounds_toArray, List.set_cons_zero, List.set_cons_succ])
              refine wpAnyH_takeE (i := 1) (v := .bool false) rfl rfl (by kernel_rfl) (by kernel_rfl) (by kernel_rfl) (fun _ _ _ h => h) (Or.inl ⟨by rfl, fun w1 hw => by go_simp⟩) (by assumption) ?_
              (try simp only [Act.put, List.setIfInBounds_toArray, List.set_cons_zero, List.set_cons_succ])
              refine wpAnyH_takeE (i := 2) (v := .bool false) rfl rfl (by kernel_rfl) (by kernel_rfl) (by kernel_rfl) (fun _ _ _ h => h) (Or.inl ⟨by rfl, fun w1 hw => by go_simp⟩) (by assumption) ?_
              (try simp only [Act.put, List.setIfInBounds_toArray, List.set_cons_zero, List.set_cons_succ])
              refine wpAnyH_takeE (i := 3) (v := .int .i64 cvI) rfl rfl (by kernel_rfl) (by kernel_rfl) (by kernel_rfl) (fun _ _ _ h => h) (Or.inl ⟨by rfl, fun w1 hw => by go_simp⟩) (by assumption) ?_
              (try simp only [Act.put, List.setIfInBounds_toArray, List.set_cons_zero, List.set_cons_succ])
              refine wpAnyH_takeE (i := 4) (v := .pointer (some ⟨w.heap.size + 1, 1, none⟩)) rfl rfl (by kernel_rfl) (by kernel_rfl) (by kernel_rfl) (fun _ _ _ h => h) (Or.inl ⟨by rfl, fun w1 hw => by go_simp⟩) (by assumption) ?_
              (try simp only [Act.put, List.setIfInBounds_toArray, List.set_cons_zero, List.set_cons_succ])
              refine wpAnyH_takeE (i := 5) (v := .slice (some ⟨g2, o2, none⟩) cols.length cc) rfl rfl (by kernel_rfl) (by kernel_rfl) (by kernel_rfl) (fun _ _ _ h => h) (Or.inl ⟨by rfl, fun w1 hw => by have c1 : w1.cell? ⟨w.heap.size + 1, 1, none⟩ = some (.slice (some ⟨g2, o2, none⟩) cols.length cc) := hw.2.2.cell 1; clear hw; go_simp⟩) (by assumption) ?_
              (try simp only [Act.put, List.setIfInBounds_toArray, List.set_cons_zero, List.set_cons_succ])
              refine wpAnyH_takeE (i := 6) (v := .int .i64 (cols.length : Int)) rfl rfl (by kernel_rfl) (by kernel_rfl) (by kernel_rfl) (fun _ _ _ h => h) (Or.inl ⟨by rfl, fun w1 hw => by go_simp⟩) (by assumption) ?_
              (try simp only [Act.put, List.setIfInBounds_toArray, List.set_cons_zero, List.set_cons_succ])
              refine wpAnyH_takeE (i := 7) (v := .bool true) rfl rfl (by kernel_rfl) (by kernel_rfl) (by kernel_rfl) (fun _ _ _ h => h) (Or.inl ⟨by rfl, fun w1 hw => by go_simp⟩) (by assumption) ?_
              (try simp only [Act.put, List.setIfInBounds_toArray, List.set_cons_zero, List.set_cons_succ])
              refine wpAnyH_takeE (i := 8) (v := .bool true) rfl rfl (by kernel_rfl) (by kernel_rfl) (by kernel_rfl) (fun _ _ _ h => h) (Or.inl ⟨by rfl, fun w1 hw => by go_simp⟩) (by assumption) ?_
              (try simp only [Act.put, List.setIfInBounds_toArray, List.set_cons_zero, List.set_cons_succ])
              refine wpAnyH_takeE (i := 9) (v := .bool true) rfl rfl (by kernel_rfl) (by kernel_rfl) (by kernel_rfl) (fun _ _ _ h => h) (Or.inl ⟨by rfl, fun w1 hw => by go_simp⟩) (by assumption) ?_
              (try simp only [Act.put, List.setIfInBounds_toArray, List.set_cons_zero, List.set_cons_succ])
              refine wpAnyH_takeE (i := 10) (v := undef) rfl rfl (by kernel_rfl) (by kernel_rfl) (by kernel_rfl) (fun _ _ _ h => h) (Or.inr ⟨by rfl, rfl⟩) (by assumption) ?_
              (try simp only [Act.put, List.setIfInBounds_toArray, List.set_cons_zero, List.set_cons_succ])
              refine wpAnyH_takeE (i := 11) (v := undef) rfl rfl (by kernel_rfl) (by kernel_rfl) (by kernel_rfl) (fun _ _ _ h => h) (Or.inr ⟨by rfl, rfl⟩) (by assumption) ?_
              (try simp only [Act.put, List.setIfInBounds_toArray, List.set_cons_zero, List.set_cons_succ])
              refine wpAnyH_takeE (i := 12) (v := undef) rfl rfl (by kernel_rfl) (by kernel_rfl) (by kernel_rfl) (fun _ _ _ h => h) (Or.inr ⟨by rfl, rfl⟩) (by assumption) ?_
              (try simp only [Act.put, List.setIfInBounds_toArray, List.set_cons_zero, List.set_cons_succ])
              refine wpAnyH_takeE (i := 13) (v := undef) rfl rfl (by kernel_rfl) (by kernel_rfl) (by kernel_rfl) (fun _ _ _ h => h) (Or.inr ⟨by rfl, rfl⟩) (by assumption) ?_
              (try simp only [Act.put, List.setIfInBounds_toArray, List.set_cons_zero, List.set_cons_succ])
              refine wpAnyH_takeE (i := 14) (v := undef) rfl rfl (by kernel_rfl) (by kernel_rfl) (by kernel_rfl) (fun _ _ _ h => h) (Or.inr ⟨by rfl, rfl⟩) (by assumption) ?_
              (try simp only [Act.put, List.setIfInBounds_toArray, List.set_cons_zero, List.set_cons_succ])
              refine wpAnyH_takeE (i := 15) (v := undef) rfl rfl (by kernel_rfl) (by kernel_rfl) (by kernel_rfl) (fun _ _ _ h => h) (Or.inr ⟨by rfl, rfl⟩) (by assumption) ?_
              (try simp only [Act.put, List.setIfInBounds_toArray, List.set_cons_zero, List.set_cons_succ])
              refine wpAnyH_takeE (i := 16) (v := undef) rfl rfl (by kernel_rfl) (by kernel_rfl) (by kernel_rfl) (fun _ _ _ h => h) (Or.inr ⟨by rfl, rfl⟩) (by assumption) ?_
              (try simp only [Act.put, List.setIfInBounds_toArray, List.set_cons_zero, List.set_cons_succ])
              refine wpAnyH_takeE (i := 17) (v := undef) rfl rfl (by kernel_rfl) (by kernel_rfl) (by kernel_rfl) (fun _ _ _ h => h) (Or.inr ⟨by rfl, rfl⟩) (by assumption) ?_
              (try simp only [Act.put, List.setIfInBounds_toArray, List.set_cons_zero, List.set_cons_succ])
              refine wpAnyH_takeE (i := 18) (v := undef) rfl rfl (by kernel_rfl) (by kernel_rfl) (by kernel_rfl) (fun _ _ _ h => h) (Or.inr ⟨by rfl, rfl⟩) (by assumption) ?_
              (try simp only [Act.put, List.setIfInBounds_toArray, List.set_cons_zero, List.set_cons_succ])
              refine wpAnyH_takeE (i := 19) (v := undef) rfl rfl (by kernel_rfl) (by kernel_rfl) (by kernel_rfl) (fun _ _ _ h => h) (Or.inr ⟨by rfl, rfl⟩) (by assumption) ?_
              (try simp only [Act.put, List.setIfInBounds_toArray, List.set_cons_zero, List.set_cons_succ])
              refine wpAnyH_takeE (i := 20) (v := undef) rfl rfl (by kernel_rfl) (by kernel_rfl) (by kernel_rfl) (fun _ _ _ h => h) (Or.inr ⟨by rfl, rfl⟩) (by assumption) ?_
              (try simp only [Act.put, List.setIfInBounds_toArray, List.set_cons_zero, List.set_cons_succ])
              refine wpAnyH_takeE (i := 21) (v := undef) rfl rfl (by kernel_rfl) (by kernel_rfl) (by kernel_rfl) (fun _ _ _ h => h) (Or.inr ⟨by rfl, rfl⟩) (by assumption) ?_
              (try simp only [Act.put, List.setIfInBounds_toArray, List.set_cons_zero, List.set_cons_succ])
              refine wpAnyH_takeE (i := 22) (v := undef) rfl rfl (by kernel_rfl) (by kernel_rfl) (by kernel_rfl) (fun _ _ _ h => h) (Or.inr ⟨by rfl, rfl⟩) (by assumption) ?_
              (try simp only [Act.put, List.setIfInBounds_toArray, List.set_cons_zero, List.set_cons_succ])
              refine wpAnyH_takeE (i := 23) (v := undef) rfl rfl (by kernel_rfl) (by kernel_rfl) (by kernel_rfl) (fun _ _ _ h => h) (Or.inr ⟨by rfl, rfl⟩) (by assumption) ?_
              (try simp only [Act.put, List.setIfInBounds_toArray, List.set_cons_zero, List.set_cons_succ])
              refine wpAnyH_takeE (i := 24) (v := undef) rfl rfl (by kernel_rfl) (by kernel_rfl) (by kernel_rfl) (fun _ _ _ h => h) (Or.inr ⟨by rfl, rfl⟩) (by assumption) ?_
              (try simp only [Act.put, List.setIfInBounds_toArray, List.set_cons_zero, List.set_cons_succ])
              refine wpAnyH_takeE (i := 25) (v := undef) rfl rfl (by kernel_rfl) (by kernel_rfl) (by kernel_rfl) (fun _ _ _ h => h) (Or.inr ⟨by rfl, rfl⟩) (by assumption) ?_
              (try simp only [Act.put, List.setIfInBounds_toArray, List.set_cons_zero, List.set_cons_succ])
              refine wpAnyH_takeE (i := 26) (v := undef) rfl rfl (by kernel_rfl) (by kernel_rfl) (by kernel_rfl) (fun _ _ _ h => h) (Or.inr ⟨by rfl, rfl⟩) (by assumption) ?_
              (try simp only [Act.put, List.setIfInBounds_toArray, List.set_cons_zero, List.set_cons_succ])
              refine wpAnyH_takeE (i := 27) (v := undef) rfl rfl (by kernel_rfl) (by kernel_rfl) (by kernel_rfl) (fun _ _ _ h => h) (Or.inr ⟨by rfl, rfl⟩) (by assumption) ?_
              (try simp only [Act.put, List.setIfInBounds_toArray, List.set_cons_zero, List.set_cons_succ])
              refine wpAnyH_takeE (i := 28) (v := .bool true) rfl rfl (by kernel_rfl) (by kernel_rfl) (by kernel_rfl) (fun _ _ _ h => h) (Or.inl ⟨by rfl, fun w1 hw => by go_simp⟩) (by assumption) ?_
              refine wpAnyH_done (by kernel_rfl) ?_ _
              clear hHeld
              go_wp2
              go_ret
              exact HX.out _ _ ((HK1.out.then0 (HK2.out.then0 HKK.out)).drew)
            obtain ⟨cv, rfl⟩ : ∃ n : Nat, cvI = n := ⟨cvI.toNat, by omega⟩
            have hcvI : (cv : Int) < (cols.length : Int) := by omega
            have hcv0 : (0 : Int) ≤ (cv : Int) := by omega
            have hcvN : cv < cols.length := by omega
            have hk3 : kk < n3 := by have := HKL.out; omega
            have hk3I : (kk : Int) < (n3 : Int) := by omega
            obtain ⟨qa, hqa⟩ : ∃ q, cols[cv]? = some q := ⟨_, List.getElem?_eq_getElem (by omega)⟩
            obtain ⟨qb, hqb⟩ : ∃ q, cols3[kk]? = some q := ⟨_, List.getElem?_eq_getElem (by rw [HN3.out]; exact hk3)⟩
            have CA : Hid (wr.cell? ⟨g2, o2 + cv * 2 + 1, none⟩ = some (.int .i64 qa.2)) := Lib.hid ((HK1.out.then0 (HK2.out.then0 HKK.out)).cell_some ((CellsAt.flat (sz := 2) (i := cv) (x := qa) HC2.out (fun y => rfl) hqa) 1 _ rfl) (fun h => h))
            have CC : Hid (wr.cell? ⟨g3, o3 + kk * 2 + 1, none⟩ = some (.int .i64 qb.2)) := Lib.hid ((HK1.out.then0 (HK2.out.then0 HKK.out)).cell_some ((CellsAt.flat (sz := 2) (i := kk) (x := qb) HC3.out (fun y => rfl) hqb) 1 _ rfl) (fun h => h))
            have CB : Hid (wr.cell? ⟨g, o + mn * 5 + 1, none⟩ = some (.slice (some ⟨g3, o3, none⟩) n3 cc3)) := Lib.hid ((HK1.out.then0 (HK2.out.then0 HKK.out)).cell_some HCK.out (fun h => h))
            generalize qa.2 = ka at CA
            generalize qb.2 = kb at CC
            clear hqa hqb hc0 hcT
            by_cases hab : ka = kb
            · have habb : (ka != kb) = false := by simp [hab]
              refine wp_region_held_drew (S := fun w' => Blk w' T7 153 #[.slice (some ⟨gC, oC, none⟩) rcols.length cn, .int .i64 (mn : Int)] ∧ Blk w' w.heap.size 82 #[.int .i64 ver, .slice (some ⟨g, o, none⟩) ts.length cap] ∧ Blk w' (w.heap.size + 1) 151 #[.string name, .slice (some ⟨g2, o2, none⟩) cols.length cc, .int .i64 key, .slice (some ⟨gr, og, none⟩) refs.length rc, .slice kA chk.length kc] ∧ w'.cell? ⟨g2, o2 + cv * 2 + 1, none⟩ = some (.int .i64 ka) ∧ w'.cell? ⟨g, o + mn * 5 + 1, none⟩ = some (.slice (some ⟨g3, o3, none⟩) n3 cc3) ∧ w'.cell? ⟨g3, o3 + kk * 2 + 1, none⟩ = some (.int .i64 kb)) (by kernel_rfl) ⟨(HB7.out.kept HKK.out (fun h => h)).drew, (HB2.out.kept (HK2.out.then0 HKK.out) (fun h => h)).drew, (HB5.out.kept (HK2.out.then0 HKK.out) (fun h => h)).drew, CA.out, CB.out, CC.out⟩ (fun hHeld => ?_)
              refine wpAnyH_takeE (i := 0) (v := .int .i64 (cv : Int)) rfl rfl (by kernel_rfl) (by kernel_rfl) (by kernel_rfl) (fun _ _ _ h => h) (Or.inl ⟨by rfl, fun w1 hw => by go_simp⟩) (by assumption) ?_
              (try simp only [Act.put, List.setIfInBounds_toArray, List.set_cons_zero, List.set_cons_succ])
              refine wpAnyH_takeE (i := 1) (v := .bool false) rfl rfl (by kernel_rfl) (by kernel_rfl) (by kernel_rfl) (fun _ _ _ h => h) (Or.inl ⟨by rfl, fun w1 hw => by go_simp⟩) (by assumption) ?_
              (try simp only [Act.put, List.setIfInBounds_toArray, List.set_cons_zero, List.set_cons_succ])
              refine wpAnyH_takeE (i := 2) (v := .bool false) rfl rfl (by kernel_rfl) (by kernel_rfl) (by kernel_rfl) (fun _ _ _ h => h) (Or.inl ⟨by rfl, fun w1 hw => by go_simp⟩) (by assumption) ?_
              (try simp only [Act.put, List.setIfInBounds_toArray, List.set_cons_zero, List.set_cons_succ])
              refine wpAnyH_takeE (i := 3) (v := .int .i64 (cv : Int)) rfl rfl (by kernel_rfl) (by kernel_rfl) (by kernel_rfl) (fun _ _ _ h => h) (Or.inl ⟨by rfl, fun w1 hw => by go_simp⟩) (by assumption) ?_
              (try simp only [Act.put, List.setIfInBounds_toArray, List.set_cons_zero, List.set_cons_succ])
              refine wpAnyH_takeE (i := 4) (v := .pointer (some ⟨w.heap.size + 1, 1, none⟩)) rfl rfl (by kernel_rfl) (by kernel_rfl) (by kernel_rfl) (fun _ _ _ h => h) (Or.inl ⟨by rfl, fun w1 hw => by go_simp⟩) (by assumption) ?_
              (try simp only [Act.put, List.setIfInBounds_toArray, List.set_cons_zero, List.set_cons_succ])
              refine wpAnyH_takeE (i := 5) (v := .slice (some ⟨g2, o2, none⟩) cols.length cc) rfl rfl (by kernel_rfl) (by kernel_rfl) (by kernel_rfl) (fun _ _ _ h => h) (Or.inl ⟨by rfl, fun w1 hw => by have c1 : w1.cell? ⟨w.heap.size + 1, 1, none⟩ = some (.slice (some ⟨g2, o2, none⟩) cols.length cc) := hw.2.2.1.cell 1; clear hw; go_simp⟩) (by assumption) ?_
              (try simp only [Act.put, List.setIfInBounds_toArray, List.set_cons_zero, List.set_cons_succ])
              refine wpAnyH_takeE (i := 6) (v := .int .i64 (cols.length : Int)) rfl rfl (by kernel_rfl) (by kernel_rfl) (by kernel_rfl) (fun _ _ _ h => h) (Or.inl ⟨by rfl, fun w1 hw => by go_simp⟩) (by assumption) ?_
              (try simp only [Act.put, List.setIfInBounds_toArray, List.set_cons_zero, List.set_cons_succ])
              refine wpAnyH_takeE (i := 7) (v := .bool false) rfl rfl (by kernel_rfl) (by kernel_rfl) (by kernel_rfl) (fun _ _ _ h => h) (Or.inl ⟨by rfl, fun w1 hw => by go_simp⟩) (by assumption) ?_
              (try simp only [Act.put, List.setIfInBounds_toArray, List.set_cons_zero, List.set_cons_succ])
              refine wpAnyH_takeE (i := 8) (v := .bool false) rfl rfl (by kernel_rfl) (by kernel_rfl) (by kernel_rfl) (fun _ _ _ h => h) (Or.inl ⟨by rfl, fun w1 hw => by go_simp⟩) (by assumption) ?_
              (try simp only [Act.put, List.setIfInBounds_toArray, List.set_cons_zero, List.set_cons_succ])
              refine wpAnyH_takeE (i := 9) (v := .bool false) rfl rfl (by kernel_rfl) (by kernel_rfl) (by kernel_rfl) (fun _ _ _ h => h) (Or.inl ⟨by rfl, fun w1 hw => by go_simp⟩) (by assumption) ?_
              (try simp only [Act.put, List.setIfInBounds_toArray, List.set_cons_zero, List.set_cons_succ])
              refine wpAnyH_takeE (i := 10) (v := .pointer (some ⟨w.heap.size + 1, 1, none⟩)) rfl rfl (by kernel_rfl) (by kernel_rfl) (by kernel_rfl) (fun _ _ _ h => h) (Or.inl ⟨by rfl, fun w1 hw => by go_simp⟩) (by assumption) ?_
              (try simp only [Act.put, List.setIfInBounds_toArray, List.set_cons_zero, List.set_cons_succ])
              refine wpAnyH_takeE (i := 11) (v := .slice (some ⟨g2, o2, none⟩) cols.length cc) rfl rfl (by kernel_rfl) (by kernel_rfl) (by kernel_rfl) (fun _ _ _ h => h) (Or.inl ⟨by rfl, fun w1 hw => by have c1 : w1.cell? ⟨w.heap.size + 1, 1, none⟩ = some (.slice (some ⟨g2, o2, none⟩) cols.length cc) := hw.2.2.1.cell 1; clear hw; go_simp⟩) (by assumption) ?_
              (try simp only [Act.put, List.setIfInBounds_toArray, List.set_cons_zero, List.set_cons_succ])
              refine wpAnyH_takeE (i := 12) (v := .int .i64 (cv : Int)) rfl rfl (by kernel_rfl) (by kernel_rfl) (by kernel_rfl) (fun _ _ _ h => h) (Or.inl ⟨by rfl, fun w1 hw => by go_simp⟩) (by assumption) ?_
              (try simp only [Act.put, List.setIfInBounds_toArray, List.set_cons_zero, List.set_cons_succ])
              refine wpAnyH_takeE (i := 13) (v := .pointer (some ⟨g2, o2 + cv * 2, none⟩)) rfl rfl (by kernel_rfl) (by kernel_rfl) (by kernel_rfl) (fun _ _ _ h => h) (Or.inl ⟨by rfl, fun w1 hw => by go_simp⟩) (by assumption) ?_
              (try simp only [Act.put, List.setIfInBounds_toArray, List.set_cons_zero, List.set_cons_succ])
              refine wpAnyH_takeE (i := 14) (v := .pointer (some ⟨g2, o2 + cv * 2 + 1, none⟩)) rfl rfl (by kernel_rfl) (by kernel_rfl) (by kernel_rfl) (fun _ _ _ h => h) (Or.inl ⟨by rfl, fun w1 hw => by go_simp⟩) (by assumption) ?_
              (try simp only [Act.put, List.setIfInBounds_toArray, List.set_cons_zero, List.set_cons_succ])
              refine wpAnyH_takeE (i := 15) (v := .int .i64 ka) rfl rfl (by kernel_rfl) (by kernel_rfl) (by kernel_rfl) (fun _ _ _ h => h) (Or.inl ⟨by rfl, fun w1 hw => by have c1 := hw.2.2.2.1; clear hw; go_simp⟩) (by assumption) ?_
              (try simp only [Act.put, List.setIfInBounds_toArray, List.set_cons_zero, List.set_cons_succ])
              refine wpAnyH_takeE (i := 16) (v := .pointer (some ⟨w.heap.size, 1, none⟩)) rfl rfl (by kernel_rfl) (by kernel_rfl) (by kernel_rfl) (fun _ _ _ h => h) (Or.inl ⟨by rfl, fun w1 hw => by go_simp⟩) (by assumption) ?_
              (try simp only [Act.put, List.setIfInBounds_toArray, List.set_cons_zero, List.set_cons_succ])
              refine wpAnyH_takeE (i := 17) (v := .slice (some ⟨g, o, none⟩) ts.length cap) rfl rfl (by kernel_rfl) (by kernel_rfl) (by kernel_rfl) (fun _ _ _ h => h) (Or.inl ⟨by rfl, fun w1 hw => by have c1 : w1.cell? ⟨w.heap.size, 1, none⟩ = some (.slice (some ⟨g, o, none⟩) ts.length cap) := hw.2.1.cell 1; clear hw; go_simp⟩) (by assumption) ?_
              (try simp only [Act.put, List.setIfInBounds_toArray, List.set_cons_zero, List.set_cons_succ])
              refine wpAnyH_takeE (i := 18) (v := .pointer (some ⟨T7, 1, none⟩)) rfl rfl (by kernel_rfl) (by kernel_rfl) (by kernel_rfl) (fun _ _ _ h => h) (Or.inl ⟨by rfl, fun w1 hw => by go_simp⟩) (by assumption) ?_
              (try simp only [Act.put, List.setIfInBounds_toArray, List.set_cons_zero, List.set_cons_succ])
              refine wpAnyH_takeE (i := 19) (v := .int .i64 (mn : Int)) rfl rfl (by kernel_rfl) (by kernel_rfl) (by kernel_rfl) (fun _ _ _ h => h) (Or.inl ⟨by rfl, fun w1 hw => by have c1 : w1.cell? ⟨T7, 1, none⟩ = some (.int .i64 (mn : Int)) := hw.1.cell 1; clear hw; go_simp⟩) (by assumption) ?_
              (try simp only [Act.put, List.setIfInBounds_toArray, List.set_cons_zero, List.set_cons_succ])
              refine wpAnyH_takeE (i := 20) (v := .pointer (some ⟨g, o + mn * 5, none⟩)) rfl rfl (by kernel_rfl) (by kernel_rfl) (by kernel_rfl) (fun _ _ _ h => h) (Or.inl ⟨by rfl, fun w1 hw => by go_simp⟩) (by assumption) ?_
              (try simp only [Act.put, List.setIfInBounds_toArray, List.set_cons_zero, List.set_cons_succ])
              refine wpAnyH_takeE (i := 21) (v := .pointer (some ⟨g, o + mn * 5 + 1, none⟩)) rfl rfl (by kernel_rfl) (by kernel_rfl) (by kernel_rfl) (fun _ _ _ h => h) (Or.inl ⟨by rfl, fun w1 hw => by go_simp⟩) (by assumption) ?_
              (try simp only [Act.put, List.setIfInBounds_toArray, List.set_cons_zero, List.set_cons_succ])
              refine wpAnyH_takeE (i := 22) (v := .slice (some ⟨g3, o3, none⟩) n3 cc3) rfl rfl (by kernel_rfl) (by kernel_rfl) (by kernel_rfl) (fun _ _ _ h => h) (Or.inl ⟨by rfl, fun w1 hw => by have c1 := hw.2.2.2.2.1; clear hw; go_simp⟩) (by assumption) ?_
              (try simp only [Act.put, List.setIfInBounds_toArray, List.set_cons_zero, List.set_cons_succ])
              refine wpAnyH_takeE (i := 23) (v := .int .i64 (kk : Int)) rfl rfl (by kernel_rfl) (by kernel_rfl) (by kernel_rfl) (fun _ _ _ h => h) (Or.inl ⟨by rfl, fun w1 hw => by go_simp⟩) (by assumption) ?_
              (try simp only [Act.put, List.setIfInBounds_toArray, List.set_cons_zero, List.set_cons_succ])
              refine wpAnyH_takeE (i := 24) (v := .pointer (some ⟨g3, o3 + kk * 2, none⟩)) rfl rfl (by kernel_rfl) (by kernel_rfl) (by kernel_rfl) (fun _ _ _ h => h) (Or.inl ⟨by rfl, fun w1 hw => by go_simp⟩) (by assumption) ?_
              (try simp only [Act.put, List.setIfInBounds_toArray, List.set_cons_zero, List.set_cons_succ])
              refine wpAnyH_takeE (i := 25) (v := .pointer (some ⟨g3, o3 + kk * 2 + 1, none⟩)) rfl rfl (by kernel_rfl) (by kernel_rfl) (by kernel_rfl) (fun _ _ _ h => h) (Or.inl ⟨by rfl, fun w1 hw => by go_simp⟩) (by assumption) ?_
              (try simp only [Act.put, List.setIfInBounds_toArray, List.set_cons_zero, List.set_cons_succ])
              refine wpAnyH_takeE (i := 26) (v := .int .i64 kb) rfl rfl (by kernel_rfl) (by kernel_rfl) (by kernel_rfl) (fun _ _ _ h => h) (Or.inl ⟨by rfl, fun w1 hw => by have c1 := hw.2.2.2.2.2; clear hw; go_simp⟩) (by assumption) ?_
              (try simp only [Act.put, List.setIfInBounds_toArray, List.set_cons_zero, List.set_cons_succ])
              refine wpAnyH_takeE (i := 27) (v := .bool false) rfl rfl (by kernel_rfl) (by kernel_rfl) (by kernel_rfl) (fun _ _ _ h => h) (Or.inl ⟨by rfl, fun w1 hw => by go_simp⟩) (by assumption) ?_
              (try simp only [Act.put, List.setIfInBounds_toArray, List.set_cons_zero, List.set_cons_succ])
              refine wpAnyH_takeE (i := 28) (v := .bool false) rfl rfl (by kernel_rfl) (by kernel_rfl) (by kernel_rfl) (fun _ _ _ h => h) (Or.inl ⟨by rfl, fun w1 hw => by go_simp⟩) (by assumption) ?_
              refine wpAnyH_done (by kernel_rfl) ?_ _
              clear hHeld
              go_wp2
              exact ⟨⟨kk + 1, hltk, by go_num, HKK.out.drew⟩, by simp only [intOf]; omega⟩
            · have habb : (ka != kb) = true := by rw [bne_iff_ne]; exact hab
              refine wp_region_held_drew (S := fun w' => Blk w' T7 153 #[.slice (some ⟨gC, oC, none⟩) rcols.length cn, .int .i64 (mn : Int)] ∧ Blk w' w.heap.size 82 #[.int .i64 ver, .slice (some ⟨g, o, none⟩) ts.length cap] ∧ Blk w' (w.heap.size + 1) 151 #[.string name, .slice (some ⟨g2, o2, none⟩) cols.length cc, .int .i64 key, .slice (some ⟨gr, og, none⟩) refs.length rc, .slice kA chk.length kc] ∧ w'.cell? ⟨g2, o2 + cv * 2 + 1, none⟩ = some (.int .i64 ka) ∧ w'.cell? ⟨g, o + mn * 5 + 1, none⟩ = some (.slice (some ⟨g3, o3, none⟩) n3 cc3) ∧ w'.cell? ⟨g3, o3 + kk * 2 + 1, none⟩ = some (.int .i64 kb)) (by kernel_rfl) ⟨(HB7.out.kept HKK.out (fun h => h)).drew, (HB2.out.kept (HK2.out.then0 HKK.out) (fun h => h)).drew, (HB5.out.kept (HK2.out.then0 HKK.out) (fun h => h)).drew, CA.out, CB.out, CC.out⟩ (fun hHeld => ?_)
              refine wpAnyH_takeE (i := 0) (v := .int .i64 (cv : Int)) rfl rfl (by kernel_rfl) (by kernel_rfl) (by kernel_rfl) (fun _ _ _ h => h) (Or.inl ⟨by rfl, fun w1 hw => by go_simp⟩) (by assumption) ?_
              (try simp only [Act.put, List.setIfInBounds_toArray, List.set_cons_zero, List.set_cons_succ])
              refine wpAnyH_takeE (i := 1) (v := .bool false) rfl rfl (by kernel_rfl) (by kernel_rfl) (by kernel_rfl) (fun _ _ _ h => h) (Or.inl ⟨by rfl, fun w1 hw => by go_simp⟩) (by assumption) ?_
              (try simp only [Act.put, List.setIfInBounds_toArray, List.set_cons_zero, List.set_cons_succ])
              refine wpAnyH_takeE (i := 2) (v := .bool false) rfl rfl (by kernel_rfl) (by kernel_rfl) (by kernel_rfl) (fun _ _ _ h => h) (Or.inl ⟨by rfl, fun w1 hw => by go_simp⟩) (by assumption) ?_
              (try simp only [Act.put, List.setIfInBounds_toArray, List.set_cons_zero, List.set_cons_succ])
              refine wpAnyH_takeE (i := 3) (v := .int .i64 (cv : Int)) rfl rfl (by kernel_rfl) (by kernel_rfl) (by kernel_rfl) (fun _ _ _ h => h) (Or.inl ⟨by rfl, fun w1 hw => by go_simp⟩) (by assumption) ?_
              (try simp only [Act.put, List.setIfInBounds_toArray, List.set_cons_zero, List.set_cons_succ])
              refine wpAnyH_takeE (i := 4) (v := .pointer (some ⟨w.heap.size + 1, 1, none⟩)) rfl rfl (by kernel_rfl) (by kernel_rfl) (by kernel_rfl) (fun _ _ _ h => h) (Or.inl ⟨by rfl, fun w1 hw => by go_simp⟩) (by assumption) ?_
              (try simp only [Act.put, List.setIfInBounds_toArray, List.set_cons_zero, List.set_cons_succ])
              refine wpAnyH_takeE (i := 5) (v := .slice (some ⟨g2, o2, none⟩) cols.length cc) rfl rfl (by kernel_rfl) (by kernel_rfl) (by kernel_rfl) (fun _ _ _ h => h) (Or.inl ⟨by rfl, fun w1 hw => by have c1 : w1.cell? ⟨w.heap.size + 1, 1, none⟩ = some (.slice (some ⟨g2, o2, none⟩) cols.length cc) := hw.2.2.1.cell 1; clear hw; go_simp⟩) (by assumption) ?_
              (try simp only [Act.put, List.setIfInBounds_toArray, List.set_cons_zero, List.set_cons_succ])
              refine wpAnyH_takeE (i := 6) (v := .int .i64 (cols.length : Int)) rfl rfl (by kernel_rfl) (by kernel_rfl) (by kernel_rfl) (fun _ _ _ h => h) (Or.inl ⟨by rfl, fun w1 hw => by go_simp⟩) (by assumption) ?_
              (try simp only [Act.put, List.setIfInBounds_toArray, List.set_cons_zero, List.set_cons_succ])
              refine wpAnyH_takeE (i := 7) (v := .bool false) rfl rfl (by kernel_rfl) (by kernel_rfl) (by kernel_rfl) (fun _ _ _ h => h) (Or.inl ⟨by rfl, fun w1 hw => by go_simp⟩) (by assumption) ?_
              (try simp only [Act.put, List.setIfInBounds_toArray, List.set_cons_zero, List.set_cons_succ])
              refine wpAnyH_takeE (i := 8) (v := .bool false) rfl rfl (by kernel_rfl) (by kernel_rfl) (by kernel_rfl) (fun _ _ _ h => h) (Or.inl ⟨by rfl, fun w1 hw => by go_simp⟩) (by assumption) ?_
              (try simp only [Act.put, List.setIfInBounds_toArray, List.set_cons_zero, List.set_cons_succ])
              refine wpAnyH_takeE (i := 9) (v := .bool false) rfl rfl (by kernel_rfl) (by kernel_rfl) (by kernel_rfl) (fun _ _ _ h => h) (Or.inl ⟨by rfl, fun w1 hw => by go_simp⟩) (by assumption) ?_
              (try simp only [Act.put, List.setIfInBounds_toArray, List.set_cons_zero, List.set_cons_succ])
              refine wpAnyH_takeE (i := 10) (v := .pointer (some ⟨w.heap.size + 1, 1, none⟩)) rfl rfl (by kernel_rfl) (by kernel_rfl) (by kernel_rfl) (fun _ _ _ h => h) (Or.inl ⟨by rfl, fun w1 hw => by go_simp⟩) (by assumption) ?_
              (try simp only [Act.put, List.setIfInBounds_toArray, List.set_cons_zero, List.set_cons_succ])
              refine wpAnyH_takeE (i := 11) (v := .slice (some ⟨g2, o2, none⟩) cols.length cc) rfl rfl (by kernel_rfl) (by kernel_rfl) (by kernel_rfl) (fun _ _ _ h => h) (Or.inl ⟨by rfl, fun w1 hw => by have c1 : w1.cell? ⟨w.heap.size + 1, 1, none⟩ = some (.slice (some ⟨g2, o2, none⟩) cols.length cc) := hw.2.2.1.cell 1; clear hw; go_simp⟩) (by assumption) ?_
              (try simp only [Act.put, List.setIfInBounds_toArray, List.set_cons_zero, List.set_cons_succ])
              refine wpAnyH_takeE (i := 12) (v := .int .i64 (cv : Int)) rfl rfl (by kernel_rfl) (by kernel_rfl) (by kernel_rfl) (fun _ _ _ h => h) (Or.inl ⟨by rfl, fun w1 hw => by go_simp⟩) (by assumption) ?_
              (try simp only [Act.put, List.setIfInBounds_toArray, List.set_cons_zero, List.set_cons_succ])
              refine wpAnyH_takeE (i := 13) (v := .pointer (some ⟨g2, o2 + cv * 2, none⟩)) rfl rfl (by kernel_rfl) (by kernel_rfl) (by kernel_rfl) (fun _ _ _ h => h) (Or.inl ⟨by rfl, fun w1 hw => by go_simp⟩) (by assumption) ?_
              (try simp only [Act.put, List.setIfInBounds_toArray, List.set_cons_zero, List.set_cons_succ])
              refine wpAnyH_takeE (i := 14) (v := .pointer (some ⟨g2, o2 + cv * 2 + 1, none⟩)) rfl rfl (by kernel_rfl) (by kernel_rfl) (by kernel_rfl) (fun _ _ _ h => h) (Or.inl ⟨by rfl, fun w1 hw => by go_simp⟩) (by assumption) ?_
              (try simp only [Act.put, List.setIfInBounds_toArray, List.set_cons_zero, List.set_cons_succ])
              refine wpAnyH_takeE (i := 15) (v := .int .i64 ka) rfl rfl (by kernel_rfl) (by kernel_rfl) (by kernel_rfl) (fun _ _ _ h => h) (Or.inl ⟨by rfl, fun w1 hw => by have c1 := hw.2.2.2.1; clear hw; go_simp⟩) (by assumption) ?_
              (try simp only [Act.put, List.setIfInBounds_toArray, List.set_cons_zero, List.set_cons_succ])
              refine wpAnyH_takeE (i := 16) (v := .pointer (some ⟨w.heap.size, 1, none⟩)) rfl rfl (by kernel_rfl) (by kernel_rfl) (by kernel_rfl) (fun _ _ _ h => h) (Or.inl ⟨by rfl, fun w1 hw => by go_simp⟩) (by assumption) ?_
              (try simp only [Act.put, List.setIfInBounds_toArray, List.set_cons_zero, List.set_cons_succ])
              refine wpAnyH_takeE (i := 17) (v := .slice (some ⟨g, o, none⟩) ts.length cap) rfl rfl (by kernel_rfl) (by kernel_rfl) (by kernel_rfl) (fun _ _ _ h => h) (Or.inl ⟨by rfl, fun w1 hw => by have c1 : w1.cell? ⟨w.heap.size, 1, none⟩ = some (.slice (some ⟨g, o, none⟩) ts.length cap) := hw.2.1.cell 1; clear hw; go_simp⟩) (by assumption) ?_
              (try simp only [Act.put, List.setIfInBounds_toArray, List.set_cons_zero, List.set_cons_succ])
              refine wpAnyH_takeE (i := 18) (v := .pointer (some ⟨T7, 1, none⟩)) rfl rfl (by kernel_rfl) (by kernel_rfl) (by kernel_rfl) (fun _ _ _ h => h) (Or.inl ⟨by rfl, fun w1 hw => by go_simp⟩) (by assumption) ?_
              (try simp only [Act.put, List.setIfInBounds_toArray, List.set_cons_zero, List.set_cons_succ])
              refine wpAnyH_takeE (i := 19) (v := .int .i64 (mn : Int)) rfl rfl (by kernel_rfl) (by kernel_rfl) (by kernel_rfl) (fun _ _ _ h => h) (Or.inl ⟨by rfl, fun w1 hw => by have c1 : w1.cell? ⟨T7, 1, none⟩ = some (.int .i64 (mn : Int)) := hw.1.cell 1; clear hw; go_simp⟩) (by assumption) ?_
              (try simp only [Act.put, List.setIfInBounds_toArray, List.set_cons_zero, List.set_cons_succ])
              refine wpAnyH_takeE (i := 20) (v := .pointer (some ⟨g, o + mn * 5, none⟩)) rfl rfl (by kernel_rfl) (by kernel_rfl) (by kernel_rfl) (fun _ _ _ h => h) (Or.inl ⟨by rfl, fun w1 hw => by go_simp⟩) (by assumption) ?_
              (try simp only [Act.put, List.setIfInBounds_toArray, List.set_cons_zero, List.set_cons_succ])
              refine wpAnyH_takeE (i := 21) (v := .pointer (some ⟨g, o + mn * 5 + 1, none⟩)) rfl rfl (by kernel_rfl) (by kernel_rfl) (by kernel_rfl) (fun _ _ _ h => h) (Or.inl ⟨by rfl, fun w1 hw => by go_simp⟩) (by assumption) ?_
              (try simp only [Act.put, List.setIfInBounds_toArray, List.set_cons_zero, List.set_cons_succ])
              refine wpAnyH_takeE (i := 22) (v := .slice (some ⟨g3, o3, none⟩) n3 cc3) rfl rfl (by kernel_rfl) (by kernel_rfl) (by kernel_rfl) (fun _ _ _ h => h) (Or.inl ⟨by rfl, fun w1 hw => by have c1 := hw.2.2.2.2.1; clear hw; go_simp⟩) (by assumption) ?_
              (try simp only [Act.put, List.setIfInBounds_toArray, List.set_cons_zero, List.set_cons_succ])
              refine wpAnyH_takeE (i := 23) (v := .int .i64 (kk : Int)) rfl rfl (by kernel_rfl) (by kernel_rfl) (by kernel_rfl) (fun _ _ _ h => h) (Or.inl ⟨by rfl, fun w1 hw => by go_simp⟩) (by assumption) ?_
              (try simp only [Act.put, List.setIfInBounds_toArray, List.set_cons_zero, List.set_cons_succ])
              refine wpAnyH_takeE (i := 24) (v := .pointer (some ⟨g3, o3 + kk * 2, none⟩)) rfl rfl (by kernel_rfl) (by kernel_rfl) (by kernel_rfl) (fun _ _ _ h => h) (Or.inl ⟨by rfl, fun w1 hw => by go_simp⟩) (by assumption) ?_
              (try simp only [Act.put, List.setIfInBounds_toArray, List.set_cons_zero, List.set_cons_succ])
              refine wpAnyH_takeE (i := 25) (v := .pointer (some ⟨g3, o3 + kk * 2 + 1, none⟩)) rfl rfl (by kernel_rfl) (by kernel_rfl) (by kernel_rfl) (fun _ _ _ h => h) (Or.inl ⟨by rfl, fun w1 hw => by go_simp⟩) (by assumption) ?_
              (try simp only [Act.put, List.setIfInBounds_toArray, List.set_cons_zero, List.set_cons_succ])
              refine wpAnyH_takeE (i := 26) (v := .int .i64 kb) rfl rfl (by kernel_rfl) (by kernel_rfl) (by kernel_rfl) (fun _ _ _ h => h) (Or.inl ⟨by rfl, fun w1 hw => by have c1 := hw.2.2.2.2.2; clear hw; go_simp⟩) (by assumption) ?_
              (try simp only [Act.put, List.setIfInBounds_toArray, List.set_cons_zero, List.set_cons_succ])
              refine wpAnyH_takeE (i := 27) (v := .bool true) rfl rfl (by kernel_rfl) (by kernel_rfl) (by kernel_rfl) (fun _ _ _ h => h) (Or.inl ⟨by rfl, fun w1 hw => by go_simp⟩) (by assumption) ?_
              (try simp only [Act.put, List.setIfInBounds_toArray, List.set_cons_zero, List.set_cons_succ])
              refine wpAnyH_takeE (i := 28) (v := .bool true) rfl rfl (by kernel_rfl) (by kernel_rfl) (by kernel_rfl) (fun _ _ _ h => h) (Or.inl ⟨by rfl, fun w1 hw => by go_simp⟩) (by assumption) ?_
              refine wpAnyH_done (by kernel_rfl) ?_ _
              clear hHeld
              go_wp2
              go_ret
              exact HX.out _ _ ((HK1.out.then0 (HK2.out.then0 HKK.out)).drew)
          · have hltkI : ¬ (kk : Int) < (rcols.length : Int) := by omega
            go_wp2
            exact ⟨⟨k + 1, hlt, by go_num, HK2.out.then0 HKK.out⟩, by simp only [intOf]; omega⟩
      · have hkb : ((rcols.length : Int) != key2) = true := by rw [bne_iff_ne]; exact hkl
        refine wp_region_held_drew (S := fun w' => Blk w' T7 153 #[.slice cA rcols.length cn, .int .i64 (mn : Int)] ∧ Blk w' w.heap.size 82 #[.int .i64 ver, .slice (some ⟨g, o, none⟩) ts.length cap] ∧ w'.cell? ⟨g, o + mn * 5 + 2, none⟩ = some (.int .i64 key2)) (by kernel_rfl) ⟨HB7.out, (HB2.out.kept HK2.out (fun h => h)).drew, CK.out⟩ (fun hHeld => ?_)
        refine wpAnyH_takeE (i := 0) (v := .pointer (some ⟨T7, 1, none⟩)) rfl rfl (by kernel_rfl) (by kernel_rfl) (by kernel_rfl) (fun _ _ _ h => h) (Or.inl ⟨by rfl, fun w1 hw => by go_simp⟩) (by assumption) ?_
        (try simp only [Act.put, List.setIfInBounds_toArray, List.set_cons_zero, List.set_cons_succ])
        refine wpAnyH_takeE (i := 1) (v := .int .i64 (mn : Int)) rfl rfl (by kernel_rfl) (by kernel_rfl) (by kernel_rfl) (fun _ _ _ h => h) (Or.inl ⟨by rfl, fun w1 hw => by have c1 : w1.cell? ⟨T7, 1, none⟩ = some (.int .i64 (mn : Int)) := hw.1.cell 1; clear hw; go_simp⟩) (by assumption) ?_
        (try simp only [Act.put, List.setIfInBounds_toArray, List.set_cons_zero, List.set_cons_succ])
        refine wpAnyH_takeE (i := 2) (v := .bool false) rfl rfl (by kernel_rfl) (by kernel_rfl) (by kernel_rfl) (fun _ _ _ h => h) (Or.inl ⟨by rfl, fun w1 hw => by go_simp⟩) (by assumption) ?_
        (try simp only [Act.put, List.setIfInBounds_toArray, List.set_cons_zero, List.set_cons_succ])
        refine wpAnyH_takeE (i := 3) (v := .bool false) rfl rfl (by kernel_rfl) (by kernel_rfl) (by kernel_rfl) (fun _ _ _ h => h) (Or.inl ⟨by rfl, fun w1 hw => by go_simp⟩) (by assumption) ?_
        (try simp only [Act.put, List.setIfInBounds_toArray, List.set_cons_zero, List.set_cons_succ])
        refine wpAnyH_takeE (i := 4) (v := .pointer (some ⟨T7, 1, none⟩)) rfl rfl (by kernel_rfl) (by kernel_rfl) (by kernel_rfl) (fun _ _ _ h => h) (Or.inl ⟨by rfl, fun w1 hw => by go_simp⟩) (by assumption) ?_
        (try simp only [Act.put, List.setIfInBounds_toArray, List.set_cons_zero, List.set_cons_succ])
        refine wpAnyH_takeE (i := 5) (v := .int .i64 (mn : Int)) rfl rfl (by kernel_rfl) (by kernel_rfl) (by kernel_rfl) (fun _ _ _ h => h) (Or.inl ⟨by rfl, fun w1 hw => by have c1 : w1.cell? ⟨T7, 1, none⟩ = some (.int .i64 (mn : Int)) := hw.1.cell 1; clear hw; go_simp⟩) (by assumption) ?_
        (try simp only [Act.put, List.setIfInBounds_toArray, List.set_cons_zero, List.set_cons_succ])
        refine wpAnyH_takeE (i := 6) (v := .pointer (some ⟨w.heap.size, 1, none⟩)) rfl rfl (by kernel_rfl) (by kernel_rfl) (by kernel_rfl) (fun _ _ _ h => h) (Or.inl ⟨by rfl, fun w1 hw => by go_simp⟩) (by assumption) ?_
        (try simp only [Act.put, List.setIfInBounds_toArray, List.set_cons_zero, List.set_cons_succ])
        refine wpAnyH_takeE (i := 7) (v := .slice (some ⟨g, o, none⟩) ts.length cap) rfl rfl (by kernel_rfl) (by kernel_rfl) (by kernel_rfl) (fun _ _ _ h => h) (Or.inl ⟨by rfl, fun w1 hw => by have c1 : w1.cell? ⟨w.heap.size, 1, none⟩ = some (.slice (some ⟨g, o, none⟩) ts.length cap) := hw.2.1.cell 1; clear hw; go_simp⟩) (by assumption) ?_
        (try simp only [Act.put, List.setIfInBounds_toArray, List.set_cons_zero, List.set_cons_succ])
        refine wpAnyH_takeE (i := 8) (v := .int .i64 (ts.length : Int)) rfl rfl (by kernel_rfl) (by kernel_rfl) (by kernel_rfl) (fun _ _ _ h => h) (Or.inl ⟨by rfl, fun w1 hw => by go_simp⟩) (by assumption) ?_
        (try simp only [Act.put, List.setIfInBounds_toArray, List.set_cons_zero, List.set_cons_succ])
        refine wpAnyH_takeE (i := 9) (v := .bool false) rfl rfl (by kernel_rfl) (by kernel_rfl) (by kernel_rfl) (fun _ _ _ h => h) (Or.inl ⟨by rfl, fun w1 hw => by go_simp⟩) (by assumption) ?_
        (try simp only [Act.put, List.setIfInBounds_toArray, List.set_cons_zero, List.set_cons_succ])
        refine wpAnyH_takeE (i := 10) (v := .bool false) rfl rfl (by kernel_rfl) (by kernel_rfl) (by kernel_rfl) (fun _ _ _ h => h) (Or.inl ⟨by rfl, fun w1 hw => by go_simp⟩) (by assumption) ?_
        (try simp only [Act.put, List.setIfInBounds_toArray, List.set_cons_zero, List.set_cons_succ])
        refine wpAnyH_takeE (i := 11) (v := .bool false) rfl rfl (by kernel_rfl) (by kernel_rfl) (by kernel_rfl) (fun _ _ _ h => h) (Or.inl ⟨by rfl, fun w1 hw => by go_simp⟩) (by assumption) ?_
        (try simp only [Act.put, List.setIfInBounds_toArray, List.set_cons_zero, List.set_cons_succ])
        refine wpAnyH_takeE (i := 12) (v := .pointer (some ⟨T7, 0, none⟩)) rfl rfl (by kernel_rfl) (by kernel_rfl) (by kernel_rfl) (fun _ _ _ h => h) (Or.inl ⟨by rfl, fun w1 hw => by go_simp⟩) (by assumption) ?_
        (try simp only [Act.put, List.setIfInBounds_toArray, List.set_cons_zero, List.set_cons_succ])
        refine wpAnyH_takeE (i := 13) (v := .slice cA rcols.length cn) rfl rfl (by kernel_rfl) (by kernel_rfl) (by kernel_rfl) (fun _ _ _ h => h) (Or.inl ⟨by rfl, fun w1 hw => by have c1 : w1.cell? ⟨T7, 0, none⟩ = some (.slice cA rcols.length cn) := hw.1.cell 0; clear hw; go_simp⟩) (by assumption) ?_
        (try simp only [Act.put, List.setIfInBounds_toArray, List.set_cons_zero, List.set_cons_succ])
        refine wpAnyH_takeE (i := 14) (v := .int .i64 (rcols.length : Int)) rfl rfl (by kernel_rfl) (by kernel_rfl) (by kernel_rfl) (fun _ _ _ h => h) (Or.inl ⟨by rfl, fun w1 hw => by go_simp⟩) (by assumption) ?_
        (try simp only [Act.put, List.setIfInBounds_toArray, List.set_cons_zero, List.set_cons_succ])
        refine wpAnyH_takeE (i := 15) (v := .pointer (some ⟨w.heap.size, 1, none⟩)) rfl rfl (by kernel_rfl) (by kernel_rfl) (by kernel_rfl) (fun _ _ _ h => h) (Or.inl ⟨by rfl, fun w1 hw => by go_simp⟩) (by assumption) ?_
        (try simp only [Act.put, List.setIfInBounds_toArray, List.set_cons_zero, List.set_cons_succ])
        refine wpAnyH_takeE (i := 16) (v := .slice (some ⟨g, o, none⟩) ts.length cap) rfl rfl (by kernel_rfl) (by kernel_rfl) (by kernel_rfl) (fun _ _ _ h => h) (Or.inl ⟨by rfl, fun w1 hw => by have c1 : w1.cell? ⟨w.heap.size, 1, none⟩ = some (.slice (some ⟨g, o, none⟩) ts.length cap) := hw.2.1.cell 1; clear hw; go_simp⟩) (by assumption) ?_
        (try simp only [Act.put, List.setIfInBounds_toArray, List.set_cons_zero, List.set_cons_succ])
        refine wpAnyH_takeE (i := 17) (v := .pointer (some ⟨T7, 1, none⟩)) rfl rfl (by kernel_rfl) (by kernel_rfl) (by kernel_rfl) (fun _ _ _ h => h) (Or.inl ⟨by rfl, fun w1 hw => by go_simp⟩) (by assumption) ?_
        (try simp only [Act.put, List.setIfInBounds_toArray, List.set_cons_zero, List.set_cons_succ])
        refine wpAnyH_takeE (i := 18) (v := .int .i64 (mn : Int)) rfl rfl (by kernel_rfl) (by kernel_rfl) (by kernel_rfl) (fun _ _ _ h => h) (Or.inl ⟨by rfl, fun w1 hw => by have c1 : w1.cell? ⟨T7, 1, none⟩ = some (.int .i64 (mn : Int)) := hw.1.cell 1; clear hw; go_simp⟩) (by assumption) ?_
        (try simp only [Act.put, List.setIfInBounds_toArray, List.set_cons_zero, List.set_cons_succ])
        refine wpAnyH_takeE (i := 19) (v := .pointer (some ⟨g, o + mn * 5, none⟩)) rfl rfl (by kernel_rfl) (by kernel_rfl) (by kernel_rfl) (fun _ _ _ h => h) (Or.inl ⟨by rfl, fun w1 hw => by go_simp⟩) (by assumption) ?_
        (try simp only [Act.put, List.setIfInBounds_toArray, List.set_cons_zero, List.set_cons_succ])
        refine wpAnyH_takeE (i := 20) (v := .pointer (some ⟨g, o + mn * 5 + 2, none⟩)) rfl rfl (by kernel_rfl) (by kernel_rfl) (by kernel_rfl) (fun _ _ _ h => h) (Or.inl ⟨by rfl, fun w1 hw => by go_simp⟩) (by assumption) ?_
        (try simp only [Act.put, List.setIfInBounds_toArray, List.set_cons_zero, List.set_cons_succ])
        refine wpAnyH_takeE (i := 21) (v := .int .i64 key2) rfl rfl (by kernel_rfl) (by kernel_rfl) (by kernel_rfl) (fun _ _ _ h => h) (Or.inl ⟨by rfl, fun w1 hw => by have c1 := hw.2.2; clear hw; go_simp⟩) (by assumption) ?_
        (try simp only [Act.put, List.setIfInBounds_toArray, List.set_cons_zero, List.set_cons_succ])
        refine wpAnyH_takeE (i := 22) (v := .bool true) rfl rfl (by kernel_rfl) (by kernel_rfl) (by kernel_rfl) (fun _ _ _ h => h) (Or.inl ⟨by rfl, fun w1 hw => by go_simp⟩) (by assumption) ?_
        (try simp only [Act.put, List.setIfInBounds_toArray, List.set_cons_zero, List.set_cons_succ])
        refine wpAnyH_takeE (i := 23) (v := .bool true) rfl rfl (by kernel_rfl) (by kernel_rfl) (by kernel_rfl) (fun _ _ _ h => h) (Or.inl ⟨by rfl, fun w1 hw => by go_simp⟩) (by assumption) ?_
        refine wpAnyH_done (by kernel_rfl) ?_ _
        clear hHeld
        go_wp2
        go_ret
        exact HX.out _ _ ((HK1.out.then0 HK2.out).drew)
    · have hltI : ¬ (k : Int) < (refs.length : Int) := by omega
      go_wp2
      go_ret
      exact HX.out _ _ (HK1.out.then0 HKR.out)

end Go.Proofs.YtffdaohmalmkfaaGreat
