/-
  PacketBounds: the walk.
-/
import Derived.Test.YtffdaohmalmkfaaGreatM45
namespace Go.Proofs.YtffdaohmalmkfaaGreat
open Go.RowKit
set_option linter.unusedVariables false

theorem info_qryp : (Tryz.prog.info? 59).map (fun i => (i.zero, i.size, i.bytes)) = some (some (.agg zqC.toArray), 21, 280) := by kernel_rfl

theorem info_intp : (Tryz.prog.info? 3).map (fun i => (i.zero, i.size, i.bytes)) = some (some (.int .i64 0), 1, 8) := by kernel_rfl
theorem info_sortp : (Tryz.prog.info? 273).map (fun i => (i.zero, i.size, i.bytes)) = some (some (.agg #[.int .i64 0, .bool false]), 2, 16) := by kernel_rfl

def FourRel (w12 : World) (i : Value) (wr : World) : Prop := ∃ j : Nat, j ≤ 4 ∧ i = .int .i64 j ∧ Kept Kno w12 wr
theorem one_cell {A1 A2 A3 A4 : Option Addr} {n1 n2 n3 n4 c1 c2 c3 c4 K : Nat} {a b : Int} : (.int .i64 a :: .int .i64 b :: wqC K (.slice A1 n1 c1) (.slice A2 n2 c2) (.slice A3 n3 c3) (.slice A4 n4 c4) : List Value).toArray.all (·.oneCell') = true := by
  simp [wqC, zw, Value.oneCell']
theorem lawC_one {A : Option Addr} {n c : Nat} : (lawC (.slice A n c)).all (·.oneCell') = true := by simp [lawC, Value.oneCell']

set_option maxRecDepth 100000 in
set_option maxHeartbeats 4000000 in
theorem bounds_any (a b c : Int) (w : World) (ha0 : 0 ≤ a) (ha1 : a < 256) (hb0 : 0 ≤ b) (hb1 : b < 256) (hc0 : 0 ≤ c) (hc1 : c < 256) :
    Calls Tryz.prog 4 #[.int .u8 a, .int .u8 b, .int .u8 c] w (RetBool true w) := by
  obtain ⟨i0, hi, hz0, hz1, hz2⟩ := info_parts info_qryp
  obtain ⟨K, hK, hK12⟩ : ∃ K : Nat, a % 12 = (K : Int) ∧ K < 12 := ⟨(a % 12).toNat, by omega, by omega⟩
  obtain ⟨N, hN, hN26⟩ : ∃ N : Nat, b % 26 = (N : Int) ∧ N < 26 := ⟨(b % 26).toNat, by omega, by omega⟩
  obtain ⟨M, hM, hM15⟩ : ∃ M : Nat, c % 15 = (M : Int) ∧ M < 15 := ⟨(c % 15).toNat, by omega, by omega⟩
  have hKt : a.tmod 12 = (K : Int) := by rw [Int.tmod_eq_emod_of_nonneg ha0]; exact hK
  have hNt : b.tmod 26 = (N : Int) := by rw [Int.tmod_eq_emod_of_nonneg hb0]; exact hN
  have hMt : c.tmod 15 = (M : Int) := by rw [Int.tmod_eq_emod_of_nonneg hc0]; exact hM
  have hDp := deep_any (K + 1) w (by omega) (by omega)
  rw [show ((K + 1 : Nat) : Int) = 1 + (K : Int) by omega] at hDp
  have HDP := Lib.hid hDp
  have hK0 : (0 : Int) ≤ (K : Int) := by omega
  have hK1 : (K : Int) < 12 := by omega
  clear hDp hK hN hM
  go_enter Tryz.func4, Tryz.ntmps4
  go_wp2_with fail
  refine HDP.out.mono ?_
  rintro e w1 ⟨q, rfl, hd, hk1⟩
  obtain ⟨B0, a', A0, cap0, rfl, hB0, hB1, hst⟩ := BndSt.start hd hk1
  have HST := Lib.hid hst
  have e1 : K + 1 - 1 = K := by omega
  simp only [e1] at *
  rw [dq_v]
  clear hst hd
  go_upto_region 2 with (refine wpList_store_new rfl 59 (.tmp 7) (.tmp 25) rfl _ (wqC K zw zw zw (.slice A0 (nargs K 0) cap0)).toArray rfl rfl (by kernel_rfl) rfl wqC_one ?_)
  simp only [Act.put]
  obtain ⟨w2, h2⟩ : ∃ w2, w1.alloc (.cells (wqC K zw zw zw (.slice A0 (nargs K 0) cap0)).toArray 59) = w2 := ⟨_, rfl⟩
  rw [h2] at HST ⊢
  have hV : w.heap.size ≤ w1.heap.size := hk1.size
  clear h2 hk1
  go_wp2_with fail
  go_loopw [8] (fun i wr => BndRel w w1.heap.size B0 K a' N i wr) (fun i _ => N - (intOf i).toNat)
  case atStart => exact ⟨0, A0, cap0, Nat.zero_le _, rfl, HST.out⟩
  case round =>
    obtain ⟨n, A, ca, hn, rfl, hst⟩ := hrel
    have ST := Lib.hid hst
    clear hst
    have hn0 : (0 : Int) ≤ (n : Int) := by omega
    have hnl : nargs K n ≤ 30 := by
      have : (dargs K).length ≤ 1 := by cases K <;> simp [dargs]
      simp only [nargs]
      omega
    by_cases hlt : n < N
    · have hltI : (n : Int) < (N : Int) := by omega
      have c20 : wr.cell? ⟨w1.heap.size, 20, none⟩ = some (.slice A (nargs K n) ca) := ST.out.v.cell 20
      have f20 := ST.out.v.frozen 20
      have hVl := ST.out.v.lt
      have HOWN := Lib.hid ST.out.a
      have m1 : nargs K n + 1 ≤ maxLen := by simp only [maxLen]; omega
      go_wp2_with (at_builtin; go_must (refine wpList_append_rd _ rfl _ _ 57 rfl B0 59 i0 _ 21 280 Tryz.underlying57 hi hz0 hz1 hz2 rfl (by decide) (.slice A (nargs K n) ca) (nargs K n) (argC K a' n) rfl (World.ownsRow.alloc HOWN.out _) _ 1 (wqC 0 zw zw zw zw) rfl (Rd.one _ _ _ rfl) (by simp [wqC, zw, Value.oneCell']) m1 (by omega) (by simp; omega) ?_); intro A2 c2 w3 hown2 hg2 hat2; have q3 : w3.cell? ⟨w1.heap.size, 20, none⟩ = some (.slice A (nargs K n) ca) := hg2.cell (((Kept.refl Kno wr).alloc _).cell_some c20 (fun h => h)) (fun he => ST.out.ne he.symm); have g3 : w3.frozen? ⟨w1.heap.size, 20, none⟩ = false := (World.frozen?_of_block (hg2.block w1.heap.size (by simp; omega) (fun he => ST.out.ne he.symm))).trans (((Kept.refl Kno wr).alloc _).frozen_no f20 hVl (fun h => h)))
      have ST2 := Lib.hid (ST.out.step hB1 hB0 hown2 hg2 hat2)
      clear hown2 hg2 hat2 q3 g3 c20 f20
      refine ⟨⟨n + 1, A2, c2, hlt, by go_num, ST2.out⟩, ?_⟩
      simp [intOf]
      omega
    · have hltI : ¬ (n : Int) < (N : Int) := by omega
      obtain rfl : n = N := by omega
      have hmk1 : ∀ w : World, (Instr.makeSlice 24 (.int .i64 (M : Int)) (.int .i64 (M : Int))).run Tryz.prog w = .ok (.slice (some ⟨w.heap.size, 0, none⟩) M M) (w.alloc (.cells (madeCells #[.int .i64 0] (M * 1)) 3)) := fun w => by
        obtain ⟨i1, h1, h2, h3, h4⟩ := info_parts info_intp
        have := run_make (P := Tryz.prog) w 24 3 i1 (.int .i64 0) Tryz.underlying24 h1 h2 .i64 .i64 (M : Int) (M : Int) (by omega) (by omega) (by rw [h4]; omega) (by omega)
        rw [h3] at this
        exact this
      have hmk2 : ∀ w : World, (Instr.makeSlice 56 (.int .i64 (5 * (M : Int))) (.int .i64 (5 * (M : Int)))).run Tryz.prog w = .ok (.slice (some ⟨w.heap.size, 0, none⟩) (5 * M) (5 * M)) (w.alloc (.cells (madeCells #[.int .i64 0, .bool false] (5 * M * 2)) 273)) := fun w => by
        obtain ⟨i1, h1, h2, h3, h4⟩ := info_parts info_sortp
        have := run_make (P := Tryz.prog) w 56 273 i1 (.agg #[.int .i64 0, .bool false]) Tryz.underlying56 h1 h2 .i64 .i64 (5 * (M : Int)) (5 * (M : Int)) (by omega) (by omega) (by rw [h4]; omega) (by omega)
        rw [h3, show (5 * (M : Int)).toNat = 5 * M by omega] at this
        exact this
      have hM0 : (0 : Int) ≤ (M : Int) := by omega
      have hM1 : (M : Int) < 15 := by omega
      have HV : Hid (Blk wr w1.heap.size 59 #[.int .i64 (dop K), .int .i64 0, .int .i64 (dwp K), .int .i64 0, .int .i64 0, .int .i64 0, .int .i64 0, .int .i64 0, .string ⟨#[]⟩, .int .i64 0, .int .i64 0, .int .i64 0, .int .i64 0, .string ⟨#[]⟩, .slice none 0 0, .slice none 0 0, .slice none 0 0, .slice none 0 0, .slice none 0 0, .int .i64 0, .slice A (nargs K n) ca]) := Lib.hid ST.out.v
      go_upto_region 7 with (fail)
      obtain ⟨w4, h4⟩ : ∃ w4, wr.alloc (.cells (madeCells #[.int .i64 0] M) 3) = w4 := ⟨_, rfl⟩
      rw [h4]
      have hs4 : w4.heap.size = wr.heap.size + 1 := by rw [← h4]; exact size_alloc' _ _
      have HL4 : Hid (Blk w4 wr.heap.size 3 (madeCells #[.int .i64 0] M)) := Lib.hid (by rw [← h4]; exact Blk.new _ _ _)
      have HK4 : Hid (Kept Kno wr w4) := Lib.hid (by rw [← h4]; exact (Kept.refl _ _).alloc _)
      have HV4 := Lib.hid (HV.out.kept HK4.out (fun h => h))
      have HS4 := Lib.hid hs4
      clear h4 hs4
      go_upto_region 8 with (first
        | (refine wpList_load_row rfl 59 (.tmp 7) rfl w1.heap.size rfl 59 _ (0, 0) _ HV4.out Tryz.underlying59 rfl (by kernel_rfl) ?_)
        | (refine wpList_store_new rfl 59 (.tmp 10) (.tmp 43) rfl _ (wqC K zw zw zw (.slice A (nargs K n) ca)).toArray rfl rfl (by kernel_rfl) rfl wqC_one ?_))
      try simp only [Act.put]
      obtain ⟨w5, h5⟩ : ∃ w5, w4.alloc (.cells (wqC K zw zw zw (.slice A (nargs K n) ca)).toArray 59) = w5 := ⟨_, rfl⟩
      rw [h5]
      have HK5 : Hid (Kept Kno wr w5) := Lib.hid (by rw [← h5]; exact HK4.out.alloc _)
      have HX5 : Hid (Blk w5 w4.heap.size 59 (wqC K zw zw zw (.slice A (nargs K n) ca)).toArray) := Lib.hid (by rw [← h5]; exact Blk.new _ _ _)
      have HS5 : Hid (w5.heap.size = w4.heap.size + 1) := Lib.hid (by rw [← h5]; exact size_alloc' _ _)
      have HV5 := Lib.hid (by have := HV4.out.alloc (.cells (wqC K zw zw zw (.slice A (nargs K n) ca)).toArray 59); rw [h5] at this; exact this)
      have HL5 := Lib.hid (by have := HL4.out.alloc (.cells (wqC K zw zw zw (.slice A (nargs K n) ca)).toArray 59); rw [h5] at this; exact this)
      clear h5
      have ck : w5.cell? ⟨w4.heap.size, 15, none⟩ = some (.slice none 0 0) := HX5.out.cell 15
      have fk := HX5.out.frozen 15
      go_upto_region 9 with (fail)
      obtain ⟨w6, h6⟩ : ∃ w6, w5.setCell ⟨w4.heap.size, 15, none⟩ (.slice (some ⟨wr.heap.size, 0, none⟩) M M) = w6 := ⟨_, rfl⟩
      rw [h6]
      have HK6 : Hid (Kept Kno wr w6) := Lib.hid (by rw [← h6]; exact HK5.out.setNew (p := ⟨w4.heap.size, 15, none⟩) (by show wr.heap.size ≤ w4.heap.size; exact HK4.out.size) _)
      have HY6 : Hid (Blk w6 w4.heap.size 59 #[.int .i64 (dop K), .int .i64 0, .int .i64 (dwp K), .int .i64 0, .int .i64 0, .int .i64 0, .int .i64 0, .int .i64 0, .string ⟨#[]⟩, .int .i64 0, .int .i64 0, .int .i64 0, .int .i64 0, .string ⟨#[]⟩, .slice none 0 0, .slice (some ⟨wr.heap.size, 0, none⟩) M M, .slice none 0 0, .slice none 0 0, .slice none 0 0, .int .i64 0, .slice A (nargs K n) ca]) := Lib.hid (by rw [← h6]; exact HX5.out.set_ 15 (.slice (some ⟨wr.heap.size, 0, none⟩) M M))
      have HS6 : Hid (w6.heap.size = w4.heap.size + 1) := Lib.hid (by rw [← h6]; simp only [World.size_setCell]; exact HS5.out)
      have HV6 := Lib.hid (by have := HV5.out.far (p := ⟨w4.heap.size, 15, none⟩) (by show w1.heap.size ≠ w4.heap.size; have hVl := ST.out.v.lt; have e4 := HS4.out; (try have e6 := HS6.out); (try have e8 := HS8.out); omega) (.slice (some ⟨wr.heap.size, 0, none⟩) M M); rw [h6] at this; exact this)
      have HL6 := Lib.hid (by have := HL5.out.far (p := ⟨w4.heap.size, 15, none⟩) (by show wr.heap.size ≠ w4.heap.size; have hVl := ST.out.v.lt; have e4 := HS4.out; (try have e6 := HS6.out); (try have e8 := HS8.out); omega) (.slice (some ⟨wr.heap.size, 0, none⟩) M M); rw [h6] at this; exact this)
      clear h6 ck fk
      have HP2_6 := HY6
      go_upto_region 10 with (first
        | (refine wpList_load_row rfl 59 (.tmp 7) rfl w1.heap.size rfl 59 _ (0, 0) _ HV6.out Tryz.underlying59 rfl (by kernel_rfl) ?_)
        | (refine wpList_store_new rfl 59 (.tmp 11) (.tmp 46) rfl _ (wqC K zw zw zw (.slice A (nargs K n) ca)).toArray rfl rfl (by kernel_rfl) rfl wqC_one ?_))
      try simp only [Act.put]
      obtain ⟨w7, h7⟩ : ∃ w7, w6.alloc (.cells (wqC K zw zw zw (.slice A (nargs K n) ca)).toArray 59) = w7 := ⟨_, rfl⟩
      rw [h7]
      have HK7 : Hid (Kept Kno wr w7) := Lib.hid (by rw [← h7]; exact HK6.out.alloc _)
      have HX7 : Hid (Blk w7 w6.heap.size 59 (wqC K zw zw zw (.slice A (nargs K n) ca)).toArray) := Lib.hid (by rw [← h7]; exact Blk.new _ _ _)
      have HS7 : Hid (w7.heap.size = w6.heap.size + 1) := Lib.hid (by rw [← h7]; exact size_alloc' _ _)
      have HV7 := Lib.hid (by have := HV6.out.alloc (.cells (wqC K zw zw zw (.slice A (nargs K n) ca)).toArray 59); rw [h7] at this; exact this)
      have HL7 := Lib.hid (by have := HL6.out.alloc (.cells (wqC K zw zw zw (.slice A (nargs K n) ca)).toArray 59); rw [h7] at this; exact this)
      have HP2_7 := Lib.hid (by have := HP2_6.out.alloc (.cells (wqC K zw zw zw (.slice A (nargs K n) ca)).toArray 59); rw [h7] at this; exact this)
      clear h7
      have ck : w7.cell? ⟨w6.heap.size, 17, none⟩ = some (.slice none 0 0) := HX7.out.cell 17
      have fk := HX7.out.frozen 17
      go_upto_region 11 with (fail)
      obtain ⟨w8, h8⟩ : ∃ w8, w7.setCell ⟨w6.heap.size, 17, none⟩ (.slice (some ⟨wr.heap.size, 0, none⟩) M M) = w8 := ⟨_, rfl⟩
      rw [h8]
      have HK8 : Hid (Kept Kno wr w8) := Lib.hid (by rw [← h8]; exact HK7.out.setNew (p := ⟨w6.heap.size, 17, none⟩) (by show wr.heap.size ≤ w6.heap.size; exact HK6.out.size) _)
      have HY8 : Hid (Blk w8 w6.heap.size 59 #[.int .i64 (dop K), .int .i64 0, .int .i64 (dwp K), .int .i64 0, .int .i64 0, .int .i64 0, .int .i64 0, .int .i64 0, .string ⟨#[]⟩, .int .i64 0, .int .i64 0, .int .i64 0, .int .i64 0, .string ⟨#[]⟩, .slice none 0 0, .slice none 0 0, .slice none 0 0, .slice (some ⟨wr.heap.size, 0, none⟩) M M, .slice none 0 0, .int .i64 0, .slice A (nargs K n) ca]) := Lib.hid (by rw [← h8]; exact HX7.out.set_ 17 (.slice (some ⟨wr.heap.size, 0, none⟩) M M))
      have HS8 : Hid (w8.heap.size = w6.heap.size + 1) := Lib.hid (by rw [← h8]; simp only [World.size_setCell]; exact HS7.out)
      have HV8 := Lib.hid (by have := HV7.out.far (p := ⟨w6.heap.size, 17, none⟩) (by show w1.heap.size ≠ w6.heap.size; have hVl := ST.out.v.lt; have e4 := HS4.out; (try have e6 := HS6.out); (try have e8 := HS8.out); omega) (.slice (some ⟨wr.heap.size, 0, none⟩) M M); rw [h8] at this; exact this)
      have HL8 := Lib.hid (by have := HL7.out.far (p := ⟨w6.heap.size, 17, none⟩) (by show wr.heap.size ≠ w6.heap.size; have hVl := ST.out.v.lt; have e4 := HS4.out; (try have e6 := HS6.out); (try have e8 := HS8.out); omega) (.slice (some ⟨wr.heap.size, 0, none⟩) M M); rw [h8] at this; exact this)
      have HP2_8 := Lib.hid (by have := HP2_7.out.far (p := ⟨w6.heap.size, 17, none⟩) (by show w4.heap.size ≠ w6.heap.size; have hVl := ST.out.v.lt; have e4 := HS4.out; (try have e6 := HS6.out); (try have e8 := HS8.out); omega) (.slice (some ⟨wr.heap.size, 0, none⟩) M M); rw [h8] at this; exact this)
      clear h8 ck fk
      have HP3_8 := HY8
      go_upto_region 12 with (first
        | (refine wpList_load_row rfl 59 (.tmp 7) rfl w1.heap.size rfl 59 _ (0, 0) _ HV8.out Tryz.underlying59 rfl (by kernel_rfl) ?_)
        | (refine wpList_store_new rfl 59 (.tmp 12) (.tmp 49) rfl _ (wqC K zw zw zw (.slice A (nargs K n) ca)).toArray rfl rfl (by kernel_rfl) rfl wqC_one ?_))
      try simp only [Act.put]
      obtain ⟨w9, h9⟩ : ∃ w9, w8.alloc (.cells (wqC K zw zw zw (.slice A (nargs K n) ca)).toArray 59) = w9 := ⟨_, rfl⟩
      rw [h9]
      have HK9 : Hid (Kept Kno wr w9) := Lib.hid (by rw [← h9]; exact HK8.out.alloc _)
      have HX9 : Hid (Blk w9 w8.heap.size 59 (wqC K zw zw zw (.slice A (nargs K n) ca)).toArray) := Lib.hid (by rw [← h9]; exact Blk.new _ _ _)
      have HS9 : Hid (w9.heap.size = w8.heap.size + 1) := Lib.hid (by rw [← h9]; exact size_alloc' _ _)
      have HV9 := Lib.hid (by have := HV8.out.alloc (.cells (wqC K zw zw zw (.slice A (nargs K n) ca)).toArray 59); rw [h9] at this; exact this)
      have HL9 := Lib.hid (by have := HL8.out.alloc (.cells (wqC K zw zw zw (.slice A (nargs K n) ca)).toArray 59); rw [h9] at this; exact this)
      have HP2_9 := Lib.hid (by have := HP2_8.out.alloc (.cells (wqC K zw zw zw (.slice A (nargs K n) ca)).toArray 59); rw [h9] at this; exact this)
      have HP3_9 := Lib.hid (by have := HP3_8.out.alloc (.cells (wqC K zw zw zw (.slice A (nargs K n) ca)).toArray 59); rw [h9] at this; exact this)
      clear h9
      have ck : w9.cell? ⟨w8.heap.size, 18, none⟩ = some (.slice none 0 0) := HX9.out.cell 18
      have fk := HX9.out.frozen 18
      have hlk := HX9.out.lt
      go_upto_region 13 with (fail)
      obtain ⟨w10, h10⟩ : ∃ w10, w9.setCell ⟨w8.heap.size, 18, none⟩ (.slice (some ⟨w9.heap.size, 0, none⟩) (5 * M) (5 * M)) = w10 := ⟨_, rfl⟩
      rw [h10]
      have HK10 : Hid (Kept Kno wr w10) := Lib.hid (by rw [← h10]; exact HK9.out.setNew (p := ⟨w8.heap.size, 18, none⟩) (by show wr.heap.size ≤ w8.heap.size; exact HK8.out.size) _)
      have HZ10 : Hid (Blk w10 w8.heap.size 59 #[.int .i64 (dop K), .int .i64 0, .int .i64 (dwp K), .int .i64 0, .int .i64 0, .int .i64 0, .int .i64 0, .int .i64 0, .string ⟨#[]⟩, .int .i64 0, .int .i64 0, .int .i64 0, .int .i64 0, .string ⟨#[]⟩, .slice none 0 0, .slice none 0 0, .slice none 0 0, .slice none 0 0, .slice (some ⟨w9.heap.size, 0, none⟩) (5 * M) (5 * M), .int .i64 0, .slice A (nargs K n) ca]) := Lib.hid (by rw [← h10]; exact HX9.out.set_ 18 (.slice (some ⟨w9.heap.size, 0, none⟩) (5 * M) (5 * M)))
      have HS10 : Hid (w10.heap.size = w9.heap.size) := Lib.hid (by rw [← h10]; simp only [World.size_setCell])
      have HV10 := Lib.hid (by have := HV9.out.far (p := ⟨w8.heap.size, 18, none⟩) (by show w1.heap.size ≠ w8.heap.size; have hVl := ST.out.v.lt; have e4 := HS4.out; (try have e6 := HS6.out); (try have e8 := HS8.out); omega) (.slice (some ⟨w9.heap.size, 0, none⟩) (5 * M) (5 * M)); rw [h10] at this; exact this)
      have HL10 := Lib.hid (by have := HL9.out.far (p := ⟨w8.heap.size, 18, none⟩) (by show wr.heap.size ≠ w8.heap.size; have hVl := ST.out.v.lt; have e4 := HS4.out; (try have e6 := HS6.out); (try have e8 := HS8.out); omega) (.slice (some ⟨w9.heap.size, 0, none⟩) (5 * M) (5 * M)); rw [h10] at this; exact this)
      have HP2_10 := Lib.hid (by have := HP2_9.out.far (p := ⟨w8.heap.size, 18, none⟩) (by show w4.heap.size ≠ w8.heap.size; have hVl := ST.out.v.lt; have e4 := HS4.out; (try have e6 := HS6.out); (try have e8 := HS8.out); omega) (.slice (some ⟨w9.heap.size, 0, none⟩) (5 * M) (5 * M)); rw [h10] at this; exact this)
      have HP3_10 := Lib.hid (by have := HP3_9.out.far (p := ⟨w8.heap.size, 18, none⟩) (by show w6.heap.size ≠ w8.heap.size; have hVl := ST.out.v.lt; have e4 := HS4.out; (try have e6 := HS6.out); (try have e8 := HS8.out); omega) (.slice (some ⟨w9.heap.size, 0, none⟩) (5 * M) (5 * M)); rw [h10] at this; exact this)
      clear h10 ck fk hlk
      obtain ⟨w11, h11⟩ : ∃ w11, w10.alloc (.cells (madeCells #[.int .i64 0, .bool false] (5 * M * 2)) 273) = w11 := ⟨_, rfl⟩
      rw [h11]
      have HK11 : Hid (Kept Kno wr w11) := Lib.hid (by rw [← h11]; exact HK10.out.alloc _)
      have HO11 : Hid (Blk w11 w9.heap.size 273 (madeCells #[.int .i64 0, .bool false] (5 * M * 2))) := Lib.hid (by rw [← h11, ← HS10.out]; exact Blk.new _ _ _)
      have HS11 : Hid (w11.heap.size = w10.heap.size + 1) := Lib.hid (by rw [← h11]; exact size_alloc' _ _)
      have HV11 := Lib.hid (by have := HV10.out.alloc (.cells (madeCells #[.int .i64 0, .bool false] (5 * M * 2)) 273); rw [h11] at this; exact this)
      have HL11 := Lib.hid (by have := HL10.out.alloc (.cells (madeCells #[.int .i64 0, .bool false] (5 * M * 2)) 273); rw [h11] at this; exact this)
      have HP2_11 := Lib.hid (by have := HP2_10.out.alloc (.cells (madeCells #[.int .i64 0, .bool false] (5 * M * 2)) 273); rw [h11] at this; exact this)
      have HP3_11 := Lib.hid (by have := HP3_10.out.alloc (.cells (madeCells #[.int .i64 0, .bool false] (5 * M * 2)) 273); rw [h11] at this; exact this)
      have HZ11 := Lib.hid (by have := HZ10.out.alloc (.cells (madeCells #[.int .i64 0, .bool false] (5 * M * 2)) 273); rw [h11] at this; exact this)
      clear h11
      go_upto_region 14 with (first
        | (refine wpList_load_row rfl 59 (.tmp 7) rfl w1.heap.size rfl 59 _ (0, 0) _ HV11.out Tryz.underlying59 rfl (by kernel_rfl) ?_)
        | (refine wpList_load_row rfl 59 (.tmp 10) rfl w4.heap.size rfl 59 _ (0, 0) _ HP2_11.out Tryz.underlying59 rfl (by kernel_rfl) ?_)
        | (refine wpList_load_row rfl 59 (.tmp 11) rfl w6.heap.size rfl 59 _ (0, 0) _ HP3_11.out Tryz.underlying59 rfl (by kernel_rfl) ?_)
        | (refine wpList_load_row rfl 59 (.tmp 12) rfl w8.heap.size rfl 59 _ (0, 0) _ HZ11.out Tryz.underlying59 rfl (by kernel_rfl) ?_))

      obtain ⟨w12, h12⟩ : ∃ w12, w11.alloc (.cells #[.int .i64 (dop K), .int .i64 0, .int .i64 (dwp K), .int .i64 0, .int .i64 0, .int .i64 0, .int .i64 0, .int .i64 0, .string ⟨#[]⟩, .int .i64 0, .int .i64 0, .int .i64 0, .int .i64 0, .string ⟨#[]⟩, .slice none 0 0, .slice none 0 0, .slice none 0 0, .slice none 0 0, .slice none 0 0, .int .i64 0, .slice A (nargs K n) ca, .int .i64 (dop K), .int .i64 0, .int .i64 (dwp K), .int .i64 0, .int .i64 0, .int .i64 0, .int .i64 0, .int .i64 0, .string ⟨#[]⟩, .int .i64 0, .int .i64 0, .int .i64 0, .int .i64 0, .string ⟨#[]⟩, .slice none 0 0, .slice (some ⟨wr.heap.size, 0, none⟩) M M, .slice none 0 0, .slice none 0 0, .slice none 0 0, .int .i64 0, .slice A (nargs K n) ca, .int .i64 (dop K), .int .i64 0, .int .i64 (dwp K), .int .i64 0, .int .i64 0, .int .i64 0, .int .i64 0, .int .i64 0, .string ⟨#[]⟩, .int .i64 0, .int .i64 0, .int .i64 0, .int .i64 0, .string ⟨#[]⟩, .slice none 0 0, .slice none 0 0, .slice none 0 0, .slice (some ⟨wr.heap.size, 0, none⟩) M M, .slice none 0 0, .int .i64 0, .slice A (nargs K n) ca, .int .i64 (dop K), .int .i64 0, .int .i64 (dwp K), .int .i64 0, .int .i64 0, .int .i64 0, .int .i64 0, .int .i64 0, .string ⟨#[]⟩, .int .i64 0, .int .i64 0, .int .i64 0, .int .i64 0, .string ⟨#[]⟩, .slice none 0 0, .slice none 0 0, .slice none 0 0, .slice none 0 0, .slice (some ⟨w9.heap.size, 0, none⟩) (5 * M) (5 * M), .int .i64 0, .slice A (nargs K n) ca] 59) = w12 := ⟨_, rfl⟩
      rw [h12]
      have hG12 : Blk w12 w11.heap.size 59 #[.int .i64 (dop K), .int .i64 0, .int .i64 (dwp K), .int .i64 0, .int .i64 0, .int .i64 0, .int .i64 0, .int .i64 0, .string ⟨#[]⟩, .int .i64 0, .int .i64 0, .int .i64 0, .int .i64 0, .string ⟨#[]⟩, .slice none 0 0, .slice none 0 0, .slice none 0 0, .slice none 0 0, .slice none 0 0, .int .i64 0, .slice A (nargs K n) ca, .int .i64 (dop K), .int .i64 0, .int .i64 (dwp K), .int .i64 0, .int .i64 0, .int .i64 0, .int .i64 0, .int .i64 0, .string ⟨#[]⟩, .int .i64 0, .int .i64 0, .int .i64 0, .int .i64 0, .string ⟨#[]⟩, .slice none 0 0, .slice (some ⟨wr.heap.size, 0, none⟩) M M, .slice none 0 0, .slice none 0 0, .slice none 0 0, .int .i64 0, .slice A (nargs K n) ca, .int .i64 (dop K), .int .i64 0, .int .i64 (dwp K), .int .i64 0, .int .i64 0, .int .i64 0, .int .i64 0, .int .i64 0, .string ⟨#[]⟩, .int .i64 0, .int .i64 0, .int .i64 0, .int .i64 0, .string ⟨#[]⟩, .slice none 0 0, .slice none 0 0, .slice none 0 0, .slice (some ⟨wr.heap.size, 0, none⟩) M M, .slice none 0 0, .int .i64 0, .slice A (nargs K n) ca, .int .i64 (dop K), .int .i64 0, .int .i64 (dwp K), .int .i64 0, .int .i64 0, .int .i64 0, .int .i64 0, .int .i64 0, .string ⟨#[]⟩, .int .i64 0, .int .i64 0, .int .i64 0, .int .i64 0, .string ⟨#[]⟩, .slice none 0 0, .slice none 0 0, .slice none 0 0, .slice none 0 0, .slice (some ⟨w9.heap.size, 0, none⟩) (5 * M) (5 * M), .int .i64 0, .slice A (nargs K n) ca] := by rw [← h12]; exact Blk.new _ _ _
      have hk12 : Kept Kno wr w12 := by rw [← h12]; exact HK11.out.alloc _
      have hL12 : Blk w12 wr.heap.size 3 (madeCells #[.int .i64 0] M) := by rw [← h12]; exact HL11.out.alloc _
      have hS12 : Blk w12 w9.heap.size 273 (madeCells #[.int .i64 0, .bool false] (5 * M * 2)) := by rw [← h12]; exact HO11.out.alloc _
      have HF := Lib.hid (bounds_four ST.out hB1 hk12 hM15 hL12 hS12 hG12)
      have HGL : Hid (w11.heap.size < w12.heap.size) := Lib.hid hG12.lt
      have HK12 : Hid (Kept Kno w w12) := Lib.hid (ST.out.kept.then0 hk12)
      clear h12 hG12 hk12 hL12 hS12 HV HV4 HL4 HK4 HS4 HX5 HK5 HS5 HV5 HL5 HY6 HK6 HS6 HV6 HL6 HP2_6 HX7 HK7 HS7 HV7 HL7 HP2_7 HY8 HK8 HS8 HV8 HL8 HP2_8 HP3_8 HX9 HK9 HS9 HV9 HL9 HP2_9 HP3_9 HZ10 HK10 HS10 HV10 HL10 HP2_10 HP3_10 HO11 HK11 HS11 HV11 HL11 HP2_11 HP3_11 HZ11 hmk1 hmk2 ST
      go_wp2_with fail
      go_loopw [61] (fun i wr => FourRel w12 i wr) (fun i _ => 4 - (intOf i).toNat)
      case atStart => exact ⟨0, by decide, rfl, Kept.refl _ _⟩
      case round =>
        obtain ⟨j, hj, rfl, hk⟩ := hrel
        have HK := Lib.hid hk
        clear hk
        by_cases hj4 : j < 4
        · obtain ⟨A1, n1, c1, A2, n2, c2, A3, n3, c3, cols, grp, ord, hcl, hqi, l1, l2, l3⟩ := (HF.out j hj4).kept HGL.out HK.out
          have hql := encWq_le K n cols grp ord (by omega) (by omega) l1 l2 l3
          have HCL := Lib.hid hcl
          have HQI := Lib.hid hqi
          have HQL := Lib.hid hql
          have hj0 : (0 : Int) ≤ (j : Int) := by omega
          have hj1 : (j : Int) < 4 := by omega
          clear hcl hqi hql l1 l2 l3
          go_upto_region 16 with (first
            | (refine wpList_load_at rfl 59 (.tmp 63) rfl w11.heap.size (j * 21) (wqC K (.slice A1 n1 c1) (.slice A2 n2 c2) (.slice A3 n3 c3) (.slice A (nargs K n) ca)) _ rfl HCL.out Tryz.underlying59 rfl (by kernel_rfl) ?_)
            | (refine wpList_store_new rfl 59 (.tmp 14) (.tmp 64) rfl _ (wqC K (.slice A1 n1 c1) (.slice A2 n2 c2) (.slice A3 n3 c3) (.slice A (nargs K n) ca)).toArray rfl rfl (by kernel_rfl) rfl wqC_one ?_))
          simp only [Act.put]
          obtain ⟨wa, ha⟩ : ∃ wa, wr.alloc (.cells (wqC K (.slice A1 n1 c1) (.slice A2 n2 c2) (.slice A3 n3 c3) (.slice A (nargs K n) ca)).toArray 59) = wa := ⟨_, rfl⟩
          rw [ha]
          have HQa : Hid (Blk wa wr.heap.size 59 #[.int .i64 (dop K), .int .i64 0, .int .i64 (dwp K), .int .i64 0, .int .i64 0, .int .i64 0, .int .i64 0, .int .i64 0, .string ⟨#[]⟩, .int .i64 0, .int .i64 0, .int .i64 0, .int .i64 0, .string ⟨#[]⟩, .slice none 0 0, .slice A1 n1 c1, .slice none 0 0, .slice A2 n2 c2, .slice A3 n3 c3, .int .i64 0, .slice A (nargs K n) ca]) := Lib.hid (by rw [← ha]; exact Blk.new _ _ _)
          have HKa : Hid (Kept Kno wr wa) := Lib.hid (by rw [← ha]; exact (Kept.refl _ _).alloc _)
          clear ha
          go_upto_region 17 with (refine wpList_load_row rfl 59 (.tmp 14) rfl wr.heap.size rfl 59 _ (0, 0) _ HQa.out Tryz.underlying59 rfl (by kernel_rfl) ?_)
          obtain ⟨wb, hb⟩ : ∃ wb, wa.alloc (.cells #[.int .i64 1, .int .i64 0, .int .i64 (dop K), .int .i64 0, .int .i64 (dwp K), .int .i64 0, .int .i64 0, .int .i64 0, .int .i64 0, .int .i64 0, .string ⟨#[]⟩, .int .i64 0, .int .i64 0, .int .i64 0, .int .i64 0, .string ⟨#[]⟩, .slice none 0 0, .slice A1 n1 c1, .slice none 0 0, .slice A2 n2 c2, .slice A3 n3 c3, .int .i64 0, .slice A (nargs K n) ca] 62) = wb := ⟨_, rfl⟩
          rw [hb]
          have hBb : Blk wb wa.heap.size 62 (subC ⟨1, 0, wq K n cols grp ord⟩ ⟨zw, .slice A1 n1 c1, zw, .slice A2 n2 c2, .slice A3 n3 c3, .slice A (nargs K n) ca⟩).toArray := by rw [← hb]; exact Blk.new _ _ _
          have hkb : Kept Kno wr wb := by rw [← hb]; exact HKa.out.alloc _
          have hqb := QIn.old (hkb.old (Nat.le_refl _) (fun _ _ h => h)) hkb.size _ _ HQI.out
          obtain ⟨m, E, W, hA, hB, hC, hD⟩ := round_calls (subs_one hqb hBb.lt (CellsAt.blk hBb)) (encSubs_one _ HQL.out)
          have HA := Lib.hid hA
          have HB := Lib.hid hB
          have HC := Lib.hid hC
          have HD := Lib.hid hD
          have HKb := Lib.hid hkb
          clear hb hBb hkb hqb hA hB hC hD HQa HKa HQI HQL HCL
          go_upto_region 18 with (refine wpList_store_new rfl 36 (.tmp 16) (.tmp 69) rfl _ (lawC (.slice (some ⟨wa.heap.size, 0, none⟩) 1 1)) rfl rfl (by kernel_rfl) rfl lawC_one ?_)
          try simp only [Act.put]
          obtain ⟨wc, hc⟩ : ∃ wc, wb.alloc (.cells (lawC (.slice (some ⟨wa.heap.size, 0, none⟩) 1 1)) 36) = wc := ⟨_, rfl⟩
          rw [hc]
          have HMc : Hid (Blk wc wb.heap.size 36 (lawC (.slice (some ⟨wa.heap.size, 0, none⟩) 1 1))) := Lib.hid (by rw [← hc]; exact Blk.new _ _ _)
          have HKc : Hid (Kept Kno wb wc) := Lib.hid (by rw [← hc]; exact (Kept.refl _ _).alloc _)
          clear hc
          go_wp2_with (refine wpList_load_row rfl 36 (.tmp 16) rfl wb.heap.size rfl 36 (lawC (.slice (some ⟨wa.heap.size, 0, none⟩) 1 1)) (0, 0) _ HMc.out Tryz.underlying36 rfl (by kernel_rfl) ?_)
          refine (HA.out wc HKc.out).mono ?_
          rintro e wd ⟨Aa, ka, rfl, hba, hkd⟩
          have HMd := Lib.hid (HMc.out.kept hkd (fun h => h))
          have HKd := Lib.hid (HKc.out.then0 hkd)
          have HBA := Lib.hid hba
          clear hba hkd HMc HKc
          go_wp2_with (refine wpList_load_row rfl 36 (.tmp 16) rfl wb.heap.size rfl 36 (lawC (.slice (some ⟨wa.heap.size, 0, none⟩) 1 1)) (0, 0) _ HMd.out Tryz.underlying36 rfl (by kernel_rfl) ?_)
          refine (HB.out wd HKd.out).mono ?_
          rintro e we ⟨Ab, kb, rfl, hbb, hke⟩
          have HBA := Lib.hid (Rd.kept HBA.out hke (fun _ _ h => h))
          have HBB := Lib.hid hbb
          have HKe := Lib.hid (HKd.out.then0 hke)
          clear hbb hke HMd HKd
          go_wp2_with fail
          refine (HC.out we HKe.out).mono ?_
          rintro e wf ⟨rfl, hkf⟩
          have HBA := Lib.hid (Rd.kept HBA.out hkf (fun _ _ h => h))
          have HBB := Lib.hid (Rd.kept HBB.out hkf (fun _ _ h => h))
          have HKf := Lib.hid (HKe.out.then0 hkf)
          clear hkf HKe
          go_wp2_with fail
          refine (HD.out wf HKf.out).mono ?_
          rintro e wg ⟨rfl, hkg⟩
          have HBA := Lib.hid (Rd.kept HBA.out hkg (fun _ _ h => h))
          have HBB := Lib.hid (Rd.kept HBB.out hkg (fun _ _ h => h))
          have HKg := Lib.hid (HKf.out.then0 hkg)
          clear hkg HKf
          go_wp2_with fail
          refine (equal_any _ _ m m wg HBA.out HBB.out).mono ?_
          rintro e wh ⟨rfl, rfl⟩
          have hmm : decide (m = m) = true := by simp
          rw [hmm]
          clear hmm
          have HKr : Hid (Kept Kno w12 wg) := Lib.hid (HK.out.then0 (HKb.out.then0 HKg.out))
          go_wp2
          refine ⟨⟨j + 1, hj4, by go_num, HKr.out⟩, ?_⟩
          simp [intOf]
          omega
        · have hjI : ¬ (j : Int) < 4 := by omega
          obtain rfl : j = 4 := by omega
          go_wp2_with fail
          refine (begun_any wr).mono ?_
          rintro e w5 ⟨rfl, hk5⟩
          have HX : Hid (RetBool true w (.returned (.bool true)) w5) := Lib.hid ⟨rfl, (HK12.out.then0 HK.out).then0 hk5⟩
          clear hk5
          go_wp2
          go_ret
          exact HX.out

end Go.Proofs.YtffdaohmalmkfaaGreat
