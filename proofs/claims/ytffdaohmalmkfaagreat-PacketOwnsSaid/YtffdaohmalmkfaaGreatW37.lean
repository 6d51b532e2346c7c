/-
  PacketOwns: the reference's check of a state returns. (Printed by gen_pakpo.py.)
-/
import Derived.Test.YtffdaohmalmkfaaGreatW36
set_option linter.unusedSimpArgs false
set_option linter.unusedVariables false
namespace Go.Proofs.YtffdaohmalmkfaaGreat
open Go.RowKit
set_option linter.unusedVariables false

theorem TabsOk.row {ts : List Tbl} {L j : Nat} {tabs : List (List (List Val))} {rows : List (List Val)} (h : TabsOk ts L tabs) (hr : tabs[j]? = some rows) : ∃ t, ts[j]? = some t ∧ rows.length ≤ L ∧ ∀ r ∈ rows, RowFit t r := by
  obtain ⟨hjl, -⟩ := List.getElem?_eq_some_iff.1 hr
  have hj : j < ts.length := by rw [← h.1]; exact hjl
  have h1 := h.2 j _ rows (List.getElem?_eq_getElem hj) hr
  exact ⟨_, List.getElem?_eq_getElem hj, h1.1, h1.2⟩
def NumRel (n L : Nat) (w : World) (x i : Value) (wr : World) : Prop := ∃ (k : Nat) (m : Nat), k ≤ n ∧ i = .int .i64 k ∧ x = .int .i64 m ∧ m ≤ k * L ∧ Kept Kno w wr

set_option maxRecDepth 100000 in
set_option maxHeartbeats 3000000 in
theorem stcheck_any (B : Nat) (sv stv : Value) (ver : Int) (ts : List Tbl) (tabs : List (List (List Val))) (L : Nat) (w : World) (h : SchIn w B ver ts sv) (hst : StR w B stv tabs) (hB : B ≤ w.heap.size) (hts : 0 < ts.length) (hok : TabsOk ts L tabs) (hL : L ≤ 1000) :
    Calls Tryz.prog 69 #[sv, .int .i64 3, stv] w (RetI w) := by
  have HX : Hid (∀ (b : Int) (w' : World), Kept Kno w w' → RetI w (.returned (.int .i64 b)) w') := Lib.hid (fun b w' h => ⟨b, rfl, h⟩)
  obtain ⟨t0, ht0⟩ : ∃ t, ts[0]? = some t := ⟨_, List.getElem?_eq_getElem hts⟩
  obtain ⟨g, o, cap, -, rfl, hcap, hmax, hgB, -, -⟩ := h.tbl ht0
  have h4 : ts.length ≤ 4 := by obtain ⟨_, _, _, h4, _⟩ := h; exact h4
  have htl := hok.1
  obtain ⟨r0, hr0⟩ : ∃ r, tabs[0]? = some r := ⟨_, List.getElem?_eq_getElem (by omega)⟩
  obtain ⟨g2, o2, scap, -, rfl, hsc, hsm, hgB2, -, -⟩ := hst.row hr0
  have HSCH := Lib.hid h
  have HST := Lib.hid hst
  have HOK := Lib.hid hok
  have hmax' : cap ≤ 9223372036854775807 := by simpa only [maxLen] using hmax
  have hsm' : scap ≤ 9223372036854775807 := by simpa only [maxLen] using hsm
  have htlb : ((tabs.length : Int) != (ts.length : Int)) = false := by simp [htl]
  have ht4 : tabs.length ≤ 4 := by omega
  have HTL := Lib.hid htl
  clear h hst hok ht0 hr0 hmax hsm htl
  go_enter Tryz.func69, Tryz.ntmps69
  go_upto_region 1 with (fail)
  obtain ⟨w0, h0⟩ : ∃ w0, (w.alloc (.cells #[.int .i64 ver, .slice (some ⟨g, o, none⟩) ts.length cap] 82)).alloc (.cells #[.slice (some ⟨g2, o2, none⟩) tabs.length scap] 100) = w0 := ⟨_, rfl⟩
  have HK0 : Hid (Kept Kno w w0) := Lib.hid (by rw [← h0]; exact ((Kept.refl _ _).alloc _).alloc _)
  have HB3 : Hid (Blk w0 w.heap.size 82 #[.int .i64 ver, .slice (some ⟨g, o, none⟩) ts.length cap]) := Lib.hid (by rw [← h0]; exact (Blk.new _ _ _).alloc _)
  have HB5 : Hid (Blk w0 (w.heap.size + 1) 100 #[.slice (some ⟨g2, o2, none⟩) tabs.length scap]) := Lib.hid (by rw [← h0]; have := Blk.new (w.alloc (.cells #[.int .i64 ver, .slice (some ⟨g, o, none⟩) ts.length cap] 82)) 100 #[.slice (some ⟨g2, o2, none⟩) tabs.length scap]; simpa using this)
  rw [h0]
  clear h0
  have b0 : w0.cell? ⟨w.heap.size, 0, none⟩ = some (.int .i64 ver) := HB3.out.cell 0
  have b1 : w0.cell? ⟨w.heap.size, 0 + 1, none⟩ = some (.slice (some ⟨g, o, none⟩) ts.length cap) := HB3.out.cell 1
  go_wp2_with fail
  refine (scheck_any B _ ver ts w0 (HSCH.out.keep0 hB HK0.out) (Nat.le_trans hB HK0.out.size) hts).mono ?_
  rintro e w1 ⟨k1, rfl, hk1⟩
  have HK1 := Lib.hid hk1
  have c5 : w1.cell? ⟨w.heap.size + 1, 0, none⟩ = some (.slice (some ⟨g2, o2, none⟩) tabs.length scap) := (HB5.out.kept hk1 (fun h => h)).cell 0
  clear hk1 b0 b1
  by_cases hk10 : k1 = 0
  rotate_left
  · have hkb : (k1 != 0) = true := by rw [bne_iff_ne]; exact hk10
    go_wp2
    go_ret
    exact HX.out _ _ (HK0.out.then0 HK1.out)
  subst hk10
  go_upto_region 8 with (fail)
  clear c5
  go_loopw [8, 29] (fun x i wr => NumRel tabs.length L w0 x i wr) (fun _ i _ => tabs.length - (intOf i).toNat)
  case atStart => exact ⟨0, 0, Nat.zero_le _, rfl, rfl, Nat.zero_le _, HK1.out⟩
  case round =>
    obtain ⟨k, n, hk, rfl, rfl, hn, hkr⟩ := hrel
    have HKR := Lib.hid hkr
    have hk0 : (0 : Int) ≤ (k : Int) := by omega
    have hnL : n ≤ 4 * 1000 := Nat.le_trans hn (Nat.mul_le_mul (by omega) hL)
    clear hkr
    by_cases hlt : k < tabs.length
    · have hltI : (k : Int) < (tabs.length : Int) := by omega
      obtain ⟨rows, hr⟩ : ∃ r, tabs[k]? = some r := ⟨_, List.getElem?_eq_getElem hlt⟩
      obtain ⟨g2', o2', scap', s, he, -, -, -, hcs, hrows⟩ := (HST.out.keep0 hB (HK0.out.then0 HKR.out)).row hr
      simp only [Value.agg.injEq, Array.mk.injEq, List.cons.injEq, Value.slice.injEq, Option.some.injEq, Addr.mk.injEq, and_true, true_and] at he
      obtain ⟨⟨rfl, rfl⟩, rfl⟩ := he
      obtain ⟨rA, rc, rfl⟩ := LyIn.form hrows
      obtain ⟨t, -, hrl, -⟩ := HOK.out.row hr
      clear hr hrows
      by_cases hbig : (512 : Int) - (n : Int) < (rows.length : Int)
      · go_wp2
        go_ret
        exact HX.out _ _ (HK0.out.then0 HKR.out)
      · go_wp2
        refine ⟨⟨k + 1, n + rows.length, hlt, by go_num, by go_num, by rw [Nat.add_mul]; omega, HKR.out⟩, by simp only [intOf]; omega⟩
    · have hltI : ¬ (k : Int) < (tabs.length : Int) := by omega
      have c5 : wr.cell? ⟨w.heap.size + 1, 0, none⟩ = some (.slice (some ⟨g2, o2, none⟩) tabs.length scap) := (HB5.out.kept HKR.out (fun h => h)).cell 0
      have c3 : wr.cell? ⟨w.heap.size, 1, none⟩ = some (.slice (some ⟨g, o, none⟩) ts.length cap) := (HB3.out.kept HKR.out (fun h => h)).cell 1
      go_upto_region 17 with (fail)
      clear c5 c3
      go_loopw [53] (fun i wr => NRel tabs.length w0 i wr) (fun i _ => tabs.length - (intOf i).toNat)
      case atStart => exact ⟨0, Nat.zero_le _, rfl, HKR.out⟩
      case round =>
        clear HKR
        obtain ⟨k, hk, rfl, hkr⟩ := hrel
        have HKR := Lib.hid hkr
        have hk0 : (0 : Int) ≤ (k : Int) := by omega
        clear hkr
        by_cases hlt : k < tabs.length
        · have hltI : (k : Int) < (tabs.length : Int) := by omega
          obtain ⟨rows, hr⟩ : ∃ r, tabs[k]? = some r := ⟨_, List.getElem?_eq_getElem hlt⟩
          obtain ⟨g2', o2', scap', s, he, -, -, -, hcs, hrows⟩ := (HST.out.keep0 hB (HK0.out.then0 HKR.out)).row hr
          simp only [Value.agg.injEq, Array.mk.injEq, List.cons.injEq, Value.slice.injEq, Option.some.injEq, Addr.mk.injEq, and_true, true_and] at he
          obtain ⟨⟨rfl, rfl⟩, rfl⟩ := he
          obtain ⟨rA, rc, rfl⟩ := LyIn.form hrows
          obtain ⟨t, ht, hrl, hrf⟩ := HOK.out.row hr
          obtain ⟨_, _, _, _, -, -, -, -, hTI, -⟩ := HSCH.out.tbl ht
          obtain ⟨-, -, h8, hk1, hk2, -, -⟩ := hTI
          obtain ⟨kn, hkn⟩ : ∃ kn : Nat, t.key = kn := ⟨t.key.toNat, by omega⟩
          have HKN := Lib.hid hkn
          have HT := Lib.hid ht
          have HRF := Lib.hid hrf
          have HRW : Hid (RowsIn wr B (.slice rA rows.length rc) rows) := Lib.hid hrows
          have hclen : kn ≤ t.cols.length := by omega
          obtain ⟨w5x, hw5x⟩ : ∃ x, x = wr := ⟨_, rfl⟩
          have HBr : Hid (B ≤ wr.heap.size) := Lib.hid (Nat.le_trans hB (HK0.out.then0 HKR.out).size)
          rw [← hw5x] at HRW HBr
          have HE5 := Lib.hid hw5x
          clear hr hrows hkn ht hrf hk1 hk2 hw5x
          go_upto_region 20 with (fail)
          clear hcs
          go_loopw [60] (fun i wr => NRel rows.length w5x i wr) (fun i _ => rows.length - (intOf i).toNat)
          case atStart => exact ⟨0, Nat.zero_le _, rfl, by rw [HE5.out]; exact Kept.refl _ _⟩
          case round =>
            rw [← HE5.out] at HKR
            clear HE5
            obtain ⟨i, hi, rfl, hkr⟩ := hrel
            have HK4 := Lib.hid (HKR.out.then0 hkr)
            have HKI := Lib.hid hkr
            have hi0 : (0 : Int) ≤ (i : Int) := by omega
            clear hkr
            by_cases hlti : i < rows.length
            · have hltiI : (i : Int) < (rows.length : Int) := by omega
              obtain ⟨x, hx⟩ : ∃ r, rows[i]? = some r := ⟨_, List.getElem?_eq_getElem hlti⟩
              obtain ⟨gr, og, rc', rs, he, hrc1, hrc2, hgr, cr0, hrs⟩ := (HRW.out.keep0 HBr.out HKI.out).row hx
              simp only [Value.slice.injEq, true_and] at he
              obtain ⟨rfl, rfl⟩ := he
              obtain ⟨xA, xc, rfl⟩ : ∃ A c, rs = .slice A x.length c := SlIn.form hrs
              have hfx := HRF.out x (List.mem_of_getElem? hx)
              have hrc2' : rc ≤ 9223372036854775807 := by simpa only [maxLen] using hrc2
              have HXI := Lib.hid hrs
              have hkw := HK0.out.then0 HK4.out
              have hBw : B ≤ wr.heap.size := Nat.le_trans hB hkw.size
              have b0 : wr.cell? ⟨w.heap.size, 0, none⟩ = some (.int .i64 ver) := (HB3.out.kept HK4.out (fun h => h)).cell 0
              have b1 : wr.cell? ⟨w.heap.size, 0 + 1, none⟩ = some (.slice (some ⟨g, o, none⟩) ts.length cap) := (HB3.out.kept HK4.out (fun h => h)).cell 1
              have HFC := Lib.hid (fits_any B _ _ ver ts x wr (HSCH.out.keep0 hB hkw) hBw k t HT.out hrs hfx.1)
              have hkx : kn ≤ x.length := by have := hfx.1; omega
              have hxl : x.length ≤ 1000 := by have := hfx.1; omega
              clear hx hrs hfx hrc2
              go_wp2_with fail
              refine HFC.out.mono ?_
              rintro e w5 ⟨b, rfl, hk5⟩
              have HK5 := Lib.hid (HK4.out.then0 hk5)
              have HK45 := Lib.hid hk5
              have CR0 := Lib.hid cr0
              clear hk5 b0 b1 HFC cr0
              cases b with
              | false =>
                go_wp2
                go_ret
                exact HX.out _ _ (HK0.out.then0 HK5.out)
              | true =>
                by_cases hi1 : 0 < i
                · have hi1I : (0 : Int) < (i : Int) := by omega
                  obtain ⟨m, hm⟩ : ∃ m : Nat, i = m + 1 := ⟨i - 1, by omega⟩
                  have hwr : IntKind.i64.wrap ((i : Int) - 1) = (m : Int) := by rw [IntWalk.i64_in _ (by omega)]; omega
                  have hmr : m < rows.length := by omega
                  have hmrI : (m : Int) < (rows.length : Int) := by omega
                  have hm0 : (0 : Int) ≤ (m : Int) := by omega
                  obtain ⟨px, hpx⟩ : ∃ r, rows[m]? = some r := ⟨_, List.getElem?_eq_getElem hmr⟩
                  obtain ⟨gr', og', rc'', ps, he, -, -, -, cp0, hps⟩ := (HRW.out.keep0 HBr.out (HKI.out.then0 HK45.out)).row hpx
                  simp only [Value.slice.injEq, Option.some.injEq, Addr.mk.injEq, and_true, true_and] at he
                  obtain ⟨⟨rfl, rfl⟩, rfl⟩ := he
                  obtain ⟨pA, pc, rfl⟩ : ∃ A c, ps = .slice A px.length c := SlIn.form hps
                  have hfp := HRF.out px (List.mem_of_getElem? hpx)
                  have CP := Lib.hid cp0
                  have hkw5 := HK0.out.then0 HK5.out
                  have hBw5 : B ≤ w5.heap.size := Nat.le_trans hB hkw5.size
                  have hKP := key_any B (.agg #[.int .i64 ver, .slice (some ⟨g, o, none⟩) ts.length cap]) (.slice pA px.length pc) ver ts w5.drew (HSCH.out.keep0 hB hkw5.drew) hBw5 k t HT.out px (hps.old (((Kept.refl Kno w5).drew).old hBw5 (fun _ _ h => h)) (Nat.le_refl _)) kn HKN.out (by have := hfp.1; omega) (by have := hfp.1; omega)
                  generalize px.take kn = kp at hKP
                  have HKP := Lib.hid hKP
                  have hKX : ∀ wx, Kept Kno w5 wx → Calls Tryz.prog 75 #[.agg #[.int .i64 ver, .slice (some ⟨g, o, none⟩) ts.length cap], .int .i64 (k : Int), .slice xA x.length xc] wx (RowOk (x.take kn) wx) := fun wx hk => key_any B (.agg #[.int .i64 ver, .slice (some ⟨g, o, none⟩) ts.length cap]) (.slice xA x.length xc) ver ts wx (HSCH.out.keep0 hB (hkw5.then0 hk)) (Nat.le_trans hBw5 hk.size) k t HT.out x (RIn.keep0 HXI.out hBw (HK45.out.then0 hk)) kn HKN.out hkx hxl
                  generalize x.take kn = kx at hKX
                  have HKX := Lib.hid hKX
                  clear hpx cp0 hps hfp hKP hKX hm hkw5
                  go_upto_region 24 with (fail)
                  refine wp_region_held_drew (S := fun w' => Blk w' w.heap.size 82 #[.int .i64 ver, .slice (some ⟨g, o, none⟩) ts.length cap] ∧ w'.cell? ⟨gr, og + m, none⟩ = some (.slice pA px.length pc)) (by kernel_rfl) ⟨(HB3.out.kept HK5.out (fun h => h)).drew, CP.out⟩ (fun hHeld => ?_)
                  refine wpAnyH_takeE (i := 0) (v := .int .i64 (i : Int)) rfl rfl (by kernel_rfl) (by kernel_rfl) (by kernel_rfl) (fun _ _ _ h => h) (Or.inl ⟨by rfl, fun w1 hw => by go_simp⟩) (by assumption) ?_
                  (try simp only [Act.put, List.setIfInBounds_toArray, List.set_cons_zero, List.set_cons_succ])
                  refine wpAnyH_takeE (i := 1) (v := .bool true) rfl rfl (by kernel_rfl) (by kernel_rfl) (by kernel_rfl) (fun _ _ _ h => h) (Or.inl ⟨by rfl, fun w1 hw => by go_simp⟩) (by assumption) ?_
                  (try simp only [Act.put, List.setIfInBounds_toArray, List.set_cons_zero, List.set_cons_succ])
                  refine wpAnyH_takeE (i := 2) (v := .bool true) rfl rfl (by kernel_rfl) (by kernel_rfl) (by kernel_rfl) (fun _ _ _ h => h) (Or.inl ⟨by rfl, fun w1 hw => by go_simp⟩) (by assumption) ?_
                  (try simp only [Act.put, List.setIfInBounds_toArray, List.set_cons_zero, List.set_cons_succ])
                  refine wpAnyH_takeE (i := 3) (v := .agg ([.int .i64 ver, .slice (some ⟨g, o, none⟩) ts.length cap]).toArray) rfl rfl (by kernel_rfl) (by kernel_rfl) (by kernel_rfl) (fun _ _ _ h => h) (yieldsIf_load_atE (by rfl) 82 _ rfl (w.heap.size) (0) rfl ([.int .i64 ver, .slice (some ⟨g, o, none⟩) ts.length cap]) _ (fun w1 hw => CellsAt.blk hw.1) Tryz.underlying82 rfl (by kernel_rfl)) (by assumption) ?_
                  (try simp only [Act.put, List.setIfInBounds_toArray, List.set_cons_zero, List.set_cons_succ])
                  refine wpAnyH_takeE (i := 4) (v := .int .i64 (k : Int)) rfl rfl (by kernel_rfl) (by kernel_rfl) (by kernel_rfl) (fun _ _ _ h => h) (Or.inl ⟨by rfl, fun w1 hw => by go_simp⟩) (by assumption) ?_
                  (try simp only [Act.put, List.setIfInBounds_toArray, List.set_cons_zero, List.set_cons_succ])
                  refine wpAnyH_takeE (i := 5) (v := .slice (some ⟨gr, og, none⟩) rows.length rc) rfl rfl (by kernel_rfl) (by kernel_rfl) (by kernel_rfl) (fun _ _ _ h => h) (Or.inl ⟨by rfl, fun w1 hw => by go_simp⟩) (by assumption) ?_
                  (try simp only [Act.put, List.setIfInBounds_toArray, List.set_cons_zero, List.set_cons_succ])
                  refine wpAnyH_takeE (i := 6) (v := .int .i64 (i : Int)) rfl rfl (by kernel_rfl) (by kernel_rfl) (by kernel_rfl) (fun _ _ _ h => h) (Or.inl ⟨by rfl, fun w1 hw => by go_simp⟩) (by assumption) ?_
                  (try simp only [Act.put, List.setIfInBounds_toArray, List.set_cons_zero, List.set_cons_succ])
                  refine wpAnyH_takeE (i := 7) (v := .int .i64 (m : Int)) rfl rfl (by kernel_rfl) (by kernel_rfl) (by kernel_rfl) (fun _ _ _ h => h) (Or.inl ⟨by rfl, fun w1 hw => by go_simp⟩) (by assumption) ?_
                  (try simp only [Act.put, List.setIfInBounds_toArray, List.set_cons_zero, List.set_cons_succ])
                  refine wpAnyH_takeE (i := 8) (v := .pointer (some ⟨gr, og + m, none⟩)) rfl rfl (by kernel_rfl) (by kernel_rfl) (by kernel_rfl) (fun _ _ _ h => h) (Or.inl ⟨by rfl, fun w1 hw => by go_simp⟩) (by assumption) ?_
                  (try simp only [Act.put, List.setIfInBounds_toArray, List.set_cons_zero, List.set_cons_succ])
                  refine wpAnyH_takeE (i := 9) (v := .slice pA px.length pc) rfl rfl (by kernel_rfl) (by kernel_rfl) (by kernel_rfl) (fun _ _ _ h => h) (Or.inl ⟨by rfl, fun w1 hw => by have c1 := hw.2; clear hw; go_simp⟩) (by assumption) ?_
                  (try simp only [Act.put, List.setIfInBounds_toArray, List.set_cons_zero, List.set_cons_succ])
                  refine wpAnyH_takeE (i := 11) (v := .agg ([.int .i64 ver, .slice (some ⟨g, o, none⟩) ts.length cap]).toArray) rfl rfl (by kernel_rfl) (by kernel_rfl) (by kernel_rfl) (fun _ _ _ h => h) (yieldsIf_load_atE (by rfl) 82 _ rfl (w.heap.size) (0) rfl ([.int .i64 ver, .slice (some ⟨g, o, none⟩) ts.length cap]) _ (fun w1 hw => CellsAt.blk hw.1) Tryz.underlying82 rfl (by kernel_rfl)) (by assumption) ?_
                  (try simp only [Act.put, List.setIfInBounds_toArray, List.set_cons_zero, List.set_cons_succ])
                  refine wpAnyH_takeE (i := 12) (v := .int .i64 (k : Int)) rfl rfl (by kernel_rfl) (by kernel_rfl) (by kernel_rfl) (fun _ _ _ h => h) (Or.inl ⟨by rfl, fun w1 hw => by go_simp⟩) (by assumption) ?_
                  (try simp only [Act.put, List.setIfInBounds_toArray, List.set_cons_zero, List.set_cons_succ])
                  refine wpAnyH_takeE (i := 13) (v := .slice xA x.length xc) rfl rfl (by kernel_rfl) (by kernel_rfl) (by kernel_rfl) (fun _ _ _ h => h) (Or.inl ⟨by rfl, fun w1 hw => by go_simp⟩) (by assumption) ?_
                  (try simp only [Act.put, List.setIfInBounds_toArray, List.set_cons_zero, List.set_cons_succ])
                  refine wpAnyH_ready (rs := [10]) (by kernel_rfl) (by simp) ?_
                  refine AllReadyH.cons rfl (fun K' hK => ?_) (AllReadyH.nil)
                  go_simp
                  go_at_call 75
                  refine (HKP.out).mono ?_
                  rintro e w6 ⟨A6, c6, rfl, ho6, hk6⟩
                  have HK6 : Hid (Kept Kno w5 w6) := Lib.hid ((Kept.refl _ _).drew.then0 hk6)
                  have HO6 := Lib.hid ho6
                  clear ho6 hk6 HKP
                  go_wp2_with fail
                  refine hK.out _ _ ?_ (fun hHeld => ?_)
                  · exact ⟨HB3.out.kept (HK5.out.then0 HK6.out) (fun h => h), HK6.out.cell_some CP.out (fun h => h)⟩
                  clear hK K'
                  (try simp only [Act.put, List.setIfInBounds_toArray, List.set_cons_zero, List.set_cons_succ])
                  refine wpAnyH_ready (rs := [14]) (by kernel_rfl) (by simp) ?_
                  refine AllReadyH.cons rfl (fun K' hK => ?_) (AllReadyH.nil)
                  go_simp
                  go_at_call 75
                  refine (HKX.out w6 HK6.out).mono ?_
                  rintro e w7 ⟨A7, c7, rfl, ho7, hk7⟩
                  have HK7 : Hid (Kept Kno w5 w7) := Lib.hid (HK6.out.then0 hk7)
                  have HO7 := Lib.hid (OwnR.rin ho7 rfl)
                  have HO67 : Hid (RIn w7 w7.heap.size (.slice A6 kp.length c6) kp) := Lib.hid ((OwnR.rin HO6.out rfl).old (hk7.old (Nat.le_refl _) (fun _ _ h => h)) hk7.size)
                  clear ho7 hk7 HKX HO6
                  go_wp2_with fail
                  refine hK.out _ _ ?_ (fun hHeld => ?_)
                  · exact ⟨HB3.out.kept (HK5.out.then0 HK7.out) (fun h => h), HK7.out.cell_some CP.out (fun h => h)⟩
                  clear hK K'
                  (try simp only [Act.put, List.setIfInBounds_toArray, List.set_cons_zero, List.set_cons_succ])
                  refine wpAnyH_ready (rs := [15]) (by kernel_rfl) (by simp) ?_
                  refine AllReadyH.cons rfl (fun K' hK => ?_) (AllReadyH.nil)
                  go_simp
                  go_at_call 58
                  refine (crows_any w7.heap.size _ _ kp kx w7 HO67.out HO7.out (Nat.le_refl _)).mono ?_
                  rintro e w8 ⟨cr, rfl, hk8⟩
                  have HK8 : Hid (Kept Kno w5 w8) := Lib.hid (HK7.out.then0 hk8)
                  clear hk8
                  go_wp2_with fail
                  refine hK.out _ _ ?_ (fun hHeld => ?_)
                  · exact ⟨HB3.out.kept (HK5.out.then0 HK8.out) (fun h => h), HK8.out.cell_some CP.out (fun h => h)⟩
                  clear hK K'
                  (try simp only [Act.put, List.setIfInBounds_toArray, List.set_cons_zero, List.set_cons_succ])
                  refine wpAnyH_takeE (i := 16) (v := .bool (decide (0 ≤ cr))) rfl rfl (by kernel_rfl) (by kernel_rfl) (by kernel_rfl) (fun _ _ _ h => h) (Or.inl ⟨by rfl, fun w1 hw => by go_simp⟩) (by assumption) ?_
                  (try simp only [Act.put, List.setIfInBounds_toArray, List.set_cons_zero, List.set_cons_succ])
                  refine wpAnyH_takeE (i := 17) (v := .bool (decide (0 ≤ cr))) rfl rfl (by kernel_rfl) (by kernel_rfl) (by kernel_rfl) (fun _ _ _ h => h) (Or.inl ⟨by rfl, fun w1 hw => by go_simp⟩) (by assumption) ?_
                  refine wpAnyH_done (by kernel_rfl) ?_ _
                  clear hHeld
                  clear hwr
                  go_wp2
                  · go_ret
                    exact HX.out _ _ (HK0.out.then0 (HK5.out.then0 HK8.out))
                  · exact ⟨⟨i + 1, hlti, by go_num, HKI.out.then0 (HK45.out.then0 HK8.out)⟩, by simp only [intOf]; omega⟩
                · have hi1I : ¬ (0 : Int) < (i : Int) := by omega
                  go_upto_region 24 with (fail)
                  refine wp_region_held_drew (S := fun w' => Blk w' w.heap.size 82 #[.int .i64 ver, .slice (some ⟨g, o, none⟩) ts.length cap]) (by kernel_rfl) (HB3.out.kept HK5.out (fun h => h)).drew (fun hHeld => ?_)
                  refine wpAnyH_takeE (i := 0) (v := .int .i64 (i : Int)) rfl rfl (by kernel_rfl) (by kernel_rfl) (by kernel_rfl) (fun _ _ _ h => h) (Or.inl ⟨by rfl, fun w1 hw => by go_simp⟩) (by assumption) ?_
                  (try simp only [Act.put, List.setIfInBounds_toArray, List.set_cons_zero, List.set_cons_succ])
                  refine wpAnyH_takeE (i := 1) (v := .bool false) rfl rfl (by kernel_rfl) (by kernel_rfl) (by kernel_rfl) (fun _ _ _ h => h) (Or.inl ⟨by rfl, fun w1 hw => by go_simp⟩) (by assumption) ?_
                  (try simp only [Act.put, List.setIfInBounds_toArray, List.set_cons_zero, List.set_cons_succ])
                  refine wpAnyH_takeE (i := 2) (v := .bool false) rfl rfl (by kernel_rfl) (by kernel_rfl) (by kernel_rfl) (fun _ _ _ h => h) (Or.inl ⟨by rfl, fun w1 hw => by go_simp⟩) (by assumption) ?_
                  (try simp only [Act.put, List.setIfInBounds_toArray, List.set_cons_zero, List.set_cons_succ])
                  refine wpAnyH_takeE (i := 3) (v := undef) rfl rfl (by kernel_rfl) (by kernel_rfl) (by kernel_rfl) (fun _ _ _ h => h) (Or.inr ⟨by rfl, rfl⟩) (by assumption) ?_
                  (try simp only [Act.put, List.setIfInBounds_toArray, List.set_cons_zero, List.set_cons_succ])
                  refine wpAnyH_takeE (i := 4) (v := undef) rfl rfl (by kernel_rfl) (by kernel_rfl) (by kernel_rfl) (fun _ _ _ h => h) (Or.inr ⟨by rfl, rfl⟩) (by assumption) ?_
                  (try simp only [Act.put, List.setIfInBounds_toArray, List.set_cons_zero, List.set_cons_succ])
                  refine wpAnyH_takeE (i := 5) (v := undef) rfl rfl (by kernel_rfl) (by kernel_rfl) (by kernel_rfl) (fun _ _ _ h => h) (Or.inr ⟨by rfl, rfl⟩) (by assumption) ?_
                  (try simp only [Act.put, List.setIfInBounds_toArray, List.set_cons_zero, List.set_cons_succ])
                  refine wpAnyH_takeE (i := 6) (v := undef) rfl rfl (by kernel_rfl) (by kernel_rfl) (by kernel_rfl) (fun _ _ _ h => h) (Or.inr ⟨by rfl, rfl⟩) (by assumption) ?_
                  (try simp only [Act.put, List.setIfInBounds_toArray, List.set_cons_zero, List.set_cons_succ])
                  refine wpAnyH_takeE (i := 7) (v := undef) rfl rfl (by kernel_rfl) (by kernel_rfl) (by kernel_rfl) (fun _ _ _ h => h) (Or.inr ⟨by rfl, rfl⟩) (by assumption) ?_
                  (try simp only [Act.put, List.setIfInBounds_toArray, List.set_cons_zero, List.set_cons_succ])
                  refine wpAnyH_takeE (i := 8) (v := undef) rfl rfl (by kernel_rfl) (by kernel_rfl) (by kernel_rfl) (fun _ _ _ h => h) (Or.inr ⟨by rfl, rfl⟩) (by assumption) ?_
                  (try simp only [Act.put, List.setIfInBounds_toArray, List.set_cons_zero, List.set_cons_succ])
                  refine wpAnyH_takeE (i := 9) (v := undef) rfl rfl (by kernel_rfl) (by kernel_rfl) (by kernel_rfl) (fun _ _ _ h => h) (Or.inr ⟨by rfl, rfl⟩) (by assumption) ?_
                  (try simp only [Act.put, List.setIfInBounds_toArray, List.set_cons_zero, List.set_cons_succ])
                  refine wpAnyH_takeE (i := 10) (v := undef) rfl rfl (by kernel_rfl) (by kernel_rfl) (by kernel_rfl) (fun _ _ _ h => h) (Or.inr ⟨by rfl, rfl⟩) (by assumption) ?_
                  (try simp only [Act.put, List.setIfInBounds_toArray, List.set_cons_zero, List.set_cons_succ])
                  refine wpAnyH_takeE (i := 11) (v := undef) rfl rfl (by kernel_rfl) (by kernel_rfl) (by kernel_rfl) (fun _ _ _ h => h) (Or.inr ⟨by rfl, rfl⟩) (by assumption) ?_
                  (try simp only [Act.put, List.setIfInBounds_toArray, List.set_cons_zero, List.set_cons_succ])
                  refine wpAnyH_takeE (i := 12) (v := undef) rfl rfl (by kernel_rfl) (by kernel_rfl) (by kernel_rfl) (fun _ _ _ h => h) (Or.inr ⟨by rfl, rfl⟩) (by assumption) ?_
                  (try simp only [Act.put, List.setIfInBounds_toArray, List.set_cons_zero, List.set_cons_succ])
                  refine wpAnyH_takeE (i := 13) (v := undef) rfl rfl (by kernel_rfl) (by kernel_rfl) (by kernel_rfl) (fun _ _ _ h => h) (Or.inr ⟨by rfl, rfl⟩) (by assumption) ?_
                  (try simp only [Act.put, List.setIfInBounds_toArray, List.set_cons_zero, List.set_cons_succ])
                  refine wpAnyH_takeE (i := 14) (v := undef) rfl rfl (by kernel_rfl) (by kernel_rfl) (by kernel_rfl) (fun _ _ _ h => h) (Or.inr ⟨by rfl, rfl⟩) (by assumption) ?_
                  (try simp only [Act.put, List.setIfInBounds_toArray, List.set_cons_zero, List.set_cons_succ])
                  refine wpAnyH_takeE (i := 15) (v := undef) rfl rfl (by kernel_rfl) (by kernel_rfl) (by kernel_rfl) (fun _ _ _ h => h) (Or.inr ⟨by rfl, rfl⟩) (by assumption) ?_
                  (try simp only [Act.put, List.setIfInBounds_toArray, List.set_cons_zero, List.set_cons_succ])
                  refine wpAnyH_takeE (i := 16) (v := undef) rfl rfl (by kernel_rfl) (by kernel_rfl) (by kernel_rfl) (fun _ _ _ h => h) (Or.inr ⟨by rfl, rfl⟩) (by assumption) ?_
                  (try simp only [Act.put, List.setIfInBounds_toArray, List.set_cons_zero, List.set_cons_succ])
                  refine wpAnyH_takeE (i := 17) (v := .bool false) rfl rfl (by kernel_rfl) (by kernel_rfl) (by kernel_rfl) (fun _ _ _ h => h) (Or.inl ⟨by rfl, fun w1 hw => by go_simp⟩) (by assumption) ?_
                  refine wpAnyH_done (by kernel_rfl) ?_ _
                  clear hHeld
                  go_wp2
                  exact ⟨⟨i + 1, hlti, by go_num, (HKI.out.then0 HK45.out).drew⟩, by simp only [intOf]; omega⟩
            · have hltiI : ¬ (i : Int) < (rows.length : Int) := by omega
              go_wp2
              exact ⟨⟨k + 1, hlt, by go_num, HK4.out⟩, by simp only [intOf]; omega⟩
        · have hltI : ¬ (k : Int) < (tabs.length : Int) := by omega
          go_wp2
          go_ret
          exact HX.out _ _ (HK0.out.then0 HKR.out)

end Go.Proofs.YtffdaohmalmkfaaGreat
