/-
  PacketOwns: the reference's check of a schema returns. (Printed by gen_pakpm.py.)
-/
import Derived.Test.YtffdaohmalmkfaaGreatW34
set_option linter.unusedSimpArgs false
set_option linter.unusedVariables false
namespace Go.Proofs.YtffdaohmalmkfaaGreat
open Go.RowKit
set_option linter.unusedVariables false

theorem ccheck_to (p : Prd) (s us vs : Value) (ks ps : List Int) (w : World) (hp : PIn w w.heap.size p s) (hu : SlIn w w.heap.size 1 us ks.length (ks.map iv)) (hv : SlIn w w.heap.size 1 vs ps.length (ps.map iv)) :
    Calls Tryz.prog 122 #[us, vs, .agg (p.cells s).toArray] w (RetI w) := by
  rw [← p.v_cells s]
  exact ccheck_any us vs ks ps w.heap.size p s w hp hu hv (Nat.le_refl _)

set_option maxRecDepth 100000 in
set_option maxHeartbeats 3000000 in
theorem scheck_any (B : Nat) (sv : Value) (ver : Int) (ts : List Tbl) (w : World) (h : SchIn w B ver ts sv) (hB : B ≤ w.heap.size) (hts : 0 < ts.length) :
    Calls Tryz.prog 132 #[sv] w (RetI w) := by
  have HX : Hid (∀ (b : Int) (w' : World), Kept Kno w w' → RetI w (.returned (.int .i64 b)) w') := Lib.hid (fun b w' h => ⟨b, rfl, h⟩)
  obtain ⟨t0, ht0⟩ : ∃ t, ts[0]? = some t := ⟨_, List.getElem?_eq_getElem hts⟩
  obtain ⟨g, o, cap, -, rfl, hcap, hmax, hgB, -, -⟩ := h.tbl ht0
  have h4 : ts.length ≤ 4 := by obtain ⟨_, _, _, h4, _⟩ := h; exact h4
  have HSCH := Lib.hid h
  have h4I : (ts.length : Int) ≤ 4 := by omega
  have h8I : ¬ (8 : Int) < (ts.length : Int) := by omega
  have hmax' : cap ≤ 9223372036854775807 := by simpa only [maxLen] using hmax
  have hgw : g < w.heap.size := by omega
  clear h ht0 hmax
  go_enter Tryz.func132, Tryz.ntmps132
  go_upto_region 1 with (fail)
  obtain ⟨w1, h1⟩ : ∃ w1, w.alloc (.cells #[.int .i64 ver, .slice (some ⟨g, o, none⟩) ts.length cap] 82) = w1 := ⟨_, rfl⟩
  have HB1' : Hid (Blk w1 w.heap.size 82 #[.int .i64 ver, .slice (some ⟨g, o, none⟩) ts.length cap]) := Lib.hid (by rw [← h1]; exact Blk.new _ _ _)
  have HK1 : Hid (Kept Kno w w1) := Lib.hid (by rw [← h1]; exact (Kept.refl _ _).alloc _)
  rw [h1]
  clear h1
  have HB1 : Hid (Blk w1 w.heap.size 82 #[.int .i64 ver, .slice (some ⟨g, o, none⟩) ts.length cap]) := HB1'
  clear HB1'
  have c11 : w1.cell? ⟨w.heap.size, 1, none⟩ = some (.slice (some ⟨g, o, none⟩) ts.length cap) := HB1.out.cell 1
  go_upto_region 4 with (fail)
  clear c11
  go_loopw [18] (fun i wr => NRel ts.length w1 i wr) (fun i _ => ts.length - (intOf i).toNat)
  case atStart => exact ⟨0, Nat.zero_le _, rfl, Kept.refl _ _⟩
  case round =>
    obtain ⟨k, hk, rfl, hkr⟩ := hrel
    have HKR := Lib.hid hkr
    have hk0 : (0 : Int) ≤ (k : Int) := by omega
    clear hkr
    by_cases hlt : k < ts.length
    · have hltI : (k : Int) < (ts.length : Int) := by omega
      obtain ⟨t, ht⟩ : ∃ t, ts[k]? = some t := ⟨_, List.getElem?_eq_getElem hlt⟩
      obtain ⟨-, st, hT, hc⟩ := HSCH.out.at_ ht
      obtain ⟨name, cols, key, refs, chk⟩ := t
      obtain ⟨hcols, -, h8, -, -, hrf, hch⟩ := hT
      simp only at hcols h8 hrf hch
      obtain ⟨sc, sr, sk⟩ := st
      simp only at hcols hrf hch
      obtain ⟨rA, rc, rfl⟩ := LyIn.form hrf
      obtain ⟨kA, kc, rfl⟩ := LyIn.form hch
      obtain ⟨cA, cc, rfl⟩ := SlIn.form hcols
      have HCS : Hid (CellsAt wr g (o + k * 5) [.string name, .slice cA cols.length cc, .int .i64 key, .slice rA refs.length rc, .slice kA chk.length kc]) := Lib.hid (fun j u hj => (HK1.out.then0 HKR.out).cell_some (hc j u hj) (fun h => h))
      have hc8 : ¬ (8 : Int) < (cols.length : Int) := by omega
      clear ht hc hcols hrf hch
      go_upto_region 6 with (first
        | (refine wpList_load_at rfl 151 (.tmp 20) rfl g (o + k * 5) [.string name, .slice cA cols.length cc, .int .i64 key, .slice rA refs.length rc, .slice kA chk.length kc] _ rfl HCS.out Tryz.underlying151 rfl (by kernel_rfl) ?_)
        | (refine wpList_store_new rfl 151 (.tmp 4) (.tmp 21) rfl _ #[.string name, .slice cA cols.length cc, .int .i64 key, .slice rA refs.length rc, .slice kA chk.length kc] rfl rfl (by kernel_rfl) rfl (by simp [Value.oneCell']) ?_))
      try simp only [Act.put]
      obtain ⟨w2, h2⟩ : ∃ w2, wr.alloc (.cells #[.string name, .slice cA cols.length cc, .int .i64 key, .slice rA refs.length rc, .slice kA chk.length kc] 151) = w2 := ⟨_, rfl⟩
      have HK2 : Hid (Kept Kno w1 w2) := Lib.hid (HKR.out.then0 (by rw [← h2]; exact (Kept.refl _ _).alloc _))
      have hb4 : Blk w2 wr.heap.size 151 #[.string name, .slice cA cols.length cc, .int .i64 key, .slice rA refs.length rc, .slice kA chk.length kc] := by rw [← h2]; exact Blk.new _ _ _
      have d1 : w2.cell? ⟨wr.heap.size, 1, none⟩ = some (.slice cA cols.length cc) := hb4.cell 1
      have d3 : w2.cell? ⟨wr.heap.size, 3, none⟩ = some (.slice rA refs.length rc) := hb4.cell 3
      have d4 : w2.cell? ⟨wr.heap.size, 4, none⟩ = some (.slice kA chk.length kc) := hb4.cell 4
      rw [h2]
      clear h2 hb4
      by_cases hr4 : (4 : Int) < (refs.length : Int)
      · go_wp2
        go_ret
        exact HX.out _ _ (HK1.out.then0 HK2.out)
      by_cases hk4 : (4 : Int) < (chk.length : Int)
      · go_wp2
        go_ret
        exact HX.out _ _ (HK1.out.then0 HK2.out)
      go_wp2
      exact ⟨⟨k + 1, hlt, by go_num, HK2.out⟩, by simp only [intOf]; omega⟩
    · have hltI : ¬ (k : Int) < (ts.length : Int) := by omega
      have c10 : wr.cell? ⟨w.heap.size, 0, none⟩ = some (.int .i64 ver) := (HB1.out.kept HKR.out (fun h => h)).cell 0
      by_cases hv0 : ver < 0
      · go_wp2
        go_ret
        exact HX.out _ _ (HK1.out.then0 HKR.out)
      by_cases hv1 : 1000 < ver
      · go_wp2
        go_ret
        exact HX.out _ _ (HK1.out.then0 HKR.out)
      have c11 : wr.cell? ⟨w.heap.size, 1, none⟩ = some (.slice (some ⟨g, o, none⟩) ts.length cap) := (HB1.out.kept HKR.out (fun h => h)).cell 1
      go_upto_region 12 with (fail)
      clear c10 c11
      go_loopw [50] (fun i wr => NRel ts.length w1 i wr) (fun i _ => ts.length - (intOf i).toNat)
      case atStart => exact ⟨0, Nat.zero_le _, rfl, HKR.out⟩
      case round =>
        clear HKR
        obtain ⟨k, hk, rfl, hkr⟩ := hrel
        have HKR := Lib.hid hkr
        have hk0 : (0 : Int) ≤ (k : Int) := by omega
        clear hkr
        by_cases hlt : k < ts.length
        · have hltI : (k : Int) < (ts.length : Int) := by omega
          obtain ⟨t, ht⟩ : ∃ t, ts[k]? = some t := ⟨_, List.getElem?_eq_getElem hlt⟩
          have hC := table_any wr.heap.size _ ver ts wr (HSCH.out.old ((HK1.out.then0 HKR.out).old hB (fun _ _ h => h)) (Nat.le_trans hB (HK1.out.then0 HKR.out).size)) (Nat.le_refl _) k t ht
          have HC := Lib.hid hC
          have b0 : wr.cell? ⟨w.heap.size, 0, none⟩ = some (.int .i64 ver) := (HB1.out.kept HKR.out (fun h => h)).cell 0
          have b1 : wr.cell? ⟨w.heap.size, 0 + 1, none⟩ = some (.slice (some ⟨g, o, none⟩) ts.length cap) := (HB1.out.kept HKR.out (fun h => h)).cell 1
          clear hC ht
          go_wp2_with fail
          refine HC.out.mono ?_
          rintro e w2 ⟨b, rfl, hk2⟩
          have HK2 := Lib.hid (HKR.out.then0 hk2)
          clear hk2 b0 b1
          cases b with
          | false =>
            go_wp2
            go_ret
            exact HX.out _ _ (HK1.out.then0 HK2.out)
          | true =>
            go_wp2
            exact ⟨⟨k + 1, hlt, by go_num, HK2.out⟩, by simp only [intOf]; omega⟩
        · have hltI : ¬ (k : Int) < (ts.length : Int) := by omega
          have c11 : wr.cell? ⟨w.heap.size, 1, none⟩ = some (.slice (some ⟨g, o, none⟩) ts.length cap) := (HB1.out.kept HKR.out (fun h => h)).cell 1
          go_upto_region 18 with (fail)
          clear c11
          go_loopw [61] (fun i wr => NRel ts.length w1 i wr) (fun i _ => ts.length - (intOf i).toNat)
          case atStart => exact ⟨0, Nat.zero_le _, rfl, HKR.out⟩
          case round =>
            clear HKR
            obtain ⟨k, hk, rfl, hkr⟩ := hrel
            have HKR := Lib.hid hkr
            have hk0 : (0 : Int) ≤ (k : Int) := by omega
            clear hkr
            by_cases hlt : k < ts.length
            · have hltI : (k : Int) < (ts.length : Int) := by omega
              obtain ⟨t, ht⟩ : ∃ t, ts[k]? = some t := ⟨_, List.getElem?_eq_getElem hlt⟩
              have hC := references_any wr.heap.size _ ver ts wr (HSCH.out.old ((HK1.out.then0 HKR.out).old hB (fun _ _ h => h)) (Nat.le_trans hB (HK1.out.then0 HKR.out).size)) (Nat.le_refl _) k t ht
              have HC := Lib.hid hC
              have b0 : wr.cell? ⟨w.heap.size, 0, none⟩ = some (.int .i64 ver) := (HB1.out.kept HKR.out (fun h => h)).cell 0
              have b1 : wr.cell? ⟨w.heap.size, 0 + 1, none⟩ = some (.slice (some ⟨g, o, none⟩) ts.length cap) := (HB1.out.kept HKR.out (fun h => h)).cell 1
              clear hC ht
              go_wp2_with fail
              refine HC.out.mono ?_
              rintro e w2 ⟨b, rfl, hk2⟩
              have HK2 := Lib.hid (HKR.out.then0 hk2)
              clear hk2 b0 b1
              cases b with
              | false =>
                go_wp2
                go_ret
                exact HX.out _ _ (HK1.out.then0 HK2.out)
              | true =>
                go_wp2
                exact ⟨⟨k + 1, hlt, by go_num, HK2.out⟩, by simp only [intOf]; omega⟩
            · have hltI : ¬ (k : Int) < (ts.length : Int) := by omega
              have c11 : wr.cell? ⟨w.heap.size, 1, none⟩ = some (.slice (some ⟨g, o, none⟩) ts.length cap) := (HB1.out.kept HKR.out (fun h => h)).cell 1
              go_upto_region 24 with (fail)
              clear c11
              go_loopw [72] (fun i wr => NRel ts.length w1 i wr) (fun i _ => ts.length - (intOf i).toNat)
              case atStart => exact ⟨0, Nat.zero_le _, rfl, HKR.out⟩
              case round =>
                clear HKR
                obtain ⟨k, hk, rfl, hkr⟩ := hrel
                have HKR := Lib.hid hkr
                have hk0 : (0 : Int) ≤ (k : Int) := by omega
                clear hkr
                by_cases hlt : k < ts.length
                · have hltI : (k : Int) < (ts.length : Int) := by omega
                  obtain ⟨t, ht⟩ : ∃ t, ts[k]? = some t := ⟨_, List.getElem?_eq_getElem hlt⟩
                  obtain ⟨-, st, hT, hc⟩ := HSCH.out.at_ ht
                  obtain ⟨-, -, -, -, -, -, hch⟩ := hT
                  obtain ⟨kA, kc, hsk, hkc, hkm, -, -, hkat⟩ := hch
                  have HKAT := Lib.hid hkat
                  have ck : wr.cell? ⟨g, o + k * 5 + 4, none⟩ = some (.slice kA t.chk.length kc) := by rw [← hsk]; exact (HK1.out.then0 HKR.out).cell_some (hc 4 _ rfl) (fun h => h)
                  have hkm' : kc ≤ 9223372036854775807 := by simpa only [maxLen] using hkm
                  have HT := Lib.hid ht
                  have c11 : wr.cell? ⟨w.heap.size, 1, none⟩ = some (.slice (some ⟨g, o, none⟩) ts.length cap) := (HB1.out.kept HKR.out (fun h => h)).cell 1
                  generalize hchk : t.chk = chk at HKAT ck hkc
                  clear ht hc hkat hsk hkm hchk
                  go_upto_region 27 with (fail)
                  clear c11 ck
                  go_loopw [82] (fun i wr => NRel chk.length w1 i wr) (fun i _ => chk.length - (intOf i).toNat)
                  case atStart => exact ⟨0, Nat.zero_le _, rfl, HKR.out⟩
                  case round =>
                    clear HKR
                    obtain ⟨c, hcc, rfl, hkr⟩ := hrel
                    have HKR := Lib.hid hkr
                    have hc0 : (0 : Int) ≤ (c : Int) := by omega
                    clear hkr
                    by_cases hltc : c < chk.length
                    · have hltcI : (c : Int) < (chk.length : Int) := by omega
                      obtain ⟨gk, ok, rfl, -, hps⟩ := HKAT.out (by omega)
                      obtain ⟨p, hp⟩ : ∃ p, chk[c]? = some p := ⟨_, List.getElem?_eq_getElem hltc⟩
                      obtain ⟨ps, hpin, hpc⟩ := PsAt.get hps hp
                      have hkwr := HK1.out.then0 HKR.out
                      have HPC : Hid (CellsAt wr gk (ok + c * 13) (p.cells ps)) := Lib.hid (fun j u hj => hkwr.cell_some (hpc j u hj) (fun h => h))
                      have HP : Hid (PIn wr B p ps) := Lib.hid (PIn.old (hkwr.old hB (fun _ _ h => h)) (Nat.le_refl _) _ _ hpin)
                      have hpo := PIn.one hpin
                      have hpn := p.cells_length ps
                      have HIP : Hid ((Tryz.prog.info? 54).map (·.size) = some (p.cells ps).length) := Lib.hid (by rw [hpn]; kernel_rfl)
                      have HIP2 : Hid ((Tryz.prog.info? 54).map (·.size) = some (p.cells ps).toArray.size) := Lib.hid (by rw [List.size_toArray, hpn]; kernel_rfl)
                      have HZ : Hid ((p.cells ps).toArray.size = 13) := Lib.hid (by rw [List.size_toArray, hpn])
                      have HO : Hid ((p.cells ps).toArray.all (·.oneCell') = true) := Lib.hid (by simpa using hpo)
                      have HBW : Hid (B ≤ wr.heap.size) := Lib.hid (Nat.le_trans hB hkwr.size)
                      clear hps hp hpin hpc hpo hpn hkwr
                      go_upto_region 29 with (first
                        | (refine wpList_load_at rfl 54 (.tmp 84) rfl gk (ok + c * 13) (p.cells ps) _ rfl HPC.out Tryz.underlying54 rfl HIP.out ?_)
                        | (refine wpList_store_new rfl 54 (.tmp 9) (.tmp 85) rfl _ (p.cells ps).toArray rfl rfl HIP2.out (by rw [HZ.out]; rfl) HO.out ?_))
                      try simp only [Act.put]
                      obtain ⟨w9, h9⟩ : ∃ w9, wr.alloc (.cells (p.cells ps).toArray 54) = w9 := ⟨_, rfl⟩
                      obtain ⟨T9, hT9⟩ : ∃ T, wr.heap.size = T := ⟨_, rfl⟩
                      have hka : Kept Kno wr w9 := by rw [← h9]; exact (Kept.refl _ _).alloc _
                      have HK9 : Hid (Kept Kno w1 w9) := Lib.hid (HKR.out.then0 hka)
                      have HB9 : Hid (Blk w9 T9 54 (p.cells ps).toArray) := Lib.hid (by rw [← h9, ← hT9]; exact Blk.new _ _ _)
                      have HP9 : Hid (PIn w9 B p ps) := Lib.hid (PIn.old (hka.old HBW.out (fun _ _ h => h)) (Nat.le_refl _) _ _ HP.out)
                      have hB9 : B ≤ w9.heap.size := Nat.le_trans HBW.out hka.size
                      rw [h9, hT9]
                      clear h9 hT9 hka HKR
                      have hKk := kinds_any w9.heap.size (.agg #[.int .i64 ver, .slice (some ⟨g, o, none⟩) ts.length cap]) ver ts w9.drew (HSCH.out.old (((HK1.out.then0 HK9.out).drew).old hB (fun _ _ h => h)) hB9) (Nat.le_refl _) k t HT.out
                      generalize t.cols.map (·.2) = ks at hKk
                      have HKC := Lib.hid hKk
                      clear hKk
                      refine wp_region_held_drew (S := fun w' => Blk w' w.heap.size 82 #[.int .i64 ver, .slice (some ⟨g, o, none⟩) ts.length cap] ∧ Blk w' T9 54 (p.cells ps).toArray) (by kernel_rfl) ⟨(HB1.out.kept HK9.out (fun h => h)).drew, HB9.out.drew⟩ (fun hHeld => ?_)
                      refine wpAnyH_takeE (i := 0) (v := .agg ([.int .i64 ver, .slice (some ⟨g, o, none⟩) ts.length cap]).toArray) rfl rfl (by kernel_rfl) (by kernel_rfl) (by kernel_rfl) (fun _ _ _ h => h) (yieldsIf_load_atE (by rfl) 82 _ rfl (w.heap.size) (0) rfl ([.int .i64 ver, .slice (some ⟨g, o, none⟩) ts.length cap]) _ (fun w1 hw => CellsAt.blk hw.1) Tryz.underlying82 rfl (by kernel_rfl)) (by assumption) ?_
                      (try simp only [Act.put, List.setIfInBounds_toArray, List.set_cons_zero, List.set_cons_succ])
                      refine wpAnyH_takeE (i := 1) (v := .int .i64 (k : Int)) rfl rfl (by kernel_rfl) (by kernel_rfl) (by kernel_rfl) (fun _ _ _ h => h) (Or.inl ⟨by rfl, fun w1 hw => by go_simp⟩) (by assumption) ?_
                      (try simp only [Act.put, List.setIfInBounds_toArray, List.set_cons_zero, List.set_cons_succ])
                      refine wpAnyH_takeE (i := 3) (v := .agg (p.cells ps).toArray) rfl rfl (by kernel_rfl) (by kernel_rfl) (by kernel_rfl) (fun _ _ _ h => h) (yieldsIf_load_atE (by rfl) 54 _ rfl (T9) (0) rfl (p.cells ps) _ (fun w1 hw => CellsAt.blk hw.2) Tryz.underlying54 rfl HIP.out) (by assumption) ?_
                      (try simp only [Act.put, List.setIfInBounds_toArray, List.set_cons_zero, List.set_cons_succ])
                      refine wpAnyH_ready (rs := [2]) (by kernel_rfl) (by simp) ?_
                      refine AllReadyH.cons rfl (fun K' hK => ?_) (AllReadyH.nil)
                      go_simp
                      go_at_call 61
                      refine (HKC.out).mono ?_
                      rintro e w10 ⟨A5, c5, rfl, ho5, hk5⟩
                      have HK10 : Hid (Kept Kno w9 w10) := Lib.hid ((Kept.refl _ _).drew.then0 hk5)
                      have HU := Lib.hid (own_slin0 ho5)
                      have HPI := Lib.hid (PIn.old (HK10.out.old hB9 (fun _ _ h => h)) (Nat.le_trans hB9 HK10.out.size) _ _ HP9.out)
                      clear ho5 hk5 HKC
                      go_wp2_with fail
                      refine hK.out _ _ ?_ (fun hHeld => ?_)
                      · exact ⟨HB1.out.kept (HK9.out.then0 HK10.out) (fun h => h), HB9.out.kept HK10.out (fun h => h)⟩
                      clear hK K'
                      (try simp only [Act.put, List.setIfInBounds_toArray, List.set_cons_zero, List.set_cons_succ])
                      refine wpAnyH_ready (rs := [4]) (by kernel_rfl) (by simp) ?_
                      refine AllReadyH.cons rfl (fun K' hK => ?_) (AllReadyH.nil)
                      go_simp
                      go_at_call 122
                      refine (ccheck_to p ps _ _ ks [] w10 HPI.out HU.out SlIn.nil).mono ?_
                      rintro e w11 ⟨cr, rfl, hk11⟩
                      have HK11 := Lib.hid (HK10.out.then0 hk11)
                      clear hk11
                      go_wp2_with fail
                      refine hK.out _ _ ?_ (fun hHeld => ?_)
                      · exact ⟨HB1.out.kept (HK9.out.then0 HK11.out) (fun h => h), HB9.out.kept HK11.out (fun h => h)⟩
                      clear hK K'
                      (try simp only [Act.put, List.setIfInBounds_toArray, List.set_cons_zero, List.set_cons_succ])
                      refine wpAnyH_ready (rs := [5]) (by kernel_rfl) (by simp) ?_
                      refine AllReadyH.cons rfl (fun K' hK => ?_) (AllReadyH.nil)
                      go_simp
                      refine hK.out _ _ ?_ (fun hHeld => ?_)
                      · exact ⟨HB1.out.kept (HK9.out.then0 HK11.out) (fun h => h), HB9.out.kept HK11.out (fun h => h)⟩
                      clear hK K'
                      refine wpAnyH_done (by kernel_rfl) ?_ _
                      clear hHeld
                      by_cases hcr : cr = 0
                      · subst hcr
                        go_wp2
                        exact ⟨⟨c + 1, hltc, by go_num, HK9.out.then0 HK11.out⟩, by simp only [intOf]; omega⟩
                      · have hcb : (cr != 0) = true := by rw [bne_iff_ne]; exact hcr
                        go_wp2
                        go_ret
                        exact HX.out _ _ (HK1.out.then0 (HK9.out.then0 HK11.out))
                    · have hltcI : ¬ (c : Int) < (chk.length : Int) := by omega
                      go_wp2
                      exact ⟨⟨k + 1, hlt, by go_num, HKR.out⟩, by simp only [intOf]; omega⟩
                · have hltI : ¬ (k : Int) < (ts.length : Int) := by omega
                  go_wp2
                  go_ret
                  exact HX.out _ _ (HK1.out.then0 HKR.out)

end Go.Proofs.YtffdaohmalmkfaaGreat
