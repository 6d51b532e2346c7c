/-
  PacketOwns: the reference's checks of schemas return: table.
-/
import Derived.Test.YtffdaohmalmkfaaGreatW32
set_option linter.unusedSimpArgs false
set_option linter.unusedVariables false
namespace Go.Proofs.YtffdaohmalmkfaaGreat
open Go.RowKit
set_option linter.unusedVariables false

theorem SchIn.at_ {w : World} {B g o n cap : Nat} {ver : Int} {ts : List Tbl} (h : SchIn w B ver ts (.agg #[.int .i64 ver, .slice (some ⟨g, o, none⟩) n cap])) {j : Nat} {t : Tbl} (hj : ts[j]? = some t) : g < B ∧ ∃ st, TIn w B t st ∧ CellsAt w g (o + j * 5) (tblC t st) := by
  obtain ⟨g', o', cap', st, he, -, -, hg, hT, hc⟩ := h.tbl hj
  injection he with he
  have he2 := congrArg (fun a => a[1]?) he
  simp only [List.getElem?_toArray, List.getElem?_cons_succ, List.getElem?_cons_zero, Option.some.injEq, Value.slice.injEq, Addr.mk.injEq, and_true] at he2
  obtain ⟨⟨rfl, rfl⟩, -, -⟩ := he2
  exact ⟨hg, st, hT, hc⟩
def NRel (n : Nat) (w : World) (i : Value) (wr : World) : Prop := ∃ k : Nat, k ≤ n ∧ i = .int .i64 k ∧ Kept Kno w wr

set_option maxRecDepth 100000 in
set_option maxHeartbeats 3000000 in
theorem table_any (B : Nat) (sv : Value) (ver : Int) (ts : List Tbl) (w : World) (h : SchIn w B ver ts sv) (hB : B ≤ w.heap.size) (j : Nat) (t : Tbl) (hj : ts[j]? = some t) :
    Calls Tryz.prog 220 #[sv, .int .i64 j] w (RetAny w) := by
  have HX : Hid (∀ (b : Bool) (w' : World), Kept Kno w w' → RetAny w (.returned (.bool b)) w') := Lib.hid (fun b w' h => ⟨b, rfl, h⟩)
  obtain ⟨hjl, -⟩ := List.getElem?_eq_some_iff.1 hj
  obtain ⟨g, o, cap, st, rfl, hcap, hmax, hgB, hst, hcs⟩ := h.tbl hj
  obtain ⟨name, cols, key, refs, chk⟩ := t
  obtain ⟨hcols, hkr, h8, hk1, hk2, hrf, hch⟩ := hst
  simp only at hcols hkr h8 hk1 hk2 hrf hch
  obtain ⟨sc, sr, sk⟩ := st
  simp only at hcols hrf hch
  obtain ⟨rA, rc, rfl⟩ := LyIn.form hrf
  obtain ⟨kA, kc, rfl⟩ := LyIn.form hch
  obtain ⟨cA, cc, rfl, hcc, hcm, -, -, -, hcat⟩ := hcols
  obtain ⟨g2, o2, rfl, hgB2, hc2⟩ := hcat (by omega)
  have HSCH := Lib.hid h
  have HC2 := Lib.hid hc2
  have hcs' : CellsAt (w.alloc (.cells #[.int .i64 ver, .slice (some ⟨g, o, none⟩) ts.length cap] 82)) g (o + j * 5) [.string name, .slice (some ⟨g2, o2, none⟩) cols.length cc, .int .i64 key, .slice rA refs.length rc, .slice kA chk.length kc] := hcs.old (w' := w.alloc _) hgB (((Kept.refl Kno w).alloc _).old hB (fun _ _ h => h))
  have HCS := Lib.hid hcs'
  have hj0 : (0 : Int) ≤ (j : Int) := by omega
  have hjI : (j : Int) < (ts.length : Int) := by omega
  have hmax' : cap ≤ 9223372036854775807 := by simpa only [maxLen] using hmax
  have hcm' : cc ≤ 9223372036854775807 := by simpa only [maxLen] using hcm
  have hlb : ((cols.length : Int) == 0) = false := by rw [beq_eq_false_iff_ne]; omega
  have hk1I : ¬ key < 1 := by omega
  have hk2I : ¬ (cols.length : Int) < key := by omega
  have hgw : g < w.heap.size := by omega
  clear h hj hcs hcs' hcat hc2 hmax hcm hrf hch hkr
  go_enter Tryz.func220, Tryz.ntmps220
  go_upto_region 2 with (first
    | (refine wpList_load_at rfl 151 (.tmp 12) rfl g (o + j * 5) [.string name, .slice (some ⟨g2, o2, none⟩) cols.length cc, .int .i64 key, .slice rA refs.length rc, .slice kA chk.length kc] _ rfl HCS.out Tryz.underlying151 rfl (by kernel_rfl) ?_)
    | (refine wpList_store_new rfl 151 (.tmp 5) (.tmp 13) rfl _ #[.string name, .slice (some ⟨g2, o2, none⟩) cols.length cc, .int .i64 key, .slice rA refs.length rc, .slice kA chk.length kc] rfl rfl (by kernel_rfl) rfl (by simp [Value.oneCell']) ?_))
  try simp only [Act.put]
  obtain ⟨w1, h1⟩ : ∃ w1, (w.alloc (.cells #[.int .i64 ver, .slice (some ⟨g, o, none⟩) ts.length cap] 82)).alloc (.cells #[.string name, .slice (some ⟨g2, o2, none⟩) cols.length cc, .int .i64 key, .slice rA refs.length rc, .slice kA chk.length kc] 151) = w1 := ⟨_, rfl⟩
  have hk1 : Kept Kno w w1 := by rw [← h1]; exact ((Kept.refl _ _).alloc _).alloc _
  have HB2 : Hid (Blk w1 w.heap.size 82 #[.int .i64 ver, .slice (some ⟨g, o, none⟩) ts.length cap]) := Lib.hid (by rw [← h1]; exact (Blk.new _ _ _).alloc _)
  have HB5 : Hid (Blk w1 (w.heap.size + 1) 151 #[.string name, .slice (some ⟨g2, o2, none⟩) cols.length cc, .int .i64 key, .slice rA refs.length rc, .slice kA chk.length kc]) := Lib.hid (by rw [← h1]; have := Blk.new (w.alloc (.cells #[.int .i64 ver, .slice (some ⟨g, o, none⟩) ts.length cap] 82)) 151 #[.string name, .slice (some ⟨g2, o2, none⟩) cols.length cc, .int .i64 key, .slice rA refs.length rc, .slice kA chk.length kc]; simpa using this)
  have HK1 := Lib.hid hk1
  rw [h1]
  have c50 : w1.cell? ⟨w.heap.size + 1, 0, none⟩ = some (.string name) := HB5.out.cell 0
  clear h1 hk1 HCS
  go_wp2_with fail
  refine (name_any name w1).mono ?_
  rintro e w2 ⟨b, rfl, hk2⟩
  have HK2 := Lib.hid hk2
  have c51 : w2.cell? ⟨w.heap.size + 1, 1, none⟩ = some (.slice (some ⟨g2, o2, none⟩) cols.length cc) := (HB5.out.kept hk2 (fun h => h)).cell 1
  have c52 : w2.cell? ⟨w.heap.size + 1, 2, none⟩ = some (.int .i64 key) := (HB5.out.kept hk2 (fun h => h)).cell 2
  clear hk2 c50
  cases b with
  | false =>
    go_wp2
    go_ret
    exact HX.out _ _ (HK1.out.then0 HK2.out)
  | true =>
    go_upto_region 4 with (fail)
    clear c51 c52
    go_wp2_with fail
    go_loopw [6] (fun i wr => NRel j w1 i wr) (fun i _ => j - (intOf i).toNat)
    case atStart => exact ⟨0, Nat.zero_le _, rfl, HK2.out⟩
    case round =>
      obtain ⟨k, hk, rfl, hkr⟩ := hrel
      have HKR := Lib.hid hkr
      have hk0 : (0 : Int) ≤ (k : Int) := by omega
      clear hkr
      by_cases hlt : k < j
      · have hltI : (k : Int) < (j : Int) := by omega
        have hltS : (k : Int) < (ts.length : Int) := by omega
        obtain ⟨t2, ht2⟩ : ∃ t2, ts[k]? = some t2 := ⟨_, List.getElem?_eq_getElem (by omega)⟩
        obtain ⟨-, st2, -, hc⟩ := HSCH.out.at_ ht2
        have cn : wr.cell? ⟨g, o + k * 5, none⟩ = some (.string t2.name) := ((HK1.out.then0 HKR.out).cell_some (hc 0 _ rfl) (fun h => h))
        have c21 : wr.cell? ⟨w.heap.size, 1, none⟩ = some (.slice (some ⟨g, o, none⟩) ts.length cap) := (HB2.out.kept HKR.out (fun h => h)).cell 1
        have c50 : wr.cell? ⟨w.heap.size + 1, 0, none⟩ = some (.string name) := (HB5.out.kept HKR.out (fun h => h)).cell 0
        generalize t2.name = nm at cn
        clear ht2 hc
        go_wp2_with fail
        go_quiet (fail)
        go_wp2
        · go_ret
          exact HX.out _ _ ((HK1.out.then0 HKR.out).drewN _)
        · exact ⟨⟨k + 1, hlt, by go_num, HKR.out.drewN _⟩, by simp only [intOf]; omega⟩
      · have hltI : ¬ (k : Int) < (j : Int) := by omega
        have c51 : wr.cell? ⟨w.heap.size + 1, 1, none⟩ = some (.slice (some ⟨g2, o2, none⟩) cols.length cc) := (HB5.out.kept HKR.out (fun h => h)).cell 1
        go_upto_region 10 with (fail)
        clear c51
        go_loopw [54] (fun i wr => NRel cols.length w1 i wr) (fun i _ => cols.length - (intOf i).toNat)
        case atStart => exact ⟨0, Nat.zero_le _, rfl, HKR.out⟩
        case round =>
          clear HKR
          obtain ⟨c, hc, rfl, hkr⟩ := hrel
          have HKR := Lib.hid hkr
          have hc0 : (0 : Int) ≤ (c : Int) := by omega
          clear hkr
          by_cases hltc : c < cols.length
          · have hltcI : (c : Int) < (cols.length : Int) := by omega
            have c51 : wr.cell? ⟨w.heap.size + 1, 1, none⟩ = some (.slice (some ⟨g2, o2, none⟩) cols.length cc) := (HB5.out.kept HKR.out (fun h => h)).cell 1
            obtain ⟨q, hq⟩ : ∃ q, cols[c]? = some q := ⟨_, List.getElem?_eq_getElem hltc⟩
            have hcq := CellsAt.flat (sz := 2) (i := c) (x := q) HC2.out (fun y => rfl) hq
            have cq0 : wr.cell? ⟨g2, o2 + c * 2, none⟩ = some (.string q.1) := (HK1.out.then0 HKR.out).cell_some (hcq 0 _ rfl) (fun h => h)
            have HQ1 : Hid (w.cell? ⟨g2, o2 + c * 2 + 1, none⟩ = some (.int .i64 q.2)) := Lib.hid (hcq 1 _ rfl)
            generalize q.1 = qn at cq0
            generalize q.2 = qk at HQ1
            clear hcq hq
            go_upto_region 12 with (fail)
            go_cut [74] (fun x wx => ∃ b : Bool, x = .bool b ∧ Kept Kno w1 wx)
            case first =>
              go_wp2_with fail
              refine (name_any qn wr).mono ?_
              rintro e w3 ⟨b1, rfl, hk3⟩
              have HK3 := Lib.hid (HKR.out.then0 hk3)
              have d51 : w3.cell? ⟨w.heap.size + 1, 1, none⟩ = some (.slice (some ⟨g2, o2, none⟩) cols.length cc) := (HB5.out.kept (HKR.out.then0 hk3) (fun h => h)).cell 1
              have dq1 : w3.cell? ⟨g2, o2 + c * 2 + 1, none⟩ = some (.int .i64 qk) := (HK1.out.then0 (HKR.out.then0 hk3)).cell_some HQ1.out (fun h => h)
              clear hk3 c51 cq0
              cases b1 with
              | false =>
                go_wp2
                go_meet
                exact ⟨true, rfl, HK3.out⟩
              | true =>
                go_wp2_with fail
                refine (ckind_any qk w3).mono ?_
                rintro e w4 ⟨b2, rfl, hk4⟩
                have HK4 := Lib.hid (HK3.out.then0 hk4)
                clear hk4
                go_wp2
                go_meet
                exact ⟨_, rfl, HK4.out⟩
            case rest =>
            obtain ⟨b, rfl, hkb⟩ := hcut
            have HKB := Lib.hid hkb
            clear hkb c51 cq0
            cases b with
            | true =>
              go_wp2
              go_ret
              exact HX.out _ _ (HK1.out.then0 HKB.out)
            | false =>
              go_upto_region 15 with (fail)
              go_loopw [8] (fun i wr => NRel c w1 i wr) (fun i _ => c - (intOf i).toNat)
              case atStart => exact ⟨0, Nat.zero_le _, rfl, HKB.out⟩
              case round =>
                clear HKR HKB
                obtain ⟨k2, hk2', rfl, hkr⟩ := hrel
                have HKR := Lib.hid hkr
                have hk20 : (0 : Int) ≤ (k2 : Int) := by omega
                clear hkr
                by_cases hlt2 : k2 < c
                · have hlt2I : (k2 : Int) < (c : Int) := by omega
                  have hlt2S : (k2 : Int) < (cols.length : Int) := by omega
                  have c51 : wr.cell? ⟨w.heap.size + 1, 1, none⟩ = some (.slice (some ⟨g2, o2, none⟩) cols.length cc) := (HB5.out.kept HKR.out (fun h => h)).cell 1
                  obtain ⟨q, hq⟩ : ∃ q, cols[c]? = some q := ⟨_, List.getElem?_eq_getElem hltc⟩
                  obtain ⟨q2, hq2⟩ : ∃ q, cols[k2]? = some q := ⟨_, List.getElem?_eq_getElem (by omega)⟩
                  have cq0 : wr.cell? ⟨g2, o2 + c * 2, none⟩ = some (.string q.1) := (HK1.out.then0 HKR.out).cell_some ((CellsAt.flat (sz := 2) (i := c) (x := q) HC2.out (fun y => rfl) hq) 0 _ rfl) (fun h => h)
                  have cq2 : wr.cell? ⟨g2, o2 + k2 * 2, none⟩ = some (.string q2.1) := (HK1.out.then0 HKR.out).cell_some ((CellsAt.flat (sz := 2) (i := k2) (x := q2) HC2.out (fun y => rfl) hq2) 0 _ rfl) (fun h => h)
                  generalize q.1 = na at cq0
                  generalize q2.1 = nb at cq2
                  clear hq hq2
                  go_wp2_with fail
                  go_quiet (fail)
                  go_wp2
                  · go_ret
                    exact HX.out _ _ ((HK1.out.then0 HKR.out).drewN _)
                  · exact ⟨⟨k2 + 1, hlt2, by go_num, HKR.out.drewN _⟩, by simp only [intOf]; omega⟩
                · have hlt2I : ¬ (k2 : Int) < (c : Int) := by omega
                  go_wp2
                  go_roundw
                  case rel => exact ⟨c + 1, hltc, by go_num, HKR.out⟩
                  case measure => simp only [intOf]; omega
          · have hltcI : ¬ (c : Int) < (cols.length : Int) := by omega
            go_wp2
            go_ret
            exact HX.out _ _ (HK1.out.then0 HKR.out)

end Go.Proofs.YtffdaohmalmkfaaGreat
