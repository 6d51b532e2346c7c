/-
  Contracts and plain laws that the claim's theorem rests on, some texts in one file.
-/
import Derived.Test.YtffdaohmalmkfaaGreatM31
/-
  Packet's reference: nodes, Writable. (Printed by gen_pakrh.py.)
-/
namespace Go.Proofs.YtffdaohmalmkfaaGreat
open Go.RowKit
set_option linter.unusedVariables false

set_option maxRecDepth 100000 in
set_option maxHeartbeats 8000000 in
theorem xnodes_n (N : Nat) : ∀ (q : Qry), sizeQ q ≤ N → ∀ (d B : Nat) (s : QS) (w : World), QIn w B q s → B ≤ w.heap.size → 1 ≤ d → d ≤ 9 →
    Calls Tryz.prog 111 #[q.v s, .int .i64 d] w (RetCnt (sizeQ q) (fitQ d q) d w) := by
  induction N with
  | zero => intro p hp; have := sizeQ_pos p; omega
  | succ N IH =>
    intro q hsz d B s w hq hB hd1 hd
    obtain ⟨op, table, wh, cols, on, grp, ord, lim, args⟩ := q
    obtain ⟨swa, scols, son, sgrp, sord, sargs⟩ := s
    simp only [sizeQ] at hsz
    simp only [QIn] at hq
    obtain ⟨q1, q2, q3, q4, q5, q6, q7, q8, q9, q10, q11, q12, Aa, aac, rfl, hcap, hmax, -, hlow, hat⟩ := hq
    have HQ4 := Lib.hid q4
    have HAT := Lib.hid hat
    have hmax' : aac ≤ 9223372036854775807 := by simpa only [maxLen] using hmax
    obtain ⟨Ca, cac, rfl, hc1, hc2, -⟩ := q5
    obtain ⟨Oa, oac, rfl, ho1, ho2, -⟩ := q7
    obtain ⟨Ga, gac, rfl, hg1, hg2, -⟩ := q9
    obtain ⟨Da, dac, rfl, hd1', hd2', -⟩ := q11
    simp only [maxLen] at hc2 ho2 hg2 hd2'
    have HFP : Hid (∀ d, fitQ d (.mk op table wh cols on grp ord lim args) = (decide (d ≤ 8) && decide (cols.length ≤ 12) && decide (on.length ≤ 12) && decide (grp.length ≤ 12) && (decide (sizeP wh ≤ 24) && fitP 1 wh) && fitQs (d + 1) args)) := Lib.hid (fun d => by simp only [fitQ])
    have HSZ : Hid (sizeQ (.mk op table wh cols on grp ord lim args) = 1 + sizeQs args) := Lib.hid (by simp only [sizeQ])
    have HIH : Hid (∀ (p : Qry), p ∈ args → ∀ (s : QS) (w : World), d ≤ 8 → QIn w B p s → B ≤ w.heap.size → Calls Tryz.prog 111 #[p.v s, .int .i64 ((d : Int) + 1)] w (RetCnt (sizeQ p) (fitQ (d + 1) p) (d + 1) w)) := Lib.hid (by
      intro p hpm s w h0 h1 h2
      exact IH p (by have := sizeQs_mem hpm; omega) (d + 1) B s w h1 h2 (by omega) (by omega))
    have HSL := Lib.hid (sizeQs_len args)
    obtain ⟨Wa, wan, wac, rfl⟩ := q4.form
    obtain ⟨wo, wc, ⟨lk, li, ⟨la, lb, lc⟩⟩, ⟨rk, ri, ⟨ra, rb, rc⟩⟩, wargs⟩ := wh
    generalize hT : Qry.mk op table (.mk wo wc ⟨lk, li, ⟨la, lb, lc⟩⟩ ⟨rk, ri, ⟨ra, rb, rc⟩⟩ wargs) cols on grp ord lim args = T at HFP HSZ ⊢
    have hTv : T.v ⟨.slice Wa wan wac, .slice Ca cols.length cac, .slice Oa on.length oac, .slice Ga grp.length gac, .slice Da ord.length dac, .slice Aa args.length aac⟩ = .agg #[.int .i64 op, .int .i64 table, .int .i64 wo, .int .i64 wc, .int .i64 lk, .int .i64 li, .int .i64 la, .int .i64 lb, .string lc, .int .i64 rk, .int .i64 ri, .int .i64 ra, .int .i64 rb, .string rc, .slice Wa wan wac, .slice Ca cols.length cac, .slice Oa on.length oac, .slice Ga grp.length gac, .slice Da ord.length dac, .int .i64 lim, .slice Aa args.length aac] := by rw [← hT]; rfl
    rw [hTv]
    obtain ⟨wA, hA⟩ : ∃ wA, wA = w.alloc (.cells #[.int .i64 op, .int .i64 table, .int .i64 wo, .int .i64 wc, .int .i64 lk, .int .i64 li, .int .i64 la, .int .i64 lb, .string lc, .int .i64 rk, .int .i64 ri, .int .i64 ra, .int .i64 rb, .string rc, .slice Wa wan wac, .slice Ca cols.length cac, .slice Oa on.length oac, .slice Ga grp.length gac, .slice Da ord.length dac, .int .i64 lim, .slice Aa args.length aac] 59) := ⟨_, rfl⟩
    have hkA : Kept Kno w wA := by rw [hA]; exact (Kept.refl _ _).alloc _
    have hGA : Blk wA w.heap.size 59 #[.int .i64 op, .int .i64 table, .int .i64 wo, .int .i64 wc, .int .i64 lk, .int .i64 li, .int .i64 la, .int .i64 lb, .string lc, .int .i64 rk, .int .i64 ri, .int .i64 ra, .int .i64 rb, .string rc, .slice Wa wan wac, .slice Ca cols.length cac, .slice Oa on.length oac, .slice Ga grp.length gac, .slice Da ord.length dac, .int .i64 lim, .slice Aa args.length aac] := by rw [hA]; exact Blk.new _ _ _
    have HAe := Lib.hid hA
    have HGA := Lib.hid hGA
    have HKA := Lib.hid hkA
    have HNO : Hid (∀ w', (decide (sizeQ T ≤ 24) && fitQ d T) = false → Kept Kno w w' → RetCnt (sizeQ T) (fitQ d T) d w (.returned (.int .i64 25)) w') := Lib.hid (fun w' h hk => ⟨25, rfl, CntOk.no h, hk⟩)
    clear IH q1 q2 q3 q4 q6 q8 q10 q12 hat hlow hmax hsz hA hkA hGA hT hTv
    go_enter Tryz.func111, Tryz.ntmps111
    go_upto_region 1 with (fail)
    rw [← HAe.out]
    have c15 : wA.cell? ⟨w.heap.size, 15, none⟩ = some (.slice Ca cols.length cac) := HGA.out.cell 15
    have c16 : wA.cell? ⟨w.heap.size, 16, none⟩ = some (.slice Oa on.length oac) := HGA.out.cell 16
    have c17 : wA.cell? ⟨w.heap.size, 17, none⟩ = some (.slice Ga grp.length gac) := HGA.out.cell 17
    have c20 : wA.cell? ⟨w.heap.size, 20, none⟩ = some (.slice Aa args.length aac) := HGA.out.cell 20
    by_cases h2 : d ≤ 8
    rotate_left
    · have h9 : (8 : Int) < (d : Int) := by omega
      have HX := Lib.hid (HNO.out wA (by rw [HFP.out, decide_eq_false h2]; simp) HKA.out)
      go_wp2
      go_ret
      exact HX.out
    have h2' : ¬ (8 : Int) < (d : Int) := by omega
    by_cases hcl : cols.length ≤ 12
    rotate_left
    · have h9 : (12 : Int) < (cols.length : Int) := by omega
      have HX := Lib.hid (HNO.out wA (by rw [HFP.out, decide_eq_false hcl]; simp) HKA.out)
      go_wp2
      go_ret
      exact HX.out
    have hcl' : ¬ (12 : Int) < (cols.length : Int) := by omega
    by_cases hol : on.length ≤ 12
    rotate_left
    · have h9 : (12 : Int) < (on.length : Int) := by omega
      have HX := Lib.hid (HNO.out wA (by rw [HFP.out, decide_eq_false hol]; simp) HKA.out)
      go_wp2
      go_ret
      exact HX.out
    have hol' : ¬ (12 : Int) < (on.length : Int) := by omega
    by_cases hgl : grp.length ≤ 12
    rotate_left
    · have h9 : (12 : Int) < (grp.length : Int) := by omega
      have HX := Lib.hid (HNO.out wA (by rw [HFP.out, decide_eq_false hgl]; simp) HKA.out)
      go_wp2
      go_ret
      exact HX.out
    have hgl' : ¬ (12 : Int) < (grp.length : Int) := by omega
    by_cases hal : args.length ≤ 24
    rotate_left
    · have h9 : (24 : Int) < (args.length : Int) := by omega
      have HX := Lib.hid (HNO.out wA (by rw [HSZ.out, decide_eq_false (by have := HSL.out; omega)]; rfl) HKA.out)
      go_wp2
      go_ret
      exact HX.out
    have hal' : ¬ (24 : Int) < (args.length : Int) := by omega
    have c2 : wA.cell? ⟨w.heap.size, 2, none⟩ = some (.int .i64 wo) := HGA.out.cell 2
    have c3 : wA.cell? ⟨w.heap.size, 3, none⟩ = some (.int .i64 wc) := HGA.out.cell 3
    have c4 : wA.cell? ⟨w.heap.size, 4, none⟩ = some (.int .i64 lk) := HGA.out.cell 4
    have c5 : wA.cell? ⟨w.heap.size, 5, none⟩ = some (.int .i64 li) := HGA.out.cell 5
    have c6 : wA.cell? ⟨w.heap.size, 6, none⟩ = some (.int .i64 la) := HGA.out.cell 6
    have c7 : wA.cell? ⟨w.heap.size, 7, none⟩ = some (.int .i64 lb) := HGA.out.cell 7
    have c8 : wA.cell? ⟨w.heap.size, 8, none⟩ = some (.string lc) := HGA.out.cell 8
    have c9 : wA.cell? ⟨w.heap.size, 9, none⟩ = some (.int .i64 rk) := HGA.out.cell 9
    have c10 : wA.cell? ⟨w.heap.size, 10, none⟩ = some (.int .i64 ri) := HGA.out.cell 10
    have c11 : wA.cell? ⟨w.heap.size, 11, none⟩ = some (.int .i64 ra) := HGA.out.cell 11
    have c12 : wA.cell? ⟨w.heap.size, 12, none⟩ = some (.int .i64 rb) := HGA.out.cell 12
    have c13 : wA.cell? ⟨w.heap.size, 13, none⟩ = some (.string rc) := HGA.out.cell 13
    have c14 : wA.cell? ⟨w.heap.size, 14, none⟩ = some (.slice Wa wan wac) := HGA.out.cell 14
    go_wp2_with fail
    refine (xterms_any (.mk wo wc ⟨lk, li, ⟨la, lb, lc⟩⟩ ⟨rk, ri, ⟨ra, rb, rc⟩⟩ wargs) 1 B (.slice Wa wan wac) wA (PIn.old (HKA.out.old hB (fun _ _ h => h)) (Nat.le_refl _) _ _ HQ4.out) (Nat.le_trans hB HKA.out.size) (by omega) (by omega)).mono ?_
    rintro e w1 ⟨mt, rfl, hmt, hk1⟩
    have HG1 := Lib.hid (HGA.out.kept hk1 (fun h => h))
    have HK1 := Lib.hid (HKA.out.then0 hk1)
    have HMI := Lib.hid hmt.iff
    have hmtb : mt ≤ 1000 := by have := hmt.2.2; omega
    clear hk1 hmt c2 c3 c4 c5 c6 c7 c8 c9 c10 c11 c12 c13 c14 c15 c16 c17 c20
    have c20 : w1.cell? ⟨w.heap.size, 20, none⟩ = some (.slice Aa args.length aac) := HG1.out.cell 20
    by_cases hpf : mt ≤ 24
    rotate_left
    · have h9 : (24 : Int) < (mt : Int) := by omega
      have HX := Lib.hid (HNO.out w1 (by
        have h := HMI.out
        rw [decide_eq_false hpf] at h
        rw [HFP.out, ← h]; simp) HK1.out)
      go_wp2
      go_ret
      exact HX.out
    have hpf' : ¬ (24 : Int) < (mt : Int) := by omega
    have HPF : Hid ((decide (sizeP (.mk wo wc ⟨lk, li, ⟨la, lb, lc⟩⟩ ⟨rk, ri, ⟨ra, rb, rc⟩⟩ wargs) ≤ 24) && fitP 1 (.mk wo wc ⟨lk, li, ⟨la, lb, lc⟩⟩ ⟨rk, ri, ⟨ra, rb, rc⟩⟩ wargs)) = true) := Lib.hid (by rw [← HMI.out]; exact decide_eq_true hpf)
    go_wp2_with fail
    go_loopw [5, 43] (fun t i wr => CntRel d (fun k => sizeQs (args.take k)) (fun k => fitQs (d + 1) (args.take k)) args.length w t i wr) (fun _ i _ => args.length - (intOf i).toNat)
    case atStart => exact ⟨0, Nat.zero_le _, rfl, rfl, by simp [sizeQs], by simp [fitQs], HK1.out⟩
    case round =>
      obtain ⟨k, hk, rfl, rfl, hsum, hfk, hkk⟩ := hrel
      have HKK := Lib.hid hkk
      have HFK := Lib.hid hfk
      have HSUM : Hid (1 + sizeQs (args.take k) ≤ 24) := Lib.hid hsum
      clear hkk hfk hsum
      by_cases hlt : k < args.length
      · obtain ⟨g, o, rfl, hgB, hc⟩ := HAT.out (by omega)
        have hold : Old B w wr := HKK.out.old (by omega) (fun _ _ h => h)
        obtain ⟨q, hq⟩ : ∃ q, args[k]? = some q := ⟨_, List.getElem?_eq_getElem hlt⟩
        obtain ⟨sq, hqi, hqc⟩ := hc.get hq
        have HQI := Lib.hid (QIn.old hold (Nat.le_refl _) _ _ hqi)
        have HQC := Lib.hid (hqc.old hgB hold)
        have hmem := List.mem_of_getElem? hq
        have HST := Lib.hid (sizeQs_take_succ args k q hq)
        have HSTL := Lib.hid (sizeQs_take_le args (k + 1))
        have HFT := Lib.hid (fitQs_take_succ (d + 1) args k q hq)
        have HMEM := Lib.hid hmem
        have hqn := q.cells_length sq
        have hqo := QIn.one hqi
        have HI : Hid ((Tryz.prog.info? 59).map (·.size) = some (q.cells sq).length) := Lib.hid (by rw [hqn]; kernel_rfl)
        have HI2 : Hid ((Tryz.prog.info? 59).map (·.size) = some (q.cells sq).toArray.size) := Lib.hid (by rw [List.size_toArray, hqn]; kernel_rfl)
        have HZ : Hid ((q.cells sq).toArray.size = 21) := Lib.hid (by rw [List.size_toArray, hqn])
        have HO : Hid ((q.cells sq).toArray.all (·.oneCell') = true) := Lib.hid (by simpa using hqo)
        have HQV : Hid (q.v sq = .agg (q.cells sq).toArray) := Lib.hid (q.v_cells sq)
        have hkq : Kept Kno wr (wr.alloc (.cells (q.cells sq).toArray 59)) := (Kept.refl _ _).alloc _
        have HBR : Hid (B ≤ wr.heap.size) := Lib.hid (Nat.le_trans hB HKK.out.size)
        have HCC := Lib.hid (HIH.out q hmem sq _ h2 (QIn.old (hkq.old (B := B) HBR.out (fun _ _ h => h)) (Nat.le_refl _) _ _ HQI.out) (Nat.le_trans HBR.out hkq.size))
        have HKQ := Lib.hid (HKK.out.then0 hkq)
        have hk0 : (0 : Int) ≤ (k : Int) := by omega
        have hk9 : (k : Int) < (args.length : Int) := by omega
        have hwd : IntKind.i64.wrap ((d : Int) + 1) = (d : Int) + 1 := IntWalk.i64_in _ (by omega)
        clear hqc hqi hq hmem hold hc hqn hqo hkq
        obtain ⟨tk, htk⟩ : ∃ tk : Nat, tk = 1 + sizeQs (args.take k) := ⟨_, rfl⟩
        have hsum : tk ≤ 24 := by rw [htk]; exact HSUM.out
        have HTK := Lib.hid htk
        rw [← htk]
        clear htk
        go_wp2_with (first
          | (refine wpList_load_at rfl 59 (.tmp 45) rfl g (o + k * 21) (q.cells sq) _ rfl HQC.out Tryz.underlying59 rfl HI.out ?_)
          | (refine wpList_store_new rfl 59 (.tmp 7) (.tmp 46) rfl _ (q.cells sq).toArray rfl rfl HI2.out (by rw [HZ.out]; rfl) HO.out ?_)
          | (refine wpList_load_row rfl 59 (.tmp 7) rfl wr.heap.size rfl 59 (q.cells sq).toArray (0, 0) _ (Blk.new wr _ _) Tryz.underlying59 rfl HI2.out ?_))
        rw [← HQV.out]
        refine HCC.out.mono ?_
        rintro e w6 ⟨m, rfl, hm, hk6⟩
        have HM := Lib.hid hm
        have hmb : m ≤ 1000 := by have := hm.2.2; omega
        have HK6 := Lib.hid (HKQ.out.then0 hk6)
        clear hk6 hwd hm
        by_cases hle : tk + m ≤ 24
        · have hle' : ¬ (24 : Int) < (tk : Int) + (m : Int) := by omega
          obtain ⟨hms, hmf⟩ := HM.out.1 (by omega)
          have HMS := Lib.hid hms
          have HMF := Lib.hid hmf
          clear hms hmf
          go_wp2
          go_roundw
          case rel => exact ⟨k + 1, by omega, by go_num, by (dsimp only; rw [HST.out, ← HMS.out, ← Nat.add_assoc, ← HTK.out]; go_num), by (dsimp only; rw [HST.out, ← HMS.out, ← Nat.add_assoc, ← HTK.out]; exact hle), by (dsimp only; rw [HFT.out, HFK.out, HMF.out]; rfl), HK6.out⟩
          case measure => simp [intOf]; omega
        · have hle' : (24 : Int) < (tk : Int) + (m : Int) := by omega
          have hx : RetCnt (sizeQ T) (fitQ d T) d w (.returned (.int .i64 ((tk : Int) + m))) w6 := by
            refine ⟨tk + m, by go_num, ⟨fun h => absurd h hle, fun h1 hf => ?_, ?_⟩, HK6.out⟩
            · exfalso
              rw [HFP.out] at hf
              simp only [Bool.and_eq_true] at hf
              have hfm := fitQs_mem hf.2 HMEM.out
              rw [HSZ.out] at h1
              have h3 := HSTL.out
              rw [HST.out] at h3
              have h4 := HM.out.2.1 (by omega) hfm
              have h5 := HTK.out
              omega
            · have := HM.out.2.2
              omega
          have HX := Lib.hid hx
          clear hx
          go_wp2
          go_ret
          exact HX.out
      · have hk9 : ¬ (k : Int) < (args.length : Int) := by omega
        have htk : args.take k = args := List.take_of_length_le (by omega)
        have hx : RetCnt (sizeQ T) (fitQ d T) d w (.returned (.int .i64 ((1 + sizeQs (args.take k) : Nat) : Int))) wr := by
          refine ⟨1 + sizeQs (args.take k), rfl, ⟨fun h => ⟨by rw [htk, HSZ.out], ?_⟩, fun _ _ => by rw [htk, HSZ.out], by have := HSUM.out; omega⟩, HKK.out⟩
          have h3 := HFK.out
          dsimp only at h3
          rw [htk] at h3
          rw [HFP.out, h3]
          rw [HPF.out, decide_eq_true h2, decide_eq_true hcl, decide_eq_true hol, decide_eq_true hgl]
          rfl
        have HX := Lib.hid hx
        clear hx htk
        go_wp2
        go_ret
        exact HX.out

theorem xnodes_any (q : Qry) (d B : Nat) (s : QS) (w : World) (hq : QIn w B q s) (hB : B ≤ w.heap.size) (h1 : 1 ≤ d) (hd : d ≤ 9) :
    Calls Tryz.prog 111 #[q.v s, .int .i64 d] w (RetCnt (sizeQ q) (fitQ d q) d w) := xnodes_n (sizeQ q) q (Nat.le_refl _) d B s w hq hB h1 hd

set_option maxRecDepth 100000 in
set_option maxHeartbeats 4000000 in
theorem xwritable_any (q : Qry) (B : Nat) (s : QS) (w : World) (hq : QIn w B q s) (hB : B ≤ w.heap.size) :
    Calls Tryz.prog 47 #[q.v s] w (RetBool (wrQ q) w) := by
  have hqn := q.cells_length s
  have hqo := QIn.one hq
  have HI2 : Hid ((Tryz.prog.info? 59).map (·.size) = some (q.cells s).toArray.size) := Lib.hid (by rw [List.size_toArray, hqn]; kernel_rfl)
  have hkq : Kept Kno w (w.alloc (.cells (q.cells s).toArray 59)) := (Kept.refl _ _).alloc _
  have HKQ := Lib.hid hkq
  have HCC := Lib.hid (xnodes_any q 1 B s (w.alloc (.cells (q.cells s).toArray 59)) (QIn.old (hkq.old hB (fun _ _ h => h)) (Nat.le_refl _) _ _ hq) (Nat.le_trans hB hkq.size) (by omega) (by omega))
  have HQV : Hid (q.v s = .agg (q.cells s).toArray) := Lib.hid (q.v_cells s)
  rw [HQV.out]
  clear hqn hqo hkq hq
  go_enter Tryz.func47, Tryz.ntmps47
  go_wp2_with (refine wpList_load_row rfl 59 (.tmp 1) rfl w.heap.size rfl 59 (q.cells s).toArray (0, 0) _ (Blk.new w _ _) Tryz.underlying59 rfl HI2.out ?_)
  rw [← HQV.out]
  refine HCC.out.mono ?_
  rintro e w1 ⟨m, rfl, hm, hk1⟩
  have hi := hm.iff
  have hmb : m ≤ 1000 := by have := hm.2.2; omega
  have hx : RetBool (wrQ q) w (.returned (.bool (decide (m ≤ 24)))) w1 := ⟨by rw [hi]; rfl, HKQ.out.then0 hk1⟩
  have HX := Lib.hid hx
  clear hx hi hm hk1
  by_cases h24 : m ≤ 24
  · have h9 : (m : Int) ≤ 24 := by omega
    rw [decide_eq_true h24] at HX
    go_wp2
    go_ret
    exact HX.out
  · have h9 : decide ((m : Int) ≤ 24) = false := decide_eq_false (by omega)
    rw [decide_eq_false h24] at HX
    go_wp2
    go_ret
    exact HX.out

end Go.Proofs.YtffdaohmalmkfaaGreat
