/-
  Packet: which queries fit. (Printed by gen_pako.py.)
-/
import Derived.Test.YtffdaohmalmkfaaGreatW9
import Derived.Test.YtffdaohmalmkfaaGreatW10
set_option linter.unusedSimpArgs false
set_option linter.unusedVariables false
namespace Go.Proofs.YtffdaohmalmkfaaGreat
open Go.RowKit
set_option linter.unusedVariables false

theorem sizeQs_take_succ (ps : List Qry) (k : Nat) (p : Qry) (h : ps[k]? = some p) : sizeQs (ps.take (k + 1)) = sizeQs (ps.take k) + sizeQ p := by
  rw [List.take_add_one, h, sizeQs_append]
  simp [sizeQs]
theorem sizeQs_take_le (ps : List Qry) (k : Nat) : sizeQs (ps.take k) ≤ sizeQs ps := by
  have h := sizeQs_append (ps.take k) (ps.drop k)
  rw [List.take_append_drop] at h
  omega
theorem fitQs_take_succ (d : Nat) (ps : List Qry) (k : Nat) (p : Qry) (h : ps[k]? = some p) : fitQs d (ps.take (k + 1)) = (fitQs d (ps.take k) && fitQ d p) := by
  rw [List.take_add_one, h, fitQs_append]
  simp [fitQs]
def FitRelQ (C n d : Nat) (args : List Qry) (w : World) (i : Value) (wr : World) : Prop :=
  ∃ k : Nat, k ≤ args.length ∧ i = .int .i64 k ∧ n + 1 + sizeQs (args.take k) ≤ 24 ∧ fitQs d (args.take k) = true ∧ Blk wr C 3 #[.int .i64 ((n + 1 + sizeQs (args.take k) : Nat) : Int)] ∧ Kept (Kone C) w wr

set_option maxRecDepth 100000 in
set_option maxHeartbeats 8000000 in
theorem queryFits_n (N : Nat) : ∀ (q : Qry), sizeQ q ≤ N → ∀ (d C B n : Nat) (s : QS) (w : World), QIn w B q s → B ≤ C → Blk w C 3 #[.int .i64 (n : Int)] → n ≤ 24 → d ≤ 9 →
    Calls Tryz.prog 108 #[q.v s, .int .i64 d, .pointer (some ⟨C, 0, none⟩)] w (Fits C n (sizeQ q) (decide (n + sizeQ q ≤ 24) && fitQ d q) w) := by
  induction N with
  | zero => intro p hp; have := sizeQ_pos p; omega
  | succ N IH =>
    intro q hsz d C B n s w hq hB hC hn hd
    obtain ⟨op, table, wh, cols, on, grp, ord, lim, args⟩ := q
    obtain ⟨swa, scols, son, sgrp, sord, sargs⟩ := s
    have hCl := hC.lt
    simp only [sizeQ] at hsz
    simp only [QIn] at hq
    obtain ⟨q1, q2, q3, q4, q5, q6, q7, q8, q9, q10, q11, q12, Aa, aac, rfl, hcap, hmax, -, hlow, hat⟩ := hq
    have HQ4 := Lib.hid q4
    have HAT := Lib.hid hat
    have hmax' : aac ≤ 9223372036854775807 := by simpa only [maxLen] using hmax
    obtain ⟨Ca, cac, rfl, hc1, hc2, -⟩ := q5
    obtain ⟨Oa, oac, rfl, ho1, ho2, -⟩ := q7
    obtain ⟨Ga, gac, rfl, hg1, hg2, -⟩ := q9
    obtain ⟨Da, dac, rfl, hd1, hd2, -⟩ := q11
    simp only [maxLen] at hc2 ho2 hg2 hd2
    have HFP : Hid (∀ d, fitQ d (.mk op table wh cols on grp ord lim args) = (decide (d ≤ 8) && decide (cols.length ≤ 12) && decide (on.length ≤ 12) && decide (grp.length ≤ 12) && (decide (sizeP wh ≤ 24) && fitP 1 wh) && fitQs (d + 1) args)) := Lib.hid (fun d => by simp only [fitQ])
    have HSZ : Hid (sizeQ (.mk op table wh cols on grp ord lim args) = 1 + sizeQs args) := Lib.hid (by simp only [sizeQ])
    have HIH : Hid (∀ (p : Qry), p ∈ args → ∀ (n : Nat) (s : QS) (w : World), d ≤ 8 → QIn w B p s → Blk w C 3 #[.int .i64 (n : Int)] → n ≤ 24 → Calls Tryz.prog 108 #[p.v s, .int .i64 ((d : Int) + 1), .pointer (some ⟨C, 0, none⟩)] w (Fits C n (sizeQ p) (decide (n + sizeQ p ≤ 24) && fitQ (d + 1) p) w)) := Lib.hid (by
      intro p hpm n s w h0 h1 h2 h3
      exact IH p (by have := sizeQs_mem hpm; omega) (d + 1) C B n s w h1 hB h2 h3 (by omega))
    obtain ⟨Wa, wan, wac, rfl⟩ := q4.form
    obtain ⟨wo, wc, ⟨lk, li, ⟨la, lb, lc⟩⟩, ⟨rk, ri, ⟨ra, rb, rc⟩⟩, wargs⟩ := wh
    simp only [Qry.v]
    obtain ⟨wA, hA⟩ : ∃ wA, wA = w.alloc (.cells #[.int .i64 op, .int .i64 table, .int .i64 wo, .int .i64 wc, .int .i64 lk, .int .i64 li, .int .i64 la, .int .i64 lb, .string lc, .int .i64 rk, .int .i64 ri, .int .i64 ra, .int .i64 rb, .string rc, .slice Wa wan wac, .slice Ca cols.length cac, .slice Oa on.length oac, .slice Ga grp.length gac, .slice Da ord.length dac, .int .i64 lim, .slice Aa args.length aac] 59) := ⟨_, rfl⟩
    have hkA : Kept Kno w wA := by rw [hA]; exact (Kept.refl _ _).alloc _
    have hGA : Blk wA w.heap.size 59 #[.int .i64 op, .int .i64 table, .int .i64 wo, .int .i64 wc, .int .i64 lk, .int .i64 li, .int .i64 la, .int .i64 lb, .string lc, .int .i64 rk, .int .i64 ri, .int .i64 ra, .int .i64 rb, .string rc, .slice Wa wan wac, .slice Ca cols.length cac, .slice Oa on.length oac, .slice Ga grp.length gac, .slice Da ord.length dac, .int .i64 lim, .slice Aa args.length aac] := by rw [hA]; exact Blk.new _ _ _
    have hCA := hC.kept hkA (fun h => h)
    have cA : wA.cell? ⟨C, 0, none⟩ = some (.int .i64 (n : Int)) := hCA.cell 0
    have fA := hCA.frozen 0
    obtain ⟨wS, hS⟩ : ∃ wS, wS = wA.setCell ⟨C, 0, none⟩ (.int .i64 ((n : Int) + 1)) := ⟨_, rfl⟩
    have hGC : w.heap.size ≠ C := by omega
    have hCS : Blk wS C 3 #[.int .i64 ((n : Int) + 1)] := by rw [hS]; exact hCA.set_ 0 _
    have hGS : Blk wS w.heap.size 59 #[.int .i64 op, .int .i64 table, .int .i64 wo, .int .i64 wc, .int .i64 lk, .int .i64 li, .int .i64 la, .int .i64 lb, .string lc, .int .i64 rk, .int .i64 ri, .int .i64 ra, .int .i64 rb, .string rc, .slice Wa wan wac, .slice Ca cols.length cac, .slice Oa on.length oac, .slice Ga grp.length gac, .slice Da ord.length dac, .int .i64 lim, .slice Aa args.length aac] := by rw [hS]; exact hGA.far hGC _
    have hkS : Kept (Kone C) w wS := by rw [hS]; exact (hkA.mono (T := Kone C) (fun _ _ h => h.elim)).setIn (p := ⟨C, 0, none⟩) (Eq.refl C) _
    have cS : wS.cell? ⟨C, 0, none⟩ = some (.int .i64 ((n : Int) + 1)) := hCS.cell 0
    have HAe := Lib.hid hA
    have HSe := Lib.hid hS
    have HCS := Lib.hid hCS
    have HGS := Lib.hid hGS
    have HKS := Lib.hid hkS
    clear IH q1 q2 q3 q4 q6 q8 q10 q12 hat hlow hmax hsz hA hS hCS hGS hkS hkA hGA hCA hC
    have hn0 : (0 : Int) ≤ (n : Int) := by omega
    have hn9 : (n : Int) ≤ 24 := by omega
    have hw1 : IntKind.i64.wrap ((n : Int) + 1) = (n : Int) + 1 := IntWalk.i64_in _ (by omega)
    go_enter Tryz.func108, Tryz.ntmps108
    go_upto_region 1 with (fail)
    rw [← HAe.out]
    go_upto_region 2 with (fail)
    rw [← HSe.out]
    clear cA fA hw1
    by_cases h1 : n + 1 ≤ 24
    rotate_left
    · have h1' : (24 : Int) < (n : Int) + 1 := by omega
      have hwhy : (decide (n + sizeQ (.mk op table (.mk wo wc ⟨lk, li, ⟨la, lb, lc⟩⟩ ⟨rk, ri, ⟨ra, rb, rc⟩⟩ wargs) cols on grp ord lim args) ≤ 24) && fitQ d (.mk op table (.mk wo wc ⟨lk, li, ⟨la, lb, lc⟩⟩ ⟨rk, ri, ⟨ra, rb, rc⟩⟩ wargs) cols on grp ord lim args)) = false := by rw [HSZ.out, decide_eq_false (by omega)]; rfl
      have hx : Fits C n (sizeQ (.mk op table (.mk wo wc ⟨lk, li, ⟨la, lb, lc⟩⟩ ⟨rk, ri, ⟨ra, rb, rc⟩⟩ wargs) cols on grp ord lim args)) (decide (n + sizeQ (.mk op table (.mk wo wc ⟨lk, li, ⟨la, lb, lc⟩⟩ ⟨rk, ri, ⟨ra, rb, rc⟩⟩ wargs) cols on grp ord lim args) ≤ 24) && fitQ d (.mk op table (.mk wo wc ⟨lk, li, ⟨la, lb, lc⟩⟩ ⟨rk, ri, ⟨ra, rb, rc⟩⟩ wargs) cols on grp ord lim args)) w (.returned (.bool false)) wS := ⟨_, by rw [hwhy], HCS.out, HKS.out, fun h => by rw [hwhy] at h; cases h⟩
      have HX := Lib.hid hx
      clear hx hwhy
      go_wp2
      go_ret
      exact HX.out
    have h1' : ¬ (24 : Int) < (n : Int) + 1 := by omega
    by_cases h2 : d ≤ 8
    rotate_left
    · have h2' : (8 : Int) < (d : Int) := by omega
      have hwhy : (decide (n + sizeQ (.mk op table (.mk wo wc ⟨lk, li, ⟨la, lb, lc⟩⟩ ⟨rk, ri, ⟨ra, rb, rc⟩⟩ wargs) cols on grp ord lim args) ≤ 24) && fitQ d (.mk op table (.mk wo wc ⟨lk, li, ⟨la, lb, lc⟩⟩ ⟨rk, ri, ⟨ra, rb, rc⟩⟩ wargs) cols on grp ord lim args)) = false := by rw [HFP.out, decide_eq_false h2]; simp
      have hx : Fits C n (sizeQ (.mk op table (.mk wo wc ⟨lk, li, ⟨la, lb, lc⟩⟩ ⟨rk, ri, ⟨ra, rb, rc⟩⟩ wargs) cols on grp ord lim args)) (decide (n + sizeQ (.mk op table (.mk wo wc ⟨lk, li, ⟨la, lb, lc⟩⟩ ⟨rk, ri, ⟨ra, rb, rc⟩⟩ wargs) cols on grp ord lim args) ≤ 24) && fitQ d (.mk op table (.mk wo wc ⟨lk, li, ⟨la, lb, lc⟩⟩ ⟨rk, ri, ⟨ra, rb, rc⟩⟩ wargs) cols on grp ord lim args)) w (.returned (.bool false)) wS := ⟨_, by rw [hwhy], HCS.out, HKS.out, fun h => by rw [hwhy] at h; cases h⟩
      have HX := Lib.hid hx
      clear hx hwhy
      go_wp2
      go_ret
      exact HX.out
    have h2' : ¬ (8 : Int) < (d : Int) := by omega
    have c15 : wS.cell? ⟨w.heap.size, 15, none⟩ = some (.slice Ca cols.length cac) := HGS.out.cell 15
    have c16 : wS.cell? ⟨w.heap.size, 16, none⟩ = some (.slice Oa on.length oac) := HGS.out.cell 16
    have c17 : wS.cell? ⟨w.heap.size, 17, none⟩ = some (.slice Ga grp.length gac) := HGS.out.cell 17
    by_cases hcl : cols.length ≤ 12
    rotate_left
    · have hcl' : (12 : Int) < (cols.length : Int) := by omega
      have hwhy : (decide (n + sizeQ (.mk op table (.mk wo wc ⟨lk, li, ⟨la, lb, lc⟩⟩ ⟨rk, ri, ⟨ra, rb, rc⟩⟩ wargs) cols on grp ord lim args) ≤ 24) && fitQ d (.mk op table (.mk wo wc ⟨lk, li, ⟨la, lb, lc⟩⟩ ⟨rk, ri, ⟨ra, rb, rc⟩⟩ wargs) cols on grp ord lim args)) = false := by rw [HFP.out, decide_eq_false hcl]; simp
      have hx : Fits C n (sizeQ (.mk op table (.mk wo wc ⟨lk, li, ⟨la, lb, lc⟩⟩ ⟨rk, ri, ⟨ra, rb, rc⟩⟩ wargs) cols on grp ord lim args)) (decide (n + sizeQ (.mk op table (.mk wo wc ⟨lk, li, ⟨la, lb, lc⟩⟩ ⟨rk, ri, ⟨ra, rb, rc⟩⟩ wargs) cols on grp ord lim args) ≤ 24) && fitQ d (.mk op table (.mk wo wc ⟨lk, li, ⟨la, lb, lc⟩⟩ ⟨rk, ri, ⟨ra, rb, rc⟩⟩ wargs) cols on grp ord lim args)) w (.returned (.bool false)) wS := ⟨_, by rw [hwhy], HCS.out, HKS.out, fun h => by rw [hwhy] at h; cases h⟩
      have HX := Lib.hid hx
      clear hx hwhy
      go_wp2
      go_ret
      exact HX.out
    have hcl' : ¬ (12 : Int) < (cols.length : Int) := by omega
    by_cases hol : on.length ≤ 12
    rotate_left
    · have hol' : (12 : Int) < (on.length : Int) := by omega
      have hwhy : (decide (n + sizeQ (.mk op table (.mk wo wc ⟨lk, li, ⟨la, lb, lc⟩⟩ ⟨rk, ri, ⟨ra, rb, rc⟩⟩ wargs) cols on grp ord lim args) ≤ 24) && fitQ d (.mk op table (.mk wo wc ⟨lk, li, ⟨la, lb, lc⟩⟩ ⟨rk, ri, ⟨ra, rb, rc⟩⟩ wargs) cols on grp ord lim args)) = false := by rw [HFP.out, decide_eq_false hol]; simp
      have hx : Fits C n (sizeQ (.mk op table (.mk wo wc ⟨lk, li, ⟨la, lb, lc⟩⟩ ⟨rk, ri, ⟨ra, rb, rc⟩⟩ wargs) cols on grp ord lim args)) (decide (n + sizeQ (.mk op table (.mk wo wc ⟨lk, li, ⟨la, lb, lc⟩⟩ ⟨rk, ri, ⟨ra, rb, rc⟩⟩ wargs) cols on grp ord lim args) ≤ 24) && fitQ d (.mk op table (.mk wo wc ⟨lk, li, ⟨la, lb, lc⟩⟩ ⟨rk, ri, ⟨ra, rb, rc⟩⟩ wargs) cols on grp ord lim args)) w (.returned (.bool false)) wS := ⟨_, by rw [hwhy], HCS.out, HKS.out, fun h => by rw [hwhy] at h; cases h⟩
      have HX := Lib.hid hx
      clear hx hwhy
      go_wp2
      go_ret
      exact HX.out
    have hol' : ¬ (12 : Int) < (on.length : Int) := by omega
    by_cases hgl : grp.length ≤ 12
    rotate_left
    · have hgl' : (12 : Int) < (grp.length : Int) := by omega
      have hwhy : (decide (n + sizeQ (.mk op table (.mk wo wc ⟨lk, li, ⟨la, lb, lc⟩⟩ ⟨rk, ri, ⟨ra, rb, rc⟩⟩ wargs) cols on grp ord lim args) ≤ 24) && fitQ d (.mk op table (.mk wo wc ⟨lk, li, ⟨la, lb, lc⟩⟩ ⟨rk, ri, ⟨ra, rb, rc⟩⟩ wargs) cols on grp ord lim args)) = false := by rw [HFP.out, decide_eq_false hgl]; simp
      have hx : Fits C n (sizeQ (.mk op table (.mk wo wc ⟨lk, li, ⟨la, lb, lc⟩⟩ ⟨rk, ri, ⟨ra, rb, rc⟩⟩ wargs) cols on grp ord lim args)) (decide (n + sizeQ (.mk op table (.mk wo wc ⟨lk, li, ⟨la, lb, lc⟩⟩ ⟨rk, ri, ⟨ra, rb, rc⟩⟩ wargs) cols on grp ord lim args) ≤ 24) && fitQ d (.mk op table (.mk wo wc ⟨lk, li, ⟨la, lb, lc⟩⟩ ⟨rk, ri, ⟨ra, rb, rc⟩⟩ wargs) cols on grp ord lim args)) w (.returned (.bool false)) wS := ⟨_, by rw [hwhy], HCS.out, HKS.out, fun h => by rw [hwhy] at h; cases h⟩
      have HX := Lib.hid hx
      clear hx hwhy
      go_wp2
      go_ret
      exact HX.out
    have hgl' : ¬ (12 : Int) < (grp.length : Int) := by omega
    obtain ⟨wB, hwB⟩ : ∃ wB, wB = wS.alloc (.cells #[.int .i64 0] 3) := ⟨_, rfl⟩
    have hkB : Kept Kno wS wB := by rw [hwB]; exact (Kept.refl _ _).alloc _
    have hNB : Blk wB wS.heap.size 3 #[.int .i64 ((0 : Nat) : Int)] := by rw [hwB]; exact Blk.new _ _ _
    have HGB := Lib.hid (HGS.out.kept hkB (fun h => h))
    have HCB := Lib.hid (HCS.out.kept hkB (fun h => h))
    have HKB := Lib.hid (HKS.out.then0 hkB)
    have HNB := Lib.hid hNB
    have hsw : w.heap.size + 1 ≤ wS.heap.size := HGS.out.lt
    go_upto_region 7 with (fail)
    rw [← hwB]
    clear c15 c16 c17 cS HCS HGS HKS hkB hNB hwB
    have c2 : wB.cell? ⟨w.heap.size, 2, none⟩ = some (.int .i64 wo) := HGB.out.cell 2
    have c3 : wB.cell? ⟨w.heap.size, 3, none⟩ = some (.int .i64 wc) := HGB.out.cell 3
    have c4 : wB.cell? ⟨w.heap.size, 4, none⟩ = some (.int .i64 lk) := HGB.out.cell 4
    have c5 : wB.cell? ⟨w.heap.size, 5, none⟩ = some (.int .i64 li) := HGB.out.cell 5
    have c6 : wB.cell? ⟨w.heap.size, 6, none⟩ = some (.int .i64 la) := HGB.out.cell 6
    have c7 : wB.cell? ⟨w.heap.size, 7, none⟩ = some (.int .i64 lb) := HGB.out.cell 7
    have c8 : wB.cell? ⟨w.heap.size, 8, none⟩ = some (.string lc) := HGB.out.cell 8
    have c9 : wB.cell? ⟨w.heap.size, 9, none⟩ = some (.int .i64 rk) := HGB.out.cell 9
    have c10 : wB.cell? ⟨w.heap.size, 10, none⟩ = some (.int .i64 ri) := HGB.out.cell 10
    have c11 : wB.cell? ⟨w.heap.size, 11, none⟩ = some (.int .i64 ra) := HGB.out.cell 11
    have c12 : wB.cell? ⟨w.heap.size, 12, none⟩ = some (.int .i64 rb) := HGB.out.cell 12
    have c13 : wB.cell? ⟨w.heap.size, 13, none⟩ = some (.string rc) := HGB.out.cell 13
    have c14 : wB.cell? ⟨w.heap.size, 14, none⟩ = some (.slice Wa wan wac) := HGB.out.cell 14
    go_wp2_with fail
    have holdB : Old B w wB := HKB.out.old (by omega) (fun i hi hk => by unfold Kone at hk; omega)
    refine (predicateFits_any (.mk wo wc ⟨lk, li, ⟨la, lb, lc⟩⟩ ⟨rk, ri, ⟨ra, rb, rc⟩⟩ wargs) 1 wS.heap.size B 0 (.slice Wa wan wac) wB (PIn.old holdB (Nat.le_refl _) _ _ HQ4.out) (by omega) HNB.out (by omega) (by omega)).mono ?_
    rintro e w1 ⟨np, rfl, -, hk1, -⟩
    have hnC : C ≠ wS.heap.size := by omega
    have HC1 := Lib.hid (HCB.out.kept hk1 (fun h => hnC h))
    have HG1 := Lib.hid (HGB.out.kept hk1 (fun h => by unfold Kone at h; omega))
    have HK1 : Hid (Kept (Kone C) w w1) := Lib.hid (HKB.out.trans hk1 (fun i hi h => by unfold Kone at h; omega))
    clear hk1 holdB c2 c3 c4 c5 c6 c7 c8 c9 c10 c11 c12 c13 c14 HCB HGB HKB HNB
    cases hpf : (decide (0 + sizeP (.mk wo wc ⟨lk, li, ⟨la, lb, lc⟩⟩ ⟨rk, ri, ⟨ra, rb, rc⟩⟩ wargs) ≤ 24) && fitP 1 (.mk wo wc ⟨lk, li, ⟨la, lb, lc⟩⟩ ⟨rk, ri, ⟨ra, rb, rc⟩⟩ wargs)) with
    | false =>
      have hwhy : (decide (n + sizeQ (.mk op table (.mk wo wc ⟨lk, li, ⟨la, lb, lc⟩⟩ ⟨rk, ri, ⟨ra, rb, rc⟩⟩ wargs) cols on grp ord lim args) ≤ 24) && fitQ d (.mk op table (.mk wo wc ⟨lk, li, ⟨la, lb, lc⟩⟩ ⟨rk, ri, ⟨ra, rb, rc⟩⟩ wargs) cols on grp ord lim args)) = false := by rw [Nat.zero_add] at hpf; rw [HFP.out, hpf]; simp
      clear hpf
      have hx : Fits C n (sizeQ (.mk op table (.mk wo wc ⟨lk, li, ⟨la, lb, lc⟩⟩ ⟨rk, ri, ⟨ra, rb, rc⟩⟩ wargs) cols on grp ord lim args)) (decide (n + sizeQ (.mk op table (.mk wo wc ⟨lk, li, ⟨la, lb, lc⟩⟩ ⟨rk, ri, ⟨ra, rb, rc⟩⟩ wargs) cols on grp ord lim args) ≤ 24) && fitQ d (.mk op table (.mk wo wc ⟨lk, li, ⟨la, lb, lc⟩⟩ ⟨rk, ri, ⟨ra, rb, rc⟩⟩ wargs) cols on grp ord lim args)) w (.returned (.bool false)) w1 := ⟨_, by rw [hwhy], HC1.out, HK1.out, fun h => by rw [hwhy] at h; cases h⟩
      have HX := Lib.hid hx
      clear hx hwhy
      go_wp2
      go_ret
      exact HX.out
    | true =>
      rw [Nat.zero_add] at hpf
      have HPF := Lib.hid hpf
      clear hpf
      have c20 : w1.cell? ⟨w.heap.size, 20, none⟩ = some (.slice Aa args.length aac) := HG1.out.cell 20
      go_wp2_with fail
      go_loopw [46] (fun i wr => FitRelQ C n (d + 1) args w i wr) (fun i _ => args.length - (intOf i).toNat)
      case atStart => exact ⟨0, Nat.zero_le _, rfl, by simp [sizeQs]; omega, by simp [fitQs], by have := HC1.out; simpa [sizeQs] using this, HK1.out⟩
      case round =>
        obtain ⟨k, hk, rfl, hsum, hfk, hCk, hkk⟩ := hrel
        have HCK := Lib.hid hCk
        have HKK := Lib.hid hkk
        have HFK := Lib.hid hfk
        clear hCk hkk hfk
        by_cases hlt : k < args.length
        · obtain ⟨g, o, rfl, hgB, hc⟩ := HAT.out (by omega)
          have hold : Old B w wr := HKK.out.old (by omega) (fun i hi hk => by unfold Kone at hk; omega)
          obtain ⟨q, hq⟩ : ∃ q, args[k]? = some q := ⟨_, List.getElem?_eq_getElem hlt⟩
          obtain ⟨sq, hqi, hqc⟩ := hc.get hq
          have HQI := Lib.hid (QIn.old hold (Nat.le_refl _) _ _ hqi)
          have HQC := Lib.hid (hqc.old hgB hold)
          have hmem := List.mem_of_getElem? hq
          have HST := Lib.hid (sizeQs_take_succ args k q hq)
          have HSL := Lib.hid (sizeQs_take_le args (k + 1))
          have HFT := Lib.hid (fitQs_take_succ (d + 1) args k q hq)
          have HMEM := Lib.hid hmem
          have hqn := q.cells_length sq
          have hqo := QIn.one hqi
          have HI : Hid ((Tryz.prog.info? 59).map (·.size) = some (q.cells sq).length) := Lib.hid (by rw [hqn]; kernel_rfl)
          have HI2 : Hid ((Tryz.prog.info? 59).map (·.size) = some (q.cells sq).toArray.size) := Lib.hid (by rw [List.size_toArray, hqn]; kernel_rfl)
          have HZ : Hid ((q.cells sq).toArray.size = 21) := Lib.hid (by rw [List.size_toArray, hqn])
          have HO : Hid ((q.cells sq).toArray.all (·.oneCell') = true) := Lib.hid (by simpa using hqo)
          have HQV : Hid (q.v sq = .agg (q.cells sq).toArray) := Lib.hid (q.v_cells sq)
          have hCl2 := HCK.out.lt
          have hkq : Kept Kno wr (wr.alloc (.cells (q.cells sq).toArray 59)) := (Kept.refl _ _).alloc _
          have HCC := Lib.hid (HIH.out q hmem (n + 1 + sizeQs (args.take k)) sq _ h2 (QIn.old (hkq.old (B := B) (by omega) (fun _ _ h => h)) (Nat.le_refl _) _ _ HQI.out) (HCK.out.kept hkq (fun h => h)) hsum)
          have HKQ := Lib.hid (HKK.out.then0 hkq)
          have hk0 : (0 : Int) ≤ (k : Int) := by omega
          have hk9 : (k : Int) < (args.length : Int) := by omega
          have hwd : IntKind.i64.wrap ((d : Int) + 1) = (d : Int) + 1 := IntWalk.i64_in _ (by omega)
          clear hqc hqi hq hmem hold hc hqn hqo hkq
          go_wp2_with (first
            | (refine wpList_load_at rfl 59 (.tmp 48) rfl g (o + k * 21) (q.cells sq) _ rfl HQC.out Tryz.underlying59 rfl HI.out ?_)
            | (refine wpList_store_new rfl 59 (.tmp 9) (.tmp 49) rfl _ (q.cells sq).toArray rfl rfl HI2.out (by rw [HZ.out]; rfl) HO.out ?_)
            | (refine wpList_load_row rfl 59 (.tmp 9) rfl wr.heap.size rfl 59 (q.cells sq).toArray (0, 0) _ (Blk.new wr _ _) Tryz.underlying59 rfl HI2.out ?_))
          rw [← HQV.out]
          refine HCC.out.mono ?_
          rintro e w6 ⟨n', rfl, hC6, hk6, hb6⟩
          have HC6 := Lib.hid hC6
          have HK6 := Lib.hid (HKQ.out.trans hk6 (fun _ _ h => h))
          cases hres : (decide (n + 1 + sizeQs (args.take k) + sizeQ q ≤ 24) && fitQ (d + 1) q) with
          | true =>
            have hn' := hb6 hres
            subst hn'
            simp only [Bool.and_eq_true, decide_eq_true_eq] at hres
            have HRES := Lib.hid hres
            clear hres hC6 hk6 hb6 hwd
            go_wp2
            go_roundw
            case rel =>
              refine ⟨k + 1, by omega, by go_num, by rw [HST.out]; have := HRES.out.1; omega, by rw [HFT.out, HFK.out, HRES.out.2]; rfl, ?_, HK6.out⟩
              have := HC6.out
              rw [HST.out, ← Nat.add_assoc]
              exact this
            case measure => simp [intOf]; omega
          | false =>
            have hwhy : (decide (n + sizeQ (.mk op table (.mk wo wc ⟨lk, li, ⟨la, lb, lc⟩⟩ ⟨rk, ri, ⟨ra, rb, rc⟩⟩ wargs) cols on grp ord lim args) ≤ 24) && fitQ d (.mk op table (.mk wo wc ⟨lk, li, ⟨la, lb, lc⟩⟩ ⟨rk, ri, ⟨ra, rb, rc⟩⟩ wargs) cols on grp ord lim args)) = false := by
              cases hall : (decide (n + sizeQ (.mk op table (.mk wo wc ⟨lk, li, ⟨la, lb, lc⟩⟩ ⟨rk, ri, ⟨ra, rb, rc⟩⟩ wargs) cols on grp ord lim args) ≤ 24) && fitQ d (.mk op table (.mk wo wc ⟨lk, li, ⟨la, lb, lc⟩⟩ ⟨rk, ri, ⟨ra, rb, rc⟩⟩ wargs) cols on grp ord lim args)) with
              | false => rfl
              | true =>
                rw [HFP.out, HSZ.out] at hall
                simp only [Bool.and_eq_true, decide_eq_true_eq] at hall
                have h3 := HSL.out
                rw [HST.out] at h3
                have h4 := fitQs_mem hall.2.2 HMEM.out
                rw [h4, Bool.and_true] at hres
                have := of_decide_eq_false hres
                omega
            clear hres hC6 hk6 hb6 hwd
            have hx : Fits C n (sizeQ (.mk op table (.mk wo wc ⟨lk, li, ⟨la, lb, lc⟩⟩ ⟨rk, ri, ⟨ra, rb, rc⟩⟩ wargs) cols on grp ord lim args)) (decide (n + sizeQ (.mk op table (.mk wo wc ⟨lk, li, ⟨la, lb, lc⟩⟩ ⟨rk, ri, ⟨ra, rb, rc⟩⟩ wargs) cols on grp ord lim args) ≤ 24) && fitQ d (.mk op table (.mk wo wc ⟨lk, li, ⟨la, lb, lc⟩⟩ ⟨rk, ri, ⟨ra, rb, rc⟩⟩ wargs) cols on grp ord lim args)) w (.returned (.bool false)) w6 := ⟨_, by rw [hwhy], HC6.out, HK6.out, fun h => by rw [hwhy] at h; cases h⟩
            have HX := Lib.hid hx
            clear hx hwhy
            go_wp2
            go_ret
            exact HX.out
        · have hk9 : ¬ (k : Int) < (args.length : Int) := by omega
          have htk : args.take k = args := List.take_of_length_le (by omega)
          have hwhy : (decide (n + sizeQ (.mk op table (.mk wo wc ⟨lk, li, ⟨la, lb, lc⟩⟩ ⟨rk, ri, ⟨ra, rb, rc⟩⟩ wargs) cols on grp ord lim args) ≤ 24) && fitQ d (.mk op table (.mk wo wc ⟨lk, li, ⟨la, lb, lc⟩⟩ ⟨rk, ri, ⟨ra, rb, rc⟩⟩ wargs) cols on grp ord lim args)) = true := by
            have h3 := HFK.out
            rw [htk] at h3 hsum
            rw [HFP.out, HSZ.out, HPF.out, h3, decide_eq_true h2, decide_eq_true hcl, decide_eq_true hol, decide_eq_true hgl, decide_eq_true (by omega)]
            rfl
          have hx : Fits C n (sizeQ (.mk op table (.mk wo wc ⟨lk, li, ⟨la, lb, lc⟩⟩ ⟨rk, ri, ⟨ra, rb, rc⟩⟩ wargs) cols on grp ord lim args)) (decide (n + sizeQ (.mk op table (.mk wo wc ⟨lk, li, ⟨la, lb, lc⟩⟩ ⟨rk, ri, ⟨ra, rb, rc⟩⟩ wargs) cols on grp ord lim args) ≤ 24) && fitQ d (.mk op table (.mk wo wc ⟨lk, li, ⟨la, lb, lc⟩⟩ ⟨rk, ri, ⟨ra, rb, rc⟩⟩ wargs) cols on grp ord lim args)) w (.returned (.bool true)) wr := ⟨_, by rw [hwhy], HCK.out, HKK.out, fun h => by rw [htk, HSZ.out]; congr 1; omega⟩
          have HX := Lib.hid hx
          clear hx hwhy htk
          go_wp2
          go_ret
          exact HX.out

/-- A query is writable. -/
def wrQ (q : Qry) : Bool := decide (sizeQ q ≤ 24) && fitQ 1 q
theorem wrQ_fit {q : Qry} (h : wrQ q = true) : fitQ 1 q = true := by unfold wrQ at h; simp only [Bool.and_eq_true] at h; exact h.2

set_option maxRecDepth 100000 in
set_option maxHeartbeats 1000000 in
theorem writableQuery_any (q : Qry) (B : Nat) (s : QS) (w : World) (hq : QIn w B q s) (hB : B ≤ w.heap.size) : Calls Tryz.prog 45 #[q.v s] w (RetBool (wrQ q) w) := by
  have hqn := q.cells_length s
  have HI2 : Hid ((Tryz.prog.info? 59).map (·.size) = some (q.cells s).toArray.size) := Lib.hid (by rw [List.size_toArray, hqn]; kernel_rfl)
  have HQV : Hid (q.v s = .agg (q.cells s).toArray) := Lib.hid (q.v_cells s)
  have HQ := Lib.hid hq
  rw [HQV.out]
  clear hqn hq
  go_enter Tryz.func45, Tryz.ntmps45
  have hb : Blk ((w.alloc (.cells (q.cells s).toArray 59)).alloc (.cells #[.int .i64 0] 3)) w.heap.size 59 (q.cells s).toArray := (Blk.new w _ _).alloc _
  have HB := Lib.hid hb
  clear hb
  go_wp2_with (refine wpList_load_row rfl 59 (.tmp 1) rfl w.heap.size rfl 59 (q.cells s).toArray (0, 0) _ HB.out Tryz.underlying59 rfl HI2.out ?_)
  rw [← HQV.out]
  obtain ⟨wB, hwB⟩ : ∃ wB, wB = (w.alloc (.cells (q.cells s).toArray 59)).alloc (.cells #[.int .i64 0] 3) := ⟨_, rfl⟩
  have hkB : Kept Kno w wB := by rw [hwB]; exact ((Kept.refl _ _).alloc _).alloc _
  have hCB : Blk wB (w.heap.size + 1) 3 #[.int .i64 ((0 : Nat) : Int)] := by
    have := Blk.new (w.alloc (.cells (q.cells s).toArray 59)) 3 #[.int .i64 0]
    rw [size_alloc'] at this
    rw [hwB]; exact this
  rw [← hwB]
  clear hwB
  refine (queryFits_n (sizeQ q) q (Nat.le_refl _) 1 (w.heap.size + 1) B 0 s wB (QIn.old (hkB.old hB (fun _ _ h => h)) (Nat.le_refl _) _ _ HQ.out) (by omega) hCB (by omega) (by omega)).mono ?_
  rintro e w1 ⟨n', rfl, -, hk1, -⟩
  have hkw : Kept Kno w w1 := hkB.trans hk1 (fun i hi h => by unfold Kone at h; omega)
  rw [Nat.zero_add]
  obtain ⟨b, hb⟩ : ∃ b, b = (decide (sizeQ q ≤ 24) && fitQ 1 q) := ⟨_, rfl⟩
  have HX : Hid (RetBool (wrQ q) w (.returned (.bool b)) w1) := Lib.hid ⟨by rw [hb]; rfl, hkw⟩
  rw [← hb]
  clear hkw hk1 hkB hCB hb
  go_wp2
  go_ret
  exact HX.out

end Go.Proofs.YtffdaohmalmkfaaGreat
