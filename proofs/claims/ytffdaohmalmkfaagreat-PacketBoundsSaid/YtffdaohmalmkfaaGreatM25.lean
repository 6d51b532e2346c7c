/-
  Contracts and plain laws that the claim's theorem rests on, some texts in one file.
-/
import Derived.Test.YtffdaohmalmkfaaGreatM24
/-
  Packet's reference: the writers of queries. (Printed by gen_pakrc.py.)
-/
namespace Go.Proofs.YtffdaohmalmkfaaGreat
open Go.RowKit
set_option linter.unusedVariables false

set_option maxRecDepth 100000 in
set_option maxHeartbeats 16000000 in
theorem xquery_n (N : Nat) : ∀ (q : Qry), sizeQ q ≤ N → ∀ (d base B : Nat) (b : Value) (s : QS) (l : List UInt8) (w : World), OwnB w base 5 b l → QIn w B q s → B ≤ base → base ≤ w.heap.size → fitQ d q = true → l.length + (encQ q).length ≤ 700000000000 →
    Calls Tryz.prog 113 #[b, q.v s] w (AppOk base b (l ++ encQ q) w) := by
  induction N with
  | zero => intro p hp; have := sizeQ_pos p; omega
  | succ N IH =>
    intro q hsz d base B b s l w h hq hB hbw hf hl
    obtain ⟨op, table, wh, cols, on, grp, ord, lim, args⟩ := q
    obtain ⟨swa, scols, son, sgrp, sord, sargs⟩ := s
    have H := Lib.hid h
    obtain ⟨A0, cap0, rfl⟩ := own_form h
    simp only [sizeQ] at hsz
    simp only [fitQ, Bool.and_eq_true] at hf
    simp only [QIn] at hq
    obtain ⟨q1, q2, q3, q4, q5, q6, q7, q8, q9, q10, q11, q12, Aa, aac, rfl, hcap, hmax, -, hlow, hat⟩ := hq
    obtain ⟨⟨-, -, fwh⟩, fqs⟩ := hf
    have HQ1 := Lib.hid q1
    have HQ2 := Lib.hid q2
    have HQ3 := Lib.hid q3
    have HQ4 := Lib.hid q4
    have HQ5 := Lib.hid q5
    have HQ6 := Lib.hid q6
    have HQ7 := Lib.hid q7
    have HQ8 := Lib.hid q8
    have HQ9 := Lib.hid q9
    have HQ10 := Lib.hid q10
    have HQ11 := Lib.hid q11
    have HQ12 := Lib.hid q12
    have HAT := Lib.hid hat
    have hEnc : encQ (.mk op table wh cols on grp ord lim args) = inum op ++ inum table ++ encP wh ++ inums cols ++ leb on.length ++ on.flatMap fOn ++ inums grp ++ leb ord.length ++ ord.flatMap fOrd ++ inum lim ++ leb args.length ++ encQs args := by simp only [encQ]; rfl
    have HE := Lib.hid hEnc
    have HIH : Hid (∀ (p : Qry), p ∈ args → ∀ (s : QS) (b : Value) (l : List UInt8) (w : World), OwnB w base 5 b l → QIn w B p s → base ≤ w.heap.size → l.length + (encQ p).length ≤ 700000000000 → Calls Tryz.prog 113 #[b, p.v s] w (AppOk base b (l ++ encQ p) w)) := Lib.hid (by
      intro p hpm s b l w h1 h2 h3 h4
      exact IH p (by have := sizeQs_mem hpm; omega) (d + 1) base B b s l w h1 h2 hB h3 (fitQs_mem fqs hpm) h4)
    rw [hEnc] at hl
    simp only [List.length_append] at hl
    have hmax' : aac ≤ 9223372036854775807 := by simpa only [maxLen] using hmax
    have HL := Lib.hid hl
    obtain ⟨Ca, cac, rfl, hc1, hc2, -⟩ := q5
    obtain ⟨Oa, oac, rfl, ho1, ho2, -⟩ := q7
    obtain ⟨Ga, gac, rfl, hg1, hg2, -⟩ := q9
    obtain ⟨Da, dac, rfl, hd1, hd2, -⟩ := q11
    simp only [maxLen] at hc2 ho2 hg2 hd2
    obtain ⟨Wa, wan, wac, rfl⟩ : ∃ A' n' c', swa = .slice A' n' c' := PIn.form q4
    have HFP : Hid (fitP 1 wh = true) := Lib.hid fwh
    obtain ⟨wo, wc, ⟨lk, li, ⟨la, lb, lc⟩⟩, ⟨rk, ri, ⟨ra, rb, rc⟩⟩, wargs⟩ := wh
    simp only [Qry.v]
    obtain ⟨wA, hA⟩ : ∃ wA, wA = w.alloc (.cells #[.int .i64 op, .int .i64 table, .int .i64 wo, .int .i64 wc, .int .i64 lk, .int .i64 li, .int .i64 la, .int .i64 lb, .string lc, .int .i64 rk, .int .i64 ri, .int .i64 ra, .int .i64 rb, .string rc, .slice Wa wan wac, .slice Ca cols.length cac, .slice Oa on.length oac, .slice Ga grp.length gac, .slice Da ord.length dac, .int .i64 lim, .slice Aa args.length aac] 59) := ⟨_, rfl⟩
    have hkA : Kept Kno w wA := by rw [hA]; exact (Kept.refl _ _).alloc _
    have HG0 : Hid (GdB wA (.slice A0 l.length cap0) w.heap.size 59 #[.int .i64 op, .int .i64 table, .int .i64 wo, .int .i64 wc, .int .i64 lk, .int .i64 li, .int .i64 la, .int .i64 lb, .string lc, .int .i64 rk, .int .i64 ri, .int .i64 ra, .int .i64 rb, .string rc, .slice Wa wan wac, .slice Ca cols.length cac, .slice Oa on.length oac, .slice Ga grp.length gac, .slice Da ord.length dac, .int .i64 lim, .slice Aa args.length aac]) := Lib.hid (by rw [hA]; exact GdB.new h _ _)
    have HO0 : Hid (OwnB wA base 5 (.slice A0 l.length cap0) l) := Lib.hid (own_kept h hkA (fun _ _ h => h))
    have HS0 : Hid (BStep (.slice A0 l.length cap0) w (.slice A0 l.length cap0) wA) := Lib.hid (.new hkA)
    have hb0 : base ≤ wA.heap.size := Nat.le_trans hbw hkA.size
    have c0_0 : wA.cell? ⟨w.heap.size, 0, none⟩ = some (.int .i64 op) := HG0.out.b.cell 0
    have c0_1 : wA.cell? ⟨w.heap.size, 1, none⟩ = some (.int .i64 table) := HG0.out.b.cell 1
    have c0_2 : wA.cell? ⟨w.heap.size, 2, none⟩ = some (.int .i64 wo) := HG0.out.b.cell 2
    have c0_3 : wA.cell? ⟨w.heap.size, 3, none⟩ = some (.int .i64 wc) := HG0.out.b.cell 3
    have c0_4 : wA.cell? ⟨w.heap.size, 4, none⟩ = some (.int .i64 lk) := HG0.out.b.cell 4
    have c0_5 : wA.cell? ⟨w.heap.size, 5, none⟩ = some (.int .i64 li) := HG0.out.b.cell 5
    have c0_6 : wA.cell? ⟨w.heap.size, 6, none⟩ = some (.int .i64 la) := HG0.out.b.cell 6
    have c0_7 : wA.cell? ⟨w.heap.size, 7, none⟩ = some (.int .i64 lb) := HG0.out.b.cell 7
    have c0_8 : wA.cell? ⟨w.heap.size, 8, none⟩ = some (.string lc) := HG0.out.b.cell 8
    have c0_9 : wA.cell? ⟨w.heap.size, 9, none⟩ = some (.int .i64 rk) := HG0.out.b.cell 9
    have c0_10 : wA.cell? ⟨w.heap.size, 10, none⟩ = some (.int .i64 ri) := HG0.out.b.cell 10
    have c0_11 : wA.cell? ⟨w.heap.size, 11, none⟩ = some (.int .i64 ra) := HG0.out.b.cell 11
    have c0_12 : wA.cell? ⟨w.heap.size, 12, none⟩ = some (.int .i64 rb) := HG0.out.b.cell 12
    have c0_13 : wA.cell? ⟨w.heap.size, 13, none⟩ = some (.string rc) := HG0.out.b.cell 13
    have c0_14 : wA.cell? ⟨w.heap.size, 14, none⟩ = some (.slice Wa wan wac) := HG0.out.b.cell 14
    have c0_15 : wA.cell? ⟨w.heap.size, 15, none⟩ = some (.slice Ca cols.length cac) := HG0.out.b.cell 15
    obtain ⟨M1, hM1⟩ : ∃ m, m = l ++ inum op := ⟨_, rfl⟩
    have HM1 := Lib.hid hM1
    have HN1 : Hid (M1.length = l.length + (inum op).length) := Lib.hid (by rw [hM1, List.length_append])
    clear hM1
    obtain ⟨M2, hM2⟩ : ∃ m, m = M1 ++ inum table := ⟨_, rfl⟩
    have HM2 := Lib.hid hM2
    have HN2 : Hid (M2.length = M1.length + (inum table).length) := Lib.hid (by rw [hM2, List.length_append])
    clear hM2
    obtain ⟨M3, hM3⟩ : ∃ m, m = M2 ++ encP (.mk wo wc ⟨lk, li, ⟨la, lb, lc⟩⟩ ⟨rk, ri, ⟨ra, rb, rc⟩⟩ wargs) := ⟨_, rfl⟩
    have HM3 := Lib.hid hM3
    have HN3 : Hid (M3.length = M2.length + (encP (.mk wo wc ⟨lk, li, ⟨la, lb, lc⟩⟩ ⟨rk, ri, ⟨ra, rb, rc⟩⟩ wargs)).length) := Lib.hid (by rw [hM3, List.length_append])
    clear hM3
    obtain ⟨M4, hM4⟩ : ∃ m, m = M3 ++ inums cols := ⟨_, rfl⟩
    have HM4 := Lib.hid hM4
    have HN4 : Hid (M4.length = M3.length + (inums cols).length) := Lib.hid (by rw [hM4, List.length_append])
    clear hM4
    have HAe := Lib.hid hA
    clear IH h q1 q2 q3 q4 q6 q8 q10 q12 fwh fqs hat hlow hEnc hmax hl hsz hA hkA
    go_enter Tryz.func113, Tryz.ntmps113
    go_upto_region 1 with (fail)
    rw [← HAe.out]
    go_region_held3 (fun w' => w'.cell? ⟨w.heap.size, 0, none⟩ = some (.int .i64 op) ∧ w'.cell? ⟨w.heap.size, 1, none⟩ = some (.int .i64 table) ∧ w'.cell? ⟨w.heap.size, 2, none⟩ = some (.int .i64 wo) ∧ w'.cell? ⟨w.heap.size, 3, none⟩ = some (.int .i64 wc) ∧ w'.cell? ⟨w.heap.size, 4, none⟩ = some (.int .i64 lk) ∧ w'.cell? ⟨w.heap.size, 5, none⟩ = some (.int .i64 li) ∧ w'.cell? ⟨w.heap.size, 6, none⟩ = some (.int .i64 la) ∧ w'.cell? ⟨w.heap.size, 7, none⟩ = some (.int .i64 lb) ∧ w'.cell? ⟨w.heap.size, 8, none⟩ = some (.string lc) ∧ w'.cell? ⟨w.heap.size, 9, none⟩ = some (.int .i64 rk) ∧ w'.cell? ⟨w.heap.size, 10, none⟩ = some (.int .i64 ri) ∧ w'.cell? ⟨w.heap.size, 11, none⟩ = some (.int .i64 ra) ∧ w'.cell? ⟨w.heap.size, 12, none⟩ = some (.int .i64 rb) ∧ w'.cell? ⟨w.heap.size, 13, none⟩ = some (.string rc) ∧ w'.cell? ⟨w.heap.size, 14, none⟩ = some (.slice Wa wan wac) ∧ w'.cell? ⟨w.heap.size, 15, none⟩ = some (.slice Ca cols.length cac))
      (first | (exact ⟨c4_0, c4_1, c4_2, c4_3, c4_4, c4_5, c4_6, c4_7, c4_8, c4_9, c4_10, c4_11, c4_12, c4_13, c4_14, c4_15⟩) | (exact ⟨c3_0, c3_1, c3_2, c3_3, c3_4, c3_5, c3_6, c3_7, c3_8, c3_9, c3_10, c3_11, c3_12, c3_13, c3_14, c3_15⟩) | (exact ⟨c2_0, c2_1, c2_2, c2_3, c2_4, c2_5, c2_6, c2_7, c2_8, c2_9, c2_10, c2_11, c2_12, c2_13, c2_14, c2_15⟩) | (exact ⟨c1_0, c1_1, c1_2, c1_3, c1_4, c1_5, c1_6, c1_7, c1_8, c1_9, c1_10, c1_11, c1_12, c1_13, c1_14, c1_15⟩) | (exact ⟨c0_0, c0_1, c0_2, c0_3, c0_4, c0_5, c0_6, c0_7, c0_8, c0_9, c0_10, c0_11, c0_12, c0_13, c0_14, c0_15⟩) | go_keep)
      (first | (go_at_call 103; refine (xnumbers_to HM4.out HO3.out (HQ5.out.old ((HS3.out.old H.out hbw).less hB) (Nat.le_refl _)) HQ6.out hB (by have := HL.out; have := HN1.out; have := HN2.out; have := HN3.out; omega) hb3).mono ?_; rintro e x4 ⟨A4, cap4, rfl, ho4, hs4⟩;
                    have hq4 := hs4;
                    have HS4 := Lib.hid (HS3.out.trans hq4); have HG4 := Lib.hid (HG3.out.step hq4); have HO4 := Lib.hid ho4; have hb4 : base ≤ x4.heap.size := Nat.le_trans hb3 hq4.k.size;
                    have c4_0 : x4.cell? ⟨w.heap.size, 0, none⟩ = some (.int .i64 op) := HG4.out.b.cell 0; have c4_1 : x4.cell? ⟨w.heap.size, 1, none⟩ = some (.int .i64 table) := HG4.out.b.cell 1; have c4_2 : x4.cell? ⟨w.heap.size, 2, none⟩ = some (.int .i64 wo) := HG4.out.b.cell 2; have c4_3 : x4.cell? ⟨w.heap.size, 3, none⟩ = some (.int .i64 wc) := HG4.out.b.cell 3; have c4_4 : x4.cell? ⟨w.heap.size, 4, none⟩ = some (.int .i64 lk) := HG4.out.b.cell 4; have c4_5 : x4.cell? ⟨w.heap.size, 5, none⟩ = some (.int .i64 li) := HG4.out.b.cell 5; have c4_6 : x4.cell? ⟨w.heap.size, 6, none⟩ = some (.int .i64 la) := HG4.out.b.cell 6; have c4_7 : x4.cell? ⟨w.heap.size, 7, none⟩ = some (.int .i64 lb) := HG4.out.b.cell 7; have c4_8 : x4.cell? ⟨w.heap.size, 8, none⟩ = some (.string lc) := HG4.out.b.cell 8; have c4_9 : x4.cell? ⟨w.heap.size, 9, none⟩ = some (.int .i64 rk) := HG4.out.b.cell 9; have c4_10 : x4.cell? ⟨w.heap.size, 10, none⟩ = some (.int .i64 ri) := HG4.out.b.cell 10; have c4_11 : x4.cell? ⟨w.heap.size, 11, none⟩ = some (.int .i64 ra) := HG4.out.b.cell 11; have c4_12 : x4.cell? ⟨w.heap.size, 12, none⟩ = some (.int .i64 rb) := HG4.out.b.cell 12; have c4_13 : x4.cell? ⟨w.heap.size, 13, none⟩ = some (.string rc) := HG4.out.b.cell 13; have c4_14 : x4.cell? ⟨w.heap.size, 14, none⟩ = some (.slice Wa wan wac) := HG4.out.b.cell 14; have c4_15 : x4.cell? ⟨w.heap.size, 15, none⟩ = some (.slice Ca cols.length cac) := HG4.out.b.cell 15;
                    clear hs4 hq4 ho4)
             | (go_at_call 207; refine (xpredicate_to (.mk wo wc ⟨lk, li, ⟨la, lb, lc⟩⟩ ⟨rk, ri, ⟨ra, rb, rc⟩⟩ wargs) HM3.out HO2.out (PIn.old ((HS2.out.old H.out hbw).less hB) (Nat.le_refl _) _ _ HQ4.out) hB hb2 HFP.out (by have := HL.out; have := HN1.out; have := HN2.out; omega)).mono ?_; rintro e x3 ⟨A3, cap3, rfl, ho3, hs3⟩;
                    have hq3 := hs3;
                    have HS3 := Lib.hid (HS2.out.trans hq3); have HG3 := Lib.hid (HG2.out.step hq3); have HO3 := Lib.hid ho3; have hb3 : base ≤ x3.heap.size := Nat.le_trans hb2 hq3.k.size;
                    have c3_0 : x3.cell? ⟨w.heap.size, 0, none⟩ = some (.int .i64 op) := HG3.out.b.cell 0; have c3_1 : x3.cell? ⟨w.heap.size, 1, none⟩ = some (.int .i64 table) := HG3.out.b.cell 1; have c3_2 : x3.cell? ⟨w.heap.size, 2, none⟩ = some (.int .i64 wo) := HG3.out.b.cell 2; have c3_3 : x3.cell? ⟨w.heap.size, 3, none⟩ = some (.int .i64 wc) := HG3.out.b.cell 3; have c3_4 : x3.cell? ⟨w.heap.size, 4, none⟩ = some (.int .i64 lk) := HG3.out.b.cell 4; have c3_5 : x3.cell? ⟨w.heap.size, 5, none⟩ = some (.int .i64 li) := HG3.out.b.cell 5; have c3_6 : x3.cell? ⟨w.heap.size, 6, none⟩ = some (.int .i64 la) := HG3.out.b.cell 6; have c3_7 : x3.cell? ⟨w.heap.size, 7, none⟩ = some (.int .i64 lb) := HG3.out.b.cell 7; have c3_8 : x3.cell? ⟨w.heap.size, 8, none⟩ = some (.string lc) := HG3.out.b.cell 8; have c3_9 : x3.cell? ⟨w.heap.size, 9, none⟩ = some (.int .i64 rk) := HG3.out.b.cell 9; have c3_10 : x3.cell? ⟨w.heap.size, 10, none⟩ = some (.int .i64 ri) := HG3.out.b.cell 10; have c3_11 : x3.cell? ⟨w.heap.size, 11, none⟩ = some (.int .i64 ra) := HG3.out.b.cell 11; have c3_12 : x3.cell? ⟨w.heap.size, 12, none⟩ = some (.int .i64 rb) := HG3.out.b.cell 12; have c3_13 : x3.cell? ⟨w.heap.size, 13, none⟩ = some (.string rc) := HG3.out.b.cell 13; have c3_14 : x3.cell? ⟨w.heap.size, 14, none⟩ = some (.slice Wa wan wac) := HG3.out.b.cell 14; have c3_15 : x3.cell? ⟨w.heap.size, 15, none⟩ = some (.slice Ca cols.length cac) := HG3.out.b.cell 15;
                    clear hs3 hq3 ho3)
             | (go_at_call 102; refine (xnumber_to HM2.out HO1.out HQ2.out (by have := HL.out; have := HN1.out; omega) hb1).mono ?_; rintro e x2 ⟨A2, cap2, rfl, ho2, hs2⟩;
                    have hq2 := hs2;
                    have HS2 := Lib.hid (HS1.out.trans hq2); have HG2 := Lib.hid (HG1.out.step hq2); have HO2 := Lib.hid ho2; have hb2 : base ≤ x2.heap.size := Nat.le_trans hb1 hq2.k.size;
                    have c2_0 : x2.cell? ⟨w.heap.size, 0, none⟩ = some (.int .i64 op) := HG2.out.b.cell 0; have c2_1 : x2.cell? ⟨w.heap.size, 1, none⟩ = some (.int .i64 table) := HG2.out.b.cell 1; have c2_2 : x2.cell? ⟨w.heap.size, 2, none⟩ = some (.int .i64 wo) := HG2.out.b.cell 2; have c2_3 : x2.cell? ⟨w.heap.size, 3, none⟩ = some (.int .i64 wc) := HG2.out.b.cell 3; have c2_4 : x2.cell? ⟨w.heap.size, 4, none⟩ = some (.int .i64 lk) := HG2.out.b.cell 4; have c2_5 : x2.cell? ⟨w.heap.size, 5, none⟩ = some (.int .i64 li) := HG2.out.b.cell 5; have c2_6 : x2.cell? ⟨w.heap.size, 6, none⟩ = some (.int .i64 la) := HG2.out.b.cell 6; have c2_7 : x2.cell? ⟨w.heap.size, 7, none⟩ = some (.int .i64 lb) := HG2.out.b.cell 7; have c2_8 : x2.cell? ⟨w.heap.size, 8, none⟩ = some (.string lc) := HG2.out.b.cell 8; have c2_9 : x2.cell? ⟨w.heap.size, 9, none⟩ = some (.int .i64 rk) := HG2.out.b.cell 9; have c2_10 : x2.cell? ⟨w.heap.size, 10, none⟩ = some (.int .i64 ri) := HG2.out.b.cell 10; have c2_11 : x2.cell? ⟨w.heap.size, 11, none⟩ = some (.int .i64 ra) := HG2.out.b.cell 11; have c2_12 : x2.cell? ⟨w.heap.size, 12, none⟩ = some (.int .i64 rb) := HG2.out.b.cell 12; have c2_13 : x2.cell? ⟨w.heap.size, 13, none⟩ = some (.string rc) := HG2.out.b.cell 13; have c2_14 : x2.cell? ⟨w.heap.size, 14, none⟩ = some (.slice Wa wan wac) := HG2.out.b.cell 14; have c2_15 : x2.cell? ⟨w.heap.size, 15, none⟩ = some (.slice Ca cols.length cac) := HG2.out.b.cell 15;
                    clear hs2 hq2 ho2)
             | (go_at_call 102; refine (xnumber_to (w := wA.drew) HM1.out HO0.out HQ1.out (by have := HL.out; omega) hb0).mono ?_; rintro e x1 ⟨A1, cap1, rfl, ho1, hs1⟩;
                    have hq1 : BStep (.slice A0 l.length cap0) wA (.slice A1 M1.length cap1) x1 := (by first | exact hs1 | exact (BStep.new ((Kept.refl _ _).drew)).trans hs1);
                    have HS1 := Lib.hid (HS0.out.trans hq1); have HG1 := Lib.hid (HG0.out.step hq1); have HO1 := Lib.hid ho1; have hb1 : base ≤ x1.heap.size := Nat.le_trans hb0 hq1.k.size;
                    have c1_0 : x1.cell? ⟨w.heap.size, 0, none⟩ = some (.int .i64 op) := HG1.out.b.cell 0; have c1_1 : x1.cell? ⟨w.heap.size, 1, none⟩ = some (.int .i64 table) := HG1.out.b.cell 1; have c1_2 : x1.cell? ⟨w.heap.size, 2, none⟩ = some (.int .i64 wo) := HG1.out.b.cell 2; have c1_3 : x1.cell? ⟨w.heap.size, 3, none⟩ = some (.int .i64 wc) := HG1.out.b.cell 3; have c1_4 : x1.cell? ⟨w.heap.size, 4, none⟩ = some (.int .i64 lk) := HG1.out.b.cell 4; have c1_5 : x1.cell? ⟨w.heap.size, 5, none⟩ = some (.int .i64 li) := HG1.out.b.cell 5; have c1_6 : x1.cell? ⟨w.heap.size, 6, none⟩ = some (.int .i64 la) := HG1.out.b.cell 6; have c1_7 : x1.cell? ⟨w.heap.size, 7, none⟩ = some (.int .i64 lb) := HG1.out.b.cell 7; have c1_8 : x1.cell? ⟨w.heap.size, 8, none⟩ = some (.string lc) := HG1.out.b.cell 8; have c1_9 : x1.cell? ⟨w.heap.size, 9, none⟩ = some (.int .i64 rk) := HG1.out.b.cell 9; have c1_10 : x1.cell? ⟨w.heap.size, 10, none⟩ = some (.int .i64 ri) := HG1.out.b.cell 10; have c1_11 : x1.cell? ⟨w.heap.size, 11, none⟩ = some (.int .i64 ra) := HG1.out.b.cell 11; have c1_12 : x1.cell? ⟨w.heap.size, 12, none⟩ = some (.int .i64 rb) := HG1.out.b.cell 12; have c1_13 : x1.cell? ⟨w.heap.size, 13, none⟩ = some (.string rc) := HG1.out.b.cell 13; have c1_14 : x1.cell? ⟨w.heap.size, 14, none⟩ = some (.slice Wa wan wac) := HG1.out.b.cell 14; have c1_15 : x1.cell? ⟨w.heap.size, 15, none⟩ = some (.slice Ca cols.length cac) := HG1.out.b.cell 15;
                    clear hs1 hq1 ho1))
    have HLM : Hid (M4.length + (leb on.length).length + (on.flatMap fOn).length + (inums grp).length + (leb ord.length).length + (ord.flatMap fOrd).length + (inum lim).length + (leb args.length).length + (encQs args).length ≤ 700000000000) := Lib.hid (by have := HL.out; have := HN1.out; have := HN2.out; have := HN3.out; have := HN4.out; omega)
    have c16 : x4.cell? ⟨w.heap.size, 16, none⟩ = some (.slice Oa on.length oac) := HG4.out.b.cell 16
    obtain ⟨L1, hL1⟩ : ∃ L1, L1 = M4 ++ leb on.length := ⟨_, rfl⟩
    have HEL1 := Lib.hid hL1
    clear hL1
    go_wp2_with fail
    refine (xcount_to HEL1.out HO4.out (by omega) (by have := HLM.out; omega) hb4).mono ?_
    rintro e w5 ⟨A5, cap5, rfl, ho5, hs5⟩
    have HG5 := Lib.hid (HG4.out.step hs5)
    have e16 : w5.cell? ⟨w.heap.size, 16, none⟩ = some (.slice Oa on.length oac) := HG5.out.b.cell 16
    have HO5 := Lib.hid ho5
    have HS5 := Lib.hid (HS4.out.trans hs5)
    have HLL1 : Hid (L1.length + (on.flatMap fOn).length + (inums grp).length + (leb ord.length).length + (ord.flatMap fOrd).length + (inum lim).length + (leb args.length).length + (encQs args).length ≤ 700000000000) := Lib.hid (by rw [HEL1.out]; have := HLM.out; simp only [List.length_append]; omega)
    clear ho5 hs5 c16
    go_wp2_with fail
    go_loopw [0, 32] (fun b' i wr => XLoop on.length base (.slice A5 L1.length cap5) (fun k => L1 ++ (on.take k).flatMap fOn) w5 b' i wr) (fun _ i _ => on.length - (intOf i).toNat)
    case atStart => exact ⟨0, A5, cap5, L1, Nat.zero_le _, rfl, rfl, by simp, HO5.out, BStep.refl _ _⟩
    case round =>
      obtain ⟨k, A6, cap6, m6, hk, rfl, rfl, hm6, ho6, hs6⟩ := hrel
      have HO6 := Lib.hid ho6
      have HS6 := Lib.hid hs6
      have HM6 : Hid (m6 = L1 ++ (on.take k).flatMap fOn) := Lib.hid hm6
      have hbr : base ≤ wr.heap.size := Nat.le_trans hbw (HS5.out.trans hs6).k.size
      clear ho6 hs6 hm6
      by_cases hlt : k < on.length
      · have hk0 : (0 : Int) ≤ (k : Int) := by omega
        as_aux_lemma =>
          have hold := ((HS5.out.trans HS6.out).old H.out hbw).less hB
          obtain ⟨A', cap', hv', -, -, -, -, -, hc⟩ := HQ7.out.old hold (Nat.le_refl _)
          injection hv' with e1 e2 e3
          subst e1 e3
          obtain ⟨g, o, rfl, hgB, hc⟩ := hc (by omega)
          obtain ⟨x, hx⟩ : ∃ x, on[k]? = some x := ⟨_, List.getElem?_eq_getElem hlt⟩
          have hmem := HQ8.out x (List.mem_of_getElem? hx)
          have HTK := Lib.hid (flatMap_take_succ fOn on k x hx)
          have hpg := pair_get (fun p : Int × Int => iv p.1) (fun p => iv p.2) on k x hx
          have hlen := flatMap_take_le fOn on (k + 1)
          rw [HTK.out, List.length_append] at hlen
          obtain ⟨y1, y2⟩ := x
          have d0 : wr.cell? ⟨g, o + k * 2, none⟩ = some (.int .i64 y1) := hc (k * 2) _ hpg.1
          have d1 : wr.cell? ⟨g, o + k * 2 + 1, none⟩ = some (.int .i64 y2) := hc (k * 2 + 1) _ hpg.2
          have HMEM := Lib.hid hmem
          have HLEN : Hid (m6.length + (fOn (y1, y2)).length ≤ 700000000000) := Lib.hid (by have := HLL1.out; rw [HM6.out, List.length_append]; omega)
          obtain ⟨wB, hB'⟩ : ∃ wB, wB = wr.alloc (.cells #[.int .i64 y1, .int .i64 y2] 271) := ⟨_, rfl⟩
          have hkB : Kept Kno wr wB := by rw [hB']; exact (Kept.refl _ _).alloc _
          have HG7 : Hid (GdB wB (.slice A6 m6.length cap6) wr.heap.size 271 #[.int .i64 y1, .int .i64 y2]) := Lib.hid (by rw [hB']; exact GdB.new HO6.out _ _)
          have HO7 : Hid (OwnB wB base 5 (.slice A6 m6.length cap6) m6) := Lib.hid (own_kept HO6.out hkB (fun _ _ h => h))
          have HS7 : Hid (BStep (.slice A5 L1.length cap5) w5 (.slice A6 m6.length cap6) wB) := Lib.hid (HS6.out.then0 hkB)
          have hb7 : base ≤ wB.heap.size := Nat.le_trans hbr hkB.size
          have c7_0 : wB.cell? ⟨wr.heap.size, 0, none⟩ = some (.int .i64 y1) := HG7.out.b.cell 0
          have c7_1 : wB.cell? ⟨wr.heap.size, 1, none⟩ = some (.int .i64 y2) := HG7.out.b.cell 1
          have HBe := Lib.hid hB'
          have HNF : Hid ((fOn (y1, y2)).length = (inum y1).length + (inum y2).length) := Lib.hid (by simp only [fOn, List.length_append])
          obtain ⟨M8, hM8⟩ : ∃ m, m = m6 ++ inum y1 := ⟨_, rfl⟩
          have HM8 := Lib.hid hM8
          have HN8 : Hid (M8.length = m6.length + (inum y1).length) := Lib.hid (by rw [hM8, List.length_append])
          clear hM8
          obtain ⟨M9, hM9⟩ : ∃ m, m = M8 ++ inum y2 := ⟨_, rfl⟩
          have HM9 := Lib.hid hM9
          have HN9 : Hid (M9.length = M8.length + (inum y2).length) := Lib.hid (by rw [hM9, List.length_append])
          clear hM9
          clear hc hx hpg hlen hmem hold e2 hB' hkB
          go_wp2_with fail
          rw [← HBe.out]
          go_region_held3 (fun w' => w'.cell? ⟨wr.heap.size, 0, none⟩ = some (.int .i64 y1) ∧ w'.cell? ⟨wr.heap.size, 1, none⟩ = some (.int .i64 y2))
            (first | (exact ⟨c9_0, c9_1⟩) | (exact ⟨c8_0, c8_1⟩) | (exact ⟨c7_0, c7_1⟩) | go_keep)
            (first | (go_at_call 102; refine (xnumber_to HM9.out HO8.out HMEM.out.2 (by have := HLEN.out; have := HN8.out; have := HNF.out; omega) hb8).mono ?_; rintro e x9 ⟨A9, cap9, rfl, ho9, hs9⟩;
                          have hq9 := hs9;
                          have HS9 := Lib.hid (HS8.out.trans hq9); have HG9 := Lib.hid (HG8.out.step hq9); have HO9 := Lib.hid ho9; have hb9 : base ≤ x9.heap.size := Nat.le_trans hb8 hq9.k.size;
                          have c9_0 : x9.cell? ⟨wr.heap.size, 0, none⟩ = some (.int .i64 y1) := HG9.out.b.cell 0; have c9_1 : x9.cell? ⟨wr.heap.size, 1, none⟩ = some (.int .i64 y2) := HG9.out.b.cell 1;
                          clear hs9 hq9 ho9)
                   | (go_at_call 102; refine (xnumber_to (w := wB.drew) HM8.out HO7.out HMEM.out.1 (by have := HLEN.out; omega) hb7).mono ?_; rintro e x8 ⟨A8, cap8, rfl, ho8, hs8⟩;
                          have hq8 : BStep (.slice A6 m6.length cap6) wB (.slice A8 M8.length cap8) x8 := (by first | exact hs8 | exact (BStep.new ((Kept.refl _ _).drew)).trans hs8);
                          have HS8 := Lib.hid (HS7.out.trans hq8); have HG8 := Lib.hid (HG7.out.step hq8); have HO8 := Lib.hid ho8; have hb8 : base ≤ x8.heap.size := Nat.le_trans hb7 hq8.k.size;
                          have c8_0 : x8.cell? ⟨wr.heap.size, 0, none⟩ = some (.int .i64 y1) := HG8.out.b.cell 0; have c8_1 : x8.cell? ⟨wr.heap.size, 1, none⟩ = some (.int .i64 y2) := HG8.out.b.cell 1;
                          clear hs8 hq8 ho8))
          go_wp2
          go_roundw
          case rel => exact ⟨k + 1, A9, cap9, M9, by omega, by go_num, rfl, by simp only [HTK.out, HM9.out, HM8.out, HM6.out, fOn, List.append_assoc], HO9.out, HS9.out⟩
          case measure => simp [intOf]; omega
      · have hk9 : ¬ (k : Int) < (on.length : Int) := by omega
        have he : m6 = L1 ++ on.flatMap fOn := by have h2 := HM6.out; rw [List.take_of_length_le (by omega)] at h2; exact h2
        have HEM6 := Lib.hid he
        have HG6 := Lib.hid (HG5.out.step HS6.out)
        have HSA := Lib.hid (HS5.out.trans HS6.out)
        have HLA : Hid (m6.length + (inums grp).length + (leb ord.length).length + (ord.flatMap fOrd).length + (inum lim).length + (leb args.length).length + (encQs args).length ≤ 700000000000) := Lib.hid (by rw [he]; have := HLL1.out; simp only [List.length_append]; omega)
        clear he
        as_aux_lemma =>
          have HS10 : Hid (BStep (.slice A6 m6.length cap6) wr (.slice A6 m6.length cap6) wr) := Lib.hid (BStep.refl _ _)
          have HO10 := Lib.hid HO6.out
          have HG10 := Lib.hid HG6.out
          have hb10 := hbr
          have c10_17 : wr.cell? ⟨w.heap.size, 17, none⟩ = some (.slice Ga grp.length gac) := HG6.out.b.cell 17
          have c10_18 : wr.cell? ⟨w.heap.size, 18, none⟩ = some (.slice Da ord.length dac) := HG6.out.b.cell 18
          obtain ⟨M11, hM11⟩ : ∃ m, m = m6 ++ inums grp := ⟨_, rfl⟩
          have HM11 := Lib.hid hM11
          have HN11 : Hid (M11.length = m6.length + (inums grp).length) := Lib.hid (by rw [hM11, List.length_append])
          clear hM11
          obtain ⟨L2, hL2⟩ : ∃ m, m = M11 ++ leb ord.length := ⟨_, rfl⟩
          have HL2 := Lib.hid hL2
          have HNL2 : Hid (L2.length = M11.length + (leb ord.length).length) := Lib.hid (by rw [hL2, List.length_append])
          clear hL2
          go_upto_region 8 with (fail)
          go_region_held3 (fun w' => w'.cell? ⟨w.heap.size, 17, none⟩ = some (.slice Ga grp.length gac) ∧ w'.cell? ⟨w.heap.size, 18, none⟩ = some (.slice Da ord.length dac))
            (first | (exact ⟨c12_17, c12_18⟩) | (exact ⟨c11_17, c11_18⟩) | (exact ⟨c10_17, c10_18⟩) | go_keep)
            (first | (go_at_call 112; refine (xcount_to HL2.out HO11.out (by omega) (by have := HLA.out; have := HN11.out; omega) hb11).mono ?_; rintro e x12 ⟨A12, cap12, rfl, ho12, hs12⟩;
                          have hq12 := hs12;
                          have HS12 := Lib.hid (HS11.out.trans hq12); have HG12 := Lib.hid (HG11.out.step hq12); have HO12 := Lib.hid ho12; have hb12 : base ≤ x12.heap.size := Nat.le_trans hb11 hq12.k.size;
                          have c12_17 : x12.cell? ⟨w.heap.size, 17, none⟩ = some (.slice Ga grp.length gac) := HG12.out.b.cell 17; have c12_18 : x12.cell? ⟨w.heap.size, 18, none⟩ = some (.slice Da ord.length dac) := HG12.out.b.cell 18;
                          clear hs12 hq12 ho12)
                   | (go_at_call 103; refine (xnumbers_to (w := wr.drew) HM11.out HO10.out (HQ9.out.old ((HSA.out.old H.out hbw).less hB) (Nat.le_refl _)) HQ10.out hB (by have := HLA.out; omega) hb10).mono ?_; rintro e x11 ⟨A11, cap11, rfl, ho11, hs11⟩;
                          have hq11 : BStep (.slice A6 m6.length cap6) wr (.slice A11 M11.length cap11) x11 := (by first | exact hs11 | exact (BStep.new ((Kept.refl _ _).drew)).trans hs11);
                          have HS11 := Lib.hid (HS10.out.trans hq11); have HG11 := Lib.hid (HG10.out.step hq11); have HO11 := Lib.hid ho11; have hb11 : base ≤ x11.heap.size := Nat.le_trans hb10 hq11.k.size;
                          have c11_17 : x11.cell? ⟨w.heap.size, 17, none⟩ = some (.slice Ga grp.length gac) := HG11.out.b.cell 17; have c11_18 : x11.cell? ⟨w.heap.size, 18, none⟩ = some (.slice Da ord.length dac) := HG11.out.b.cell 18;
                          clear hs11 hq11 ho11))
          have HSX := Lib.hid (HSA.out.trans HS12.out)
          have HLL2 : Hid (L2.length + (ord.flatMap fOrd).length + (inum lim).length + (leb args.length).length + (encQs args).length ≤ 700000000000) := Lib.hid (by have := HLA.out; have := HN11.out; have := HNL2.out; omega)
          have HEL2 : Hid (L2 = L1 ++ on.flatMap fOn ++ inums grp ++ leb ord.length) := Lib.hid (by rw [HL2.out, HM11.out, HEM6.out])
          go_wp2_with fail
          go_loopw [0, 55] (fun b' i wr => XLoop ord.length base (.slice A12 L2.length cap12) (fun k => L2 ++ (ord.take k).flatMap fOrd) x12 b' i wr) (fun _ i _ => ord.length - (intOf i).toNat)
          case atStart => exact ⟨0, A12, cap12, L2, Nat.zero_le _, rfl, rfl, by simp, HO12.out, BStep.refl _ _⟩
          case round =>
            obtain ⟨k, A6b, cap6b, m6b, hk, rfl, rfl, hm6b, ho6b, hs6b⟩ := hrel
            have HO6b := Lib.hid ho6b
            have HS6b := Lib.hid hs6b
            have HM6b : Hid (m6b = L2 ++ (ord.take k).flatMap fOrd) := Lib.hid hm6b
            have hbrb : base ≤ wr.heap.size := Nat.le_trans hbw (HSX.out.trans hs6b).k.size
            clear ho6b hs6b hm6b
            by_cases hlt : k < ord.length
            · have hk0 : (0 : Int) ≤ (k : Int) := by omega
              as_aux_lemma =>
                have hold := ((HSX.out.trans HS6b.out).old H.out hbw).less hB
                obtain ⟨A', cap', hv', -, -, -, -, -, hc⟩ := HQ11.out.old hold (Nat.le_refl _)
                injection hv' with e1 e2 e3
                subst e1 e3
                obtain ⟨g, o, rfl, hgB, hc⟩ := hc (by omega)
                obtain ⟨x, hx⟩ : ∃ x, ord[k]? = some x := ⟨_, List.getElem?_eq_getElem hlt⟩
                have hmem := HQ12.out x (List.mem_of_getElem? hx)
                have HTK := Lib.hid (flatMap_take_succ fOrd ord k x hx)
                have hpg := pair_get (fun p : Int × Bool => iv p.1) (fun p => .bool p.2) ord k x hx
                have hlen := flatMap_take_le fOrd ord (k + 1)
                rw [HTK.out, List.length_append] at hlen
                obtain ⟨y1, y2⟩ := x
                have d0 : wr.cell? ⟨g, o + k * 2, none⟩ = some (.int .i64 y1) := hc (k * 2) _ hpg.1
                have d1 : wr.cell? ⟨g, o + k * 2 + 1, none⟩ = some (.bool y2) := hc (k * 2 + 1) _ hpg.2
                have HMEM := Lib.hid hmem
                have HLEN : Hid (m6b.length + (fOrd (y1, y2)).length ≤ 700000000000) := Lib.hid (by have := HLL2.out; rw [HM6b.out, List.length_append]; omega)
                obtain ⟨wB, hB'⟩ : ∃ wB, wB = wr.alloc (.cells #[.int .i64 y1, .bool y2] 273) := ⟨_, rfl⟩
                have hkB : Kept Kno wr wB := by rw [hB']; exact (Kept.refl _ _).alloc _
                have HG7 : Hid (GdB wB (.slice A6b m6b.length cap6b) wr.heap.size 273 #[.int .i64 y1, .bool y2]) := Lib.hid (by rw [hB']; exact GdB.new HO6b.out _ _)
                have HO7 : Hid (OwnB wB base 5 (.slice A6b m6b.length cap6b) m6b) := Lib.hid (own_kept HO6b.out hkB (fun _ _ h => h))
                have HS7 : Hid (BStep (.slice A12 L2.length cap12) x12 (.slice A6b m6b.length cap6b) wB) := Lib.hid (HS6b.out.then0 hkB)
                have hb7 : base ≤ wB.heap.size := Nat.le_trans hbrb hkB.size
                have c7_0 : wB.cell? ⟨wr.heap.size, 0, none⟩ = some (.int .i64 y1) := HG7.out.b.cell 0
                have c7_1 : wB.cell? ⟨wr.heap.size, 1, none⟩ = some (.bool y2) := HG7.out.b.cell 1
                have HBe := Lib.hid hB'
                have HNF : Hid ((fOrd (y1, y2)).length = (inum y1).length + (ibool y2).length) := Lib.hid (by simp only [fOrd, List.length_append])
                obtain ⟨M8, hM8⟩ : ∃ m, m = m6b ++ inum y1 := ⟨_, rfl⟩
                have HM8 := Lib.hid hM8
                have HN8 : Hid (M8.length = m6b.length + (inum y1).length) := Lib.hid (by rw [hM8, List.length_append])
                clear hM8
                obtain ⟨M9, hM9⟩ : ∃ m, m = M8 ++ ibool y2 := ⟨_, rfl⟩
                have HM9 := Lib.hid hM9
                have HN9 : Hid (M9.length = M8.length + (ibool y2).length) := Lib.hid (by rw [hM9, List.length_append])
                clear hM9
                clear hc hx hpg hlen hmem hold e2 hB' hkB
                go_wp2_with fail
                rw [← HBe.out]
                go_region_held3 (fun w' => w'.cell? ⟨wr.heap.size, 0, none⟩ = some (.int .i64 y1) ∧ w'.cell? ⟨wr.heap.size, 1, none⟩ = some (.bool y2))
                  (first | (exact ⟨c9_0, c9_1⟩) | (exact ⟨c8_0, c8_1⟩) | (exact ⟨c7_0, c7_1⟩) | go_keep)
                  (first | (go_at_call 106; refine (xtruth_to HM9.out HO8.out (by have := HLEN.out; have := HN8.out; have := HNF.out; omega) hb8).mono ?_; rintro e x9 ⟨A9, cap9, rfl, ho9, hs9⟩;
                                have hq9 := hs9;
                                have HS9 := Lib.hid (HS8.out.trans hq9); have HG9 := Lib.hid (HG8.out.step hq9); have HO9 := Lib.hid ho9; have hb9 : base ≤ x9.heap.size := Nat.le_trans hb8 hq9.k.size;
                                have c9_0 : x9.cell? ⟨wr.heap.size, 0, none⟩ = some (.int .i64 y1) := HG9.out.b.cell 0; have c9_1 : x9.cell? ⟨wr.heap.size, 1, none⟩ = some (.bool y2) := HG9.out.b.cell 1;
                                clear hs9 hq9 ho9)
                         | (go_at_call 102; refine (xnumber_to (w := wB.drew) HM8.out HO7.out HMEM.out (by have := HLEN.out; omega) hb7).mono ?_; rintro e x8 ⟨A8, cap8, rfl, ho8, hs8⟩;
                                have hq8 : BStep (.slice A6b m6b.length cap6b) wB (.slice A8 M8.length cap8) x8 := (by first | exact hs8 | exact (BStep.new ((Kept.refl _ _).drew)).trans hs8);
                                have HS8 := Lib.hid (HS7.out.trans hq8); have HG8 := Lib.hid (HG7.out.step hq8); have HO8 := Lib.hid ho8; have hb8 : base ≤ x8.heap.size := Nat.le_trans hb7 hq8.k.size;
                                have c8_0 : x8.cell? ⟨wr.heap.size, 0, none⟩ = some (.int .i64 y1) := HG8.out.b.cell 0; have c8_1 : x8.cell? ⟨wr.heap.size, 1, none⟩ = some (.bool y2) := HG8.out.b.cell 1;
                                clear hs8 hq8 ho8))
                go_wp2
                go_roundw
                case rel => exact ⟨k + 1, A9, cap9, M9, by omega, by go_num, rfl, by simp only [HTK.out, HM9.out, HM8.out, HM6b.out, fOrd, List.append_assoc], HO9.out, HS9.out⟩
                case measure => simp [intOf]; omega
            · have hk9 : ¬ (k : Int) < (ord.length : Int) := by omega
              have he : m6b = L2 ++ ord.flatMap fOrd := by have h2 := HM6b.out; rw [List.take_of_length_le (by omega)] at h2; exact h2
              have HEM6b := Lib.hid he
              have HG20 := Lib.hid (HG12.out.step HS6b.out)
              have HSB := Lib.hid (HSX.out.trans HS6b.out)
              have HLB : Hid (m6b.length + (inum lim).length + (leb args.length).length + (encQs args).length ≤ 700000000000) := Lib.hid (by rw [he]; have := HLL2.out; simp only [List.length_append]; omega)
              clear he
              as_aux_lemma =>
                have HS20 : Hid (BStep (.slice A6b m6b.length cap6b) wr (.slice A6b m6b.length cap6b) wr) := Lib.hid (BStep.refl _ _)
                have HO20 := Lib.hid HO6b.out
                have hb20 := hbrb
                have c20_19 : wr.cell? ⟨w.heap.size, 19, none⟩ = some (.int .i64 lim) := HG20.out.b.cell 19
                have c20_20 : wr.cell? ⟨w.heap.size, 20, none⟩ = some (.slice Aa args.length aac) := HG20.out.b.cell 20
                obtain ⟨M21, hM21⟩ : ∃ m, m = m6b ++ inum lim := ⟨_, rfl⟩
                have HM21 := Lib.hid hM21
                have HN21 : Hid (M21.length = m6b.length + (inum lim).length) := Lib.hid (by rw [hM21, List.length_append])
                clear hM21
                obtain ⟨L3, hL3⟩ : ∃ m, m = M21 ++ leb args.length := ⟨_, rfl⟩
                have HL3 := Lib.hid hL3
                have HNL3 : Hid (L3.length = M21.length + (leb args.length).length) := Lib.hid (by rw [hL3, List.length_append])
                clear hL3
                go_upto_region 14 with (fail)
                go_region_held3 (fun w' => w'.cell? ⟨w.heap.size, 19, none⟩ = some (.int .i64 lim) ∧ w'.cell? ⟨w.heap.size, 20, none⟩ = some (.slice Aa args.length aac))
                  (first | (exact ⟨c22_19, c22_20⟩) | (exact ⟨c21_19, c21_20⟩) | (exact ⟨c20_19, c20_20⟩) | go_keep)
                  (first | (go_at_call 112; refine (xcount_to HL3.out HO21.out (by omega) (by have := HLB.out; have := HN21.out; omega) hb21).mono ?_; rintro e x22 ⟨A22, cap22, rfl, ho22, hs22⟩;
                                have hq22 := hs22;
                                have HS22 := Lib.hid (HS21.out.trans hq22); have HG22 := Lib.hid (HG21.out.step hq22); have HO22 := Lib.hid ho22; have hb22 : base ≤ x22.heap.size := Nat.le_trans hb21 hq22.k.size;
                                have c22_19 : x22.cell? ⟨w.heap.size, 19, none⟩ = some (.int .i64 lim) := HG22.out.b.cell 19; have c22_20 : x22.cell? ⟨w.heap.size, 20, none⟩ = some (.slice Aa args.length aac) := HG22.out.b.cell 20;
                                clear hs22 hq22 ho22)
                         | (go_at_call 102; refine (xnumber_to (w := wr.drew) HM21.out HO20.out HQ3.out (by have := HLB.out; omega) hb20).mono ?_; rintro e x21 ⟨A21, cap21, rfl, ho21, hs21⟩;
                                have hq21 : BStep (.slice A6b m6b.length cap6b) wr (.slice A21 M21.length cap21) x21 := (by first | exact hs21 | exact (BStep.new ((Kept.refl _ _).drew)).trans hs21);
                                have HS21 := Lib.hid (HS20.out.trans hq21); have HG21 := Lib.hid (HG20.out.step hq21); have HO21 := Lib.hid ho21; have hb21 : base ≤ x21.heap.size := Nat.le_trans hb20 hq21.k.size;
                                have c21_19 : x21.cell? ⟨w.heap.size, 19, none⟩ = some (.int .i64 lim) := HG21.out.b.cell 19; have c21_20 : x21.cell? ⟨w.heap.size, 20, none⟩ = some (.slice Aa args.length aac) := HG21.out.b.cell 20;
                                clear hs21 hq21 ho21))
                have HSY := Lib.hid (HSB.out.trans HS22.out)
                have HLL3 : Hid (L3.length + (encQs args).length ≤ 700000000000) := Lib.hid (by have := HLB.out; have := HN21.out; have := HNL3.out; omega)
                have HEL3 : Hid (L3 = L2 ++ ord.flatMap fOrd ++ inum lim ++ leb args.length) := Lib.hid (by rw [HL3.out, HM21.out, HEM6b.out])
                go_wp2_with fail
                go_loopw [0, 78] (fun b' i wr => XLoop args.length base (.slice A0 l.length cap0) (fun k => L3 ++ encQs (args.take k)) w b' i wr) (fun _ i _ => args.length - (intOf i).toNat)
                case atStart => exact ⟨0, A22, cap22, L3, Nat.zero_le _, rfl, rfl, by simp [encQs], HO22.out, HSY.out⟩
                case round =>
                  obtain ⟨k, A30, cap30, m30, hk, rfl, rfl, hm30, ho30, hs30⟩ := hrel
                  have HO30 := Lib.hid ho30
                  have HS30 := Lib.hid hs30
                  have HM30 : Hid (m30 = L3 ++ encQs (args.take k)) := Lib.hid hm30
                  clear ho30 hs30 hm30
                  by_cases hlt : k < args.length
                  · have hk0 : (0 : Int) ≤ (k : Int) := by omega
                    as_aux_lemma =>
                      have hold := (HS30.out.old H.out hbw).less hB
                      obtain ⟨g, o, rfl, hgB, hc⟩ := HAT.out (by omega)
                      obtain ⟨q, hq⟩ : ∃ q, args[k]? = some q := ⟨_, List.getElem?_eq_getElem hlt⟩
                      obtain ⟨sq, hqi, hqc⟩ := hc.get hq
                      have hqi' := QIn.old hold (Nat.le_refl _) _ _ hqi
                      have hqc' := hqc.old hgB hold
                      have hmem := List.mem_of_getElem? hq
                      have HTK := Lib.hid (encQs_take_succ args k q hq)
                      have HTL : Hid (m30.length + (encQ q).length ≤ 700000000000) := Lib.hid (by
                        have h1 := encQs_take_le args (k + 1)
                        rw [encQs_take_succ args k q hq, List.length_append] at h1
                        have := HLL3.out
                        rw [HM30.out, List.length_append]
                        omega)
                      have HC := Lib.hid (HIH.out q hmem sq (.slice A30 m30.length cap30) m30)
                      have HQI := Lib.hid hqi'
                      have hqn := q.cells_length sq
                      have hqo := QIn.one hqi
                      have HI : Hid ((Tryz.prog.info? 59).map (·.size) = some (q.cells sq).length) := Lib.hid (by rw [hqn]; kernel_rfl)
                      have HI2 : Hid ((Tryz.prog.info? 59).map (·.size) = some (q.cells sq).toArray.size) := Lib.hid (by rw [List.size_toArray, hqn]; kernel_rfl)
                      have HZ : Hid ((q.cells sq).toArray.size = 21) := Lib.hid (by rw [List.size_toArray, hqn])
                      have H1 : Hid ((q.cells sq).toArray.all (·.oneCell') = true) := Lib.hid (by simpa using hqo)
                      have HQC := Lib.hid hqc'
                      have HQV : Hid (q.v sq = .agg (q.cells sq).toArray) := Lib.hid (q.v_cells sq)
                      have hbr3 : base ≤ wr.heap.size := Nat.le_trans hbw HS30.out.k.size
                      clear hqc hqc' hqi hqi' hq hmem hold hc hqn hqo
                      go_wp2_with (first
                        | (refine wpList_load_at rfl 59 (.tmp 80) rfl g (o + k * 21) (q.cells sq) _ rfl HQC.out Tryz.underlying59 rfl HI.out ?_)
                        | (refine wpList_store_new rfl 59 (.tmp 10) (.tmp 81) rfl _ (q.cells sq).toArray rfl rfl HI2.out (by rw [HZ.out]; rfl) H1.out ?_)
                        | (refine wpList_load_row rfl 59 (.tmp 10) rfl wr.heap.size rfl 59 (q.cells sq).toArray (0, 0) _ (Blk.new wr _ _) Tryz.underlying59 rfl HI2.out ?_))
                      have hkq : Kept Kno wr (wr.alloc (.cells (q.cells sq).toArray 59)) := (Kept.refl _ _).alloc _
                      rw [← HQV.out]
                      refine (HC.out _ (own_kept HO30.out hkq (fun _ _ h => h)) (QIn.old (hkq.old (Nat.le_trans hB hbr3) (fun _ _ h => h)) (Nat.le_refl _) _ _ HQI.out) (Nat.le_trans hbr3 hkq.size) HTL.out).mono ?_
                      rintro e wE ⟨AE, capE, rfl, hoE, hsE⟩
                      have HOE := Lib.hid hoE
                      have HSE := Lib.hid ((HS30.out.then0 hkq).trans hsE)
                      clear hoE hsE hkq
                      go_wp2
                      go_roundw
                      case rel => exact ⟨k + 1, AE, capE, _, by omega, by go_num, by simp, by simp only [HTK.out, HM30.out, List.append_assoc], HOE.out, HSE.out⟩
                      case measure => simp [intOf]; omega
                  · have hk9 : ¬ (k : Int) < (args.length : Int) := by omega
                    have he : m30 = l ++ encQ (.mk op table (.mk wo wc ⟨lk, li, ⟨la, lb, lc⟩⟩ ⟨rk, ri, ⟨ra, rb, rc⟩⟩ wargs) cols on grp ord lim args) := by
                      rw [HM30.out, List.take_of_length_le (by omega), HE.out, HEL3.out, HEL2.out, HEL1.out, HM4.out, HM3.out, HM2.out, HM1.out]
                      simp only [List.append_assoc]
                    have hx : AppOk base (.slice A0 l.length cap0) (l ++ encQ (.mk op table (.mk wo wc ⟨lk, li, ⟨la, lb, lc⟩⟩ ⟨rk, ri, ⟨ra, rb, rc⟩⟩ wargs) cols on grp ord lim args)) w (.returned (.slice A30 m30.length cap30)) wr := by rw [← he]; exact ⟨A30, cap30, rfl, HO30.out, HS30.out⟩
                    have HX := Lib.hid hx
                    clear hx he
                    go_wp2
                    go_ret
                    exact HX.out

theorem xquery_any (q : Qry) (d base B : Nat) (b : Value) (s : QS) (l : List UInt8) (w : World) (h : OwnB w base 5 b l) (hq : QIn w B q s) (hB : B ≤ base) (hb : base ≤ w.heap.size) (hf : fitQ d q = true) (hl : l.length + (encQ q).length ≤ 700000000000) :
    Calls Tryz.prog 113 #[b, q.v s] w (AppOk base b (l ++ encQ q) w) := xquery_n (sizeQ q) q (Nat.le_refl _) d base B b s l w h hq hB hb hf hl
theorem xquery_to {m : List UInt8} (q : Qry) {d base B : Nat} {b : Value} {s : QS} {l : List UInt8} {w : World} (hm : m = l ++ encQ q) (h : OwnB w base 5 b l) (hq : QIn w B q s) (hB : B ≤ base) (hb : base ≤ w.heap.size) (hf : fitQ d q = true) (hl : l.length + (encQ q).length ≤ 700000000000) :
    Calls Tryz.prog 113 #[b, q.v s] w (AppOk base b m w) := by subst hm; exact xquery_any q d base B b s l w h hq hB hb hf hl

end Go.Proofs.YtffdaohmalmkfaaGreat
