/-
  Contracts and plain laws that the claim's theorem rests on, some texts in one file.
-/
import Derived.Test.YtffdaohmalmkfaaGreatM23
/-
  Packet's reference: the writers of predicates and queries. (Printed by gen_pakrc.py.)
-/
namespace Go.Proofs.YtffdaohmalmkfaaGreat
open Go.RowKit
set_option linter.unusedVariables false

/-- A loop that appends the elements of a list, one after another. -/
def XLoop (n base : Nat) (b : Value) (f : Nat → List UInt8) (w : World) (b' i : Value) (wr : World) : Prop :=
  ∃ (k : Nat) (A : Option Addr) (cap : Nat) (m : List UInt8), k ≤ n ∧ i = .int .i64 k ∧ b' = .slice A m.length cap ∧ m = f k ∧ OwnB wr base 5 (.slice A m.length cap) m ∧ BStep b w (.slice A m.length cap) wr

set_option maxRecDepth 100000 in
set_option maxHeartbeats 8000000 in
theorem xpredicate_n (N : Nat) : ∀ (p : Prd), sizeP p ≤ N → ∀ (d base B : Nat) (b s : Value) (l : List UInt8) (w : World), OwnB w base 5 b l → PIn w B p s → B ≤ base → base ≤ w.heap.size → fitP d p = true → l.length + (encP p).length ≤ 800000000000 →
    Calls Tryz.prog 207 #[b, p.v s] w (AppOk base b (l ++ encP p) w) := by
  induction N with
  | zero => intro p hp; have := sizeP_pos p; omega
  | succ N IH =>
    intro p hsz d base B b s l w h hp hB hbw hf hl
    obtain ⟨op, cmp, lo, ro, args⟩ := p
    have H := Lib.hid h
    obtain ⟨A0, cap0, rfl⟩ := own_form h
    simp only [sizeP] at hsz
    simp only [fitP, Bool.and_eq_true] at hf
    simp only [PIn] at hp
    obtain ⟨p1, p2, p3, p4, A, cap, rfl, hcap, hmax, -, hlow, hat⟩ := hp
    obtain ⟨⟨⟨-, f1⟩, f2⟩, f3⟩ := hf
    have HP1 := Lib.hid p1
    have HP2 := Lib.hid p2
    have HP3 := Lib.hid p3
    have HP4 := Lib.hid p4
    have HF1 := Lib.hid f1
    have HF2 := Lib.hid f2
    have HAT := Lib.hid hat
    have hEnc : encP (.mk op cmp lo ro args) = inum op ++ inum cmp ++ encO lo ++ encO ro ++ leb args.length ++ encPs args := by simp only [encP]
    have HE := Lib.hid hEnc
    have HIH : Hid (∀ (p : Prd), p ∈ args → ∀ (s b : Value) (l : List UInt8) (w : World), OwnB w base 5 b l → PIn w B p s → base ≤ w.heap.size → l.length + (encP p).length ≤ 800000000000 → Calls Tryz.prog 207 #[b, p.v s] w (AppOk base b (l ++ encP p) w)) := Lib.hid (by
      intro p hpm s b l w h1 h2 h3 h4
      exact IH p (by have := sizePs_mem hpm; omega) (d + 1) base B b s l w h1 h2 hB h3 (fitPs_mem f3 hpm) h4)
    rw [hEnc] at hl
    simp only [List.length_append] at hl
    have hmax' : cap ≤ 9223372036854775807 := by simpa only [maxLen] using hmax
    have HL := Lib.hid hl
    obtain ⟨lk, li, ⟨la, lb, lc⟩⟩ := lo
    obtain ⟨rk, ri, ⟨ra, rb, rc⟩⟩ := ro
    simp only [Prd.v]
    obtain ⟨wA, hA⟩ : ∃ wA, wA = w.alloc (.cells #[.int .i64 op, .int .i64 cmp, .int .i64 lk, .int .i64 li, .int .i64 la, .int .i64 lb, .string lc, .int .i64 rk, .int .i64 ri, .int .i64 ra, .int .i64 rb, .string rc, .slice A args.length cap] 54) := ⟨_, rfl⟩
    have hkA : Kept Kno w wA := by rw [hA]; exact (Kept.refl _ _).alloc _
    have HG0 : Hid (GdB wA (.slice A0 l.length cap0) w.heap.size 54 #[.int .i64 op, .int .i64 cmp, .int .i64 lk, .int .i64 li, .int .i64 la, .int .i64 lb, .string lc, .int .i64 rk, .int .i64 ri, .int .i64 ra, .int .i64 rb, .string rc, .slice A args.length cap]) := Lib.hid (by rw [hA]; exact GdB.new h _ _)
    have HO0 : Hid (OwnB wA base 5 (.slice A0 l.length cap0) l) := Lib.hid (own_kept h hkA (fun _ _ h => h))
    have HS0 : Hid (BStep (.slice A0 l.length cap0) w (.slice A0 l.length cap0) wA) := Lib.hid (.new hkA)
    have hb0 : base ≤ wA.heap.size := Nat.le_trans hbw hkA.size
    have c0_0 : wA.cell? ⟨w.heap.size, 0, none⟩ = some (.int .i64 op) := HG0.out.b.cell 0
    have c0_1 : wA.cell? ⟨w.heap.size, 1, none⟩ = some (.int .i64 cmp) := HG0.out.b.cell 1
    have c0_2 : wA.cell? ⟨w.heap.size, 2, none⟩ = some (.int .i64 lk) := HG0.out.b.cell 2
    have c0_3 : wA.cell? ⟨w.heap.size, 3, none⟩ = some (.int .i64 li) := HG0.out.b.cell 3
    have c0_4 : wA.cell? ⟨w.heap.size, 4, none⟩ = some (.int .i64 la) := HG0.out.b.cell 4
    have c0_5 : wA.cell? ⟨w.heap.size, 5, none⟩ = some (.int .i64 lb) := HG0.out.b.cell 5
    have c0_6 : wA.cell? ⟨w.heap.size, 6, none⟩ = some (.string lc) := HG0.out.b.cell 6
    have c0_7 : wA.cell? ⟨w.heap.size, 7, none⟩ = some (.int .i64 rk) := HG0.out.b.cell 7
    have c0_8 : wA.cell? ⟨w.heap.size, 8, none⟩ = some (.int .i64 ri) := HG0.out.b.cell 8
    have c0_9 : wA.cell? ⟨w.heap.size, 9, none⟩ = some (.int .i64 ra) := HG0.out.b.cell 9
    have c0_10 : wA.cell? ⟨w.heap.size, 10, none⟩ = some (.int .i64 rb) := HG0.out.b.cell 10
    have c0_11 : wA.cell? ⟨w.heap.size, 11, none⟩ = some (.string rc) := HG0.out.b.cell 11
    have c0_12 : wA.cell? ⟨w.heap.size, 12, none⟩ = some (.slice A args.length cap) := HG0.out.b.cell 12
    obtain ⟨M1, hM1⟩ : ∃ m, m = l ++ inum op := ⟨_, rfl⟩
    have HM1 := Lib.hid hM1
    have HN1 : Hid (M1.length = l.length + (inum op).length) := Lib.hid (by rw [hM1, List.length_append])
    clear hM1
    obtain ⟨M2, hM2⟩ : ∃ m, m = M1 ++ inum cmp := ⟨_, rfl⟩
    have HM2 := Lib.hid hM2
    have HN2 : Hid (M2.length = M1.length + (inum cmp).length) := Lib.hid (by rw [hM2, List.length_append])
    clear hM2
    obtain ⟨M3, hM3⟩ : ∃ m, m = M2 ++ encO ⟨lk, li, ⟨la, lb, lc⟩⟩ := ⟨_, rfl⟩
    have HM3 := Lib.hid hM3
    have HN3 : Hid (M3.length = M2.length + (encO ⟨lk, li, ⟨la, lb, lc⟩⟩).length) := Lib.hid (by rw [hM3, List.length_append])
    clear hM3
    obtain ⟨M4, hM4⟩ : ∃ m, m = M3 ++ encO ⟨rk, ri, ⟨ra, rb, rc⟩⟩ := ⟨_, rfl⟩
    have HM4 := Lib.hid hM4
    have HN4 : Hid (M4.length = M3.length + (encO ⟨rk, ri, ⟨ra, rb, rc⟩⟩).length) := Lib.hid (by rw [hM4, List.length_append])
    clear hM4
    have HAe := Lib.hid hA
    clear IH h p1 p2 p3 p4 f1 f2 f3 hat hlow hEnc hmax hl hsz hA hkA
    go_enter Tryz.func207, Tryz.ntmps207
    go_upto_region 1 with (fail)
    rw [← HAe.out]
    go_region_held3 (fun w' => w'.cell? ⟨w.heap.size, 0, none⟩ = some (.int .i64 op) ∧ w'.cell? ⟨w.heap.size, 1, none⟩ = some (.int .i64 cmp) ∧ w'.cell? ⟨w.heap.size, 2, none⟩ = some (.int .i64 lk) ∧ w'.cell? ⟨w.heap.size, 3, none⟩ = some (.int .i64 li) ∧ w'.cell? ⟨w.heap.size, 4, none⟩ = some (.int .i64 la) ∧ w'.cell? ⟨w.heap.size, 5, none⟩ = some (.int .i64 lb) ∧ w'.cell? ⟨w.heap.size, 6, none⟩ = some (.string lc) ∧ w'.cell? ⟨w.heap.size, 7, none⟩ = some (.int .i64 rk) ∧ w'.cell? ⟨w.heap.size, 8, none⟩ = some (.int .i64 ri) ∧ w'.cell? ⟨w.heap.size, 9, none⟩ = some (.int .i64 ra) ∧ w'.cell? ⟨w.heap.size, 10, none⟩ = some (.int .i64 rb) ∧ w'.cell? ⟨w.heap.size, 11, none⟩ = some (.string rc) ∧ w'.cell? ⟨w.heap.size, 12, none⟩ = some (.slice A args.length cap))
      (first | (exact ⟨c4_0, c4_1, c4_2, c4_3, c4_4, c4_5, c4_6, c4_7, c4_8, c4_9, c4_10, c4_11, c4_12⟩) | (exact ⟨c3_0, c3_1, c3_2, c3_3, c3_4, c3_5, c3_6, c3_7, c3_8, c3_9, c3_10, c3_11, c3_12⟩) | (exact ⟨c2_0, c2_1, c2_2, c2_3, c2_4, c2_5, c2_6, c2_7, c2_8, c2_9, c2_10, c2_11, c2_12⟩) | (exact ⟨c1_0, c1_1, c1_2, c1_3, c1_4, c1_5, c1_6, c1_7, c1_8, c1_9, c1_10, c1_11, c1_12⟩) | (exact ⟨c0_0, c0_1, c0_2, c0_3, c0_4, c0_5, c0_6, c0_7, c0_8, c0_9, c0_10, c0_11, c0_12⟩) | go_keep)
      (first | (go_at_call 255; refine (xoperand_to (o := ⟨rk, ri, ⟨ra, rb, rc⟩⟩) HM4.out HO3.out HP4.out HF2.out (by have := HL.out; have := HN1.out; have := HN2.out; have := HN3.out; omega) hb3).mono ?_; rintro e x4 ⟨A4, cap4, rfl, ho4, hs4⟩;
                    have hq4 := hs4;
                    have HS4 := Lib.hid (HS3.out.trans hq4); have HG4 := Lib.hid (HG3.out.step hq4); have HO4 := Lib.hid ho4; have hb4 : base ≤ x4.heap.size := Nat.le_trans hb3 hq4.k.size;
                    have c4_0 : x4.cell? ⟨w.heap.size, 0, none⟩ = some (.int .i64 op) := HG4.out.b.cell 0; have c4_1 : x4.cell? ⟨w.heap.size, 1, none⟩ = some (.int .i64 cmp) := HG4.out.b.cell 1; have c4_2 : x4.cell? ⟨w.heap.size, 2, none⟩ = some (.int .i64 lk) := HG4.out.b.cell 2; have c4_3 : x4.cell? ⟨w.heap.size, 3, none⟩ = some (.int .i64 li) := HG4.out.b.cell 3; have c4_4 : x4.cell? ⟨w.heap.size, 4, none⟩ = some (.int .i64 la) := HG4.out.b.cell 4; have c4_5 : x4.cell? ⟨w.heap.size, 5, none⟩ = some (.int .i64 lb) := HG4.out.b.cell 5; have c4_6 : x4.cell? ⟨w.heap.size, 6, none⟩ = some (.string lc) := HG4.out.b.cell 6; have c4_7 : x4.cell? ⟨w.heap.size, 7, none⟩ = some (.int .i64 rk) := HG4.out.b.cell 7; have c4_8 : x4.cell? ⟨w.heap.size, 8, none⟩ = some (.int .i64 ri) := HG4.out.b.cell 8; have c4_9 : x4.cell? ⟨w.heap.size, 9, none⟩ = some (.int .i64 ra) := HG4.out.b.cell 9; have c4_10 : x4.cell? ⟨w.heap.size, 10, none⟩ = some (.int .i64 rb) := HG4.out.b.cell 10; have c4_11 : x4.cell? ⟨w.heap.size, 11, none⟩ = some (.string rc) := HG4.out.b.cell 11; have c4_12 : x4.cell? ⟨w.heap.size, 12, none⟩ = some (.slice A args.length cap) := HG4.out.b.cell 12;
                    clear hs4 hq4 ho4)
             | (go_at_call 255; refine (xoperand_to (o := ⟨lk, li, ⟨la, lb, lc⟩⟩) HM3.out HO2.out HP3.out HF1.out (by have := HL.out; have := HN1.out; have := HN2.out; omega) hb2).mono ?_; rintro e x3 ⟨A3, cap3, rfl, ho3, hs3⟩;
                    have hq3 := hs3;
                    have HS3 := Lib.hid (HS2.out.trans hq3); have HG3 := Lib.hid (HG2.out.step hq3); have HO3 := Lib.hid ho3; have hb3 : base ≤ x3.heap.size := Nat.le_trans hb2 hq3.k.size;
                    have c3_0 : x3.cell? ⟨w.heap.size, 0, none⟩ = some (.int .i64 op) := HG3.out.b.cell 0; have c3_1 : x3.cell? ⟨w.heap.size, 1, none⟩ = some (.int .i64 cmp) := HG3.out.b.cell 1; have c3_2 : x3.cell? ⟨w.heap.size, 2, none⟩ = some (.int .i64 lk) := HG3.out.b.cell 2; have c3_3 : x3.cell? ⟨w.heap.size, 3, none⟩ = some (.int .i64 li) := HG3.out.b.cell 3; have c3_4 : x3.cell? ⟨w.heap.size, 4, none⟩ = some (.int .i64 la) := HG3.out.b.cell 4; have c3_5 : x3.cell? ⟨w.heap.size, 5, none⟩ = some (.int .i64 lb) := HG3.out.b.cell 5; have c3_6 : x3.cell? ⟨w.heap.size, 6, none⟩ = some (.string lc) := HG3.out.b.cell 6; have c3_7 : x3.cell? ⟨w.heap.size, 7, none⟩ = some (.int .i64 rk) := HG3.out.b.cell 7; have c3_8 : x3.cell? ⟨w.heap.size, 8, none⟩ = some (.int .i64 ri) := HG3.out.b.cell 8; have c3_9 : x3.cell? ⟨w.heap.size, 9, none⟩ = some (.int .i64 ra) := HG3.out.b.cell 9; have c3_10 : x3.cell? ⟨w.heap.size, 10, none⟩ = some (.int .i64 rb) := HG3.out.b.cell 10; have c3_11 : x3.cell? ⟨w.heap.size, 11, none⟩ = some (.string rc) := HG3.out.b.cell 11; have c3_12 : x3.cell? ⟨w.heap.size, 12, none⟩ = some (.slice A args.length cap) := HG3.out.b.cell 12;
                    clear hs3 hq3 ho3)
             | (go_at_call 102; refine (xnumber_to HM2.out HO1.out HP2.out (by have := HL.out; have := HN1.out; omega) hb1).mono ?_; rintro e x2 ⟨A2, cap2, rfl, ho2, hs2⟩;
                    have hq2 := hs2;
                    have HS2 := Lib.hid (HS1.out.trans hq2); have HG2 := Lib.hid (HG1.out.step hq2); have HO2 := Lib.hid ho2; have hb2 : base ≤ x2.heap.size := Nat.le_trans hb1 hq2.k.size;
                    have c2_0 : x2.cell? ⟨w.heap.size, 0, none⟩ = some (.int .i64 op) := HG2.out.b.cell 0; have c2_1 : x2.cell? ⟨w.heap.size, 1, none⟩ = some (.int .i64 cmp) := HG2.out.b.cell 1; have c2_2 : x2.cell? ⟨w.heap.size, 2, none⟩ = some (.int .i64 lk) := HG2.out.b.cell 2; have c2_3 : x2.cell? ⟨w.heap.size, 3, none⟩ = some (.int .i64 li) := HG2.out.b.cell 3; have c2_4 : x2.cell? ⟨w.heap.size, 4, none⟩ = some (.int .i64 la) := HG2.out.b.cell 4; have c2_5 : x2.cell? ⟨w.heap.size, 5, none⟩ = some (.int .i64 lb) := HG2.out.b.cell 5; have c2_6 : x2.cell? ⟨w.heap.size, 6, none⟩ = some (.string lc) := HG2.out.b.cell 6; have c2_7 : x2.cell? ⟨w.heap.size, 7, none⟩ = some (.int .i64 rk) := HG2.out.b.cell 7; have c2_8 : x2.cell? ⟨w.heap.size, 8, none⟩ = some (.int .i64 ri) := HG2.out.b.cell 8; have c2_9 : x2.cell? ⟨w.heap.size, 9, none⟩ = some (.int .i64 ra) := HG2.out.b.cell 9; have c2_10 : x2.cell? ⟨w.heap.size, 10, none⟩ = some (.int .i64 rb) := HG2.out.b.cell 10; have c2_11 : x2.cell? ⟨w.heap.size, 11, none⟩ = some (.string rc) := HG2.out.b.cell 11; have c2_12 : x2.cell? ⟨w.heap.size, 12, none⟩ = some (.slice A args.length cap) := HG2.out.b.cell 12;
                    clear hs2 hq2 ho2)
             | (go_at_call 102; refine (xnumber_to (w := wA.drew) HM1.out HO0.out HP1.out (by have := HL.out; omega) hb0).mono ?_; rintro e x1 ⟨A1, cap1, rfl, ho1, hs1⟩;
                    have hq1 : BStep (.slice A0 l.length cap0) wA (.slice A1 M1.length cap1) x1 := (by first | exact hs1 | exact (BStep.new ((Kept.refl _ _).drew)).trans hs1);
                    have HS1 := Lib.hid (HS0.out.trans hq1); have HG1 := Lib.hid (HG0.out.step hq1); have HO1 := Lib.hid ho1; have hb1 : base ≤ x1.heap.size := Nat.le_trans hb0 hq1.k.size;
                    have c1_0 : x1.cell? ⟨w.heap.size, 0, none⟩ = some (.int .i64 op) := HG1.out.b.cell 0; have c1_1 : x1.cell? ⟨w.heap.size, 1, none⟩ = some (.int .i64 cmp) := HG1.out.b.cell 1; have c1_2 : x1.cell? ⟨w.heap.size, 2, none⟩ = some (.int .i64 lk) := HG1.out.b.cell 2; have c1_3 : x1.cell? ⟨w.heap.size, 3, none⟩ = some (.int .i64 li) := HG1.out.b.cell 3; have c1_4 : x1.cell? ⟨w.heap.size, 4, none⟩ = some (.int .i64 la) := HG1.out.b.cell 4; have c1_5 : x1.cell? ⟨w.heap.size, 5, none⟩ = some (.int .i64 lb) := HG1.out.b.cell 5; have c1_6 : x1.cell? ⟨w.heap.size, 6, none⟩ = some (.string lc) := HG1.out.b.cell 6; have c1_7 : x1.cell? ⟨w.heap.size, 7, none⟩ = some (.int .i64 rk) := HG1.out.b.cell 7; have c1_8 : x1.cell? ⟨w.heap.size, 8, none⟩ = some (.int .i64 ri) := HG1.out.b.cell 8; have c1_9 : x1.cell? ⟨w.heap.size, 9, none⟩ = some (.int .i64 ra) := HG1.out.b.cell 9; have c1_10 : x1.cell? ⟨w.heap.size, 10, none⟩ = some (.int .i64 rb) := HG1.out.b.cell 10; have c1_11 : x1.cell? ⟨w.heap.size, 11, none⟩ = some (.string rc) := HG1.out.b.cell 11; have c1_12 : x1.cell? ⟨w.heap.size, 12, none⟩ = some (.slice A args.length cap) := HG1.out.b.cell 12;
                    clear hs1 hq1 ho1))
    have HLM : Hid (M4.length + (leb args.length).length + (encPs args).length ≤ 800000000000) := Lib.hid (by have := HL.out; have := HN1.out; have := HN2.out; have := HN3.out; have := HN4.out; omega)
    obtain ⟨L, hLe⟩ : ∃ L, L = M4 ++ leb args.length := ⟨_, rfl⟩
    have HLe := Lib.hid hLe
    clear hLe
    go_wp2_with fail
    refine (xcount_to HLe.out HO4.out (by omega) (by have := HLM.out; omega) hb4).mono ?_
    rintro e w5 ⟨A5, cap5, rfl, ho5, hs5⟩
    have HG5 := Lib.hid (HG4.out.step hs5)
    have e12 : w5.cell? ⟨w.heap.size, 12, none⟩ = some (.slice A args.length cap) := HG5.out.b.cell 12
    have HO5 := Lib.hid ho5
    have HS5 := Lib.hid (HS4.out.trans hs5)
    have HLL : Hid (L.length + (encPs args).length ≤ 800000000000) := Lib.hid (by rw [HLe.out]; have := HLM.out; simp only [List.length_append]; omega)
    have HRES : Hid (l ++ encP (.mk op cmp ⟨lk, li, ⟨la, lb, lc⟩⟩ ⟨rk, ri, ⟨ra, rb, rc⟩⟩ args) = L ++ encPs args) := Lib.hid (by rw [HE.out, HLe.out, HM4.out, HM3.out, HM2.out, HM1.out]; simp only [List.append_assoc])
    clear ho5 hs5
    go_wp2_with fail
    go_loopw [0, 28] (fun b' i wr => XLoop args.length base (.slice A0 l.length cap0) (fun k => L ++ encPs (args.take k)) w b' i wr) (fun _ i _ => args.length - (intOf i).toNat)
    case atStart => exact ⟨0, A5, cap5, L, Nat.zero_le _, rfl, rfl, by simp [encPs], HO5.out, HS5.out⟩
    case round =>
      obtain ⟨k, A6, cap6, m6, hk, rfl, rfl, hm6, ho6, hs6⟩ := hrel
      have HO6 := Lib.hid ho6
      have HS6 := Lib.hid hs6
      have HM6 := Lib.hid hm6
      clear ho6 hs6 hm6
      by_cases hlt : k < args.length
      · obtain ⟨g, o, rfl, hgB, hc⟩ := HAT.out (by omega)
        have hold := (HS6.out.old H.out hbw).less hB
        obtain ⟨q, hq⟩ : ∃ q, args[k]? = some q := ⟨_, List.getElem?_eq_getElem hlt⟩
        obtain ⟨sq, hqi, hqc⟩ := hc.get hq
        have hqi' := PIn.old hold (Nat.le_refl _) _ _ hqi
        have hqc' := hqc.old hgB hold
        have hmem := List.mem_of_getElem? hq
        have HTK := Lib.hid (encPs_take_succ args k q hq)
        have HTL : Hid (m6.length + (encP q).length ≤ 800000000000) := Lib.hid (by
          have h1 := encPs_take_le args (k + 1)
          rw [encPs_take_succ args k q hq, List.length_append] at h1
          have := HLL.out
          have h2 : m6 = L ++ encPs (args.take k) := HM6.out
          rw [h2, List.length_append]
          omega)
        have HC := Lib.hid (HIH.out q hmem sq (.slice A6 m6.length cap6) m6)
        have HQI := Lib.hid hqi'
        have hsl : ∃ A' n' cap', sq = .slice A' n' cap' := PIn.form hqi'
        obtain ⟨A', n', cap', rfl⟩ := hsl
        obtain ⟨qo, qc, ⟨qlk, qli, ⟨qla, qlb, qlc⟩⟩, ⟨qrk, qri, ⟨qra, qrb, qrc⟩⟩, qa⟩ := q
        simp only [Prd.cells] at hqc'
        have d0 := hqc' 0 _ rfl
        simp only [Nat.add_zero] at d0
        have d1 := hqc' 1 _ rfl
        have d2 := hqc' 2 _ rfl
        rw [show o + k * 13 + 2 = o + k * 13 + 1 + 1 from rfl] at d2
        have d3 := hqc' 3 _ rfl
        rw [show o + k * 13 + 3 = o + k * 13 + 1 + 1 + 1 from rfl] at d3
        have d4 := hqc' 4 _ rfl
        rw [show o + k * 13 + 4 = o + k * 13 + 1 + 1 + 1 + 1 from rfl] at d4
        have d5 := hqc' 5 _ rfl
        rw [show o + k * 13 + 5 = o + k * 13 + 1 + 1 + 1 + 1 + 1 from rfl] at d5
        have d6 := hqc' 6 _ rfl
        rw [show o + k * 13 + 6 = o + k * 13 + 1 + 1 + 1 + 1 + 1 + 1 from rfl] at d6
        have d7 := hqc' 7 _ rfl
        rw [show o + k * 13 + 7 = o + k * 13 + 1 + 1 + 1 + 1 + 1 + 1 + 1 from rfl] at d7
        have d8 := hqc' 8 _ rfl
        rw [show o + k * 13 + 8 = o + k * 13 + 1 + 1 + 1 + 1 + 1 + 1 + 1 + 1 from rfl] at d8
        have d9 := hqc' 9 _ rfl
        rw [show o + k * 13 + 9 = o + k * 13 + 1 + 1 + 1 + 1 + 1 + 1 + 1 + 1 + 1 from rfl] at d9
        have d10 := hqc' 10 _ rfl
        rw [show o + k * 13 + 10 = o + k * 13 + 1 + 1 + 1 + 1 + 1 + 1 + 1 + 1 + 1 + 1 from rfl] at d10
        have d11 := hqc' 11 _ rfl
        rw [show o + k * 13 + 11 = o + k * 13 + 1 + 1 + 1 + 1 + 1 + 1 + 1 + 1 + 1 + 1 + 1 from rfl] at d11
        have d12 := hqc' 12 _ rfl
        rw [show o + k * 13 + 12 = o + k * 13 + 1 + 1 + 1 + 1 + 1 + 1 + 1 + 1 + 1 + 1 + 1 + 1 from rfl] at d12
        have hk0 : (0 : Int) ≤ (k : Int) := by omega
        have hk9 : (k : Int) < (args.length : Int) := by omega
        have hbr : base ≤ wr.heap.size := Nat.le_trans hbw HS6.out.k.size
        clear hqc hqc' hqi hqi' hq hmem hold hc
        go_wp2_with fail
        have hkq : Kept Kno wr (wr.alloc (.cells #[.int .i64 qo, .int .i64 qc, .int .i64 qlk, .int .i64 qli, .int .i64 qla, .int .i64 qlb, .string qlc, .int .i64 qrk, .int .i64 qri, .int .i64 qra, .int .i64 qrb, .string qrc, .slice A' n' cap'] 54)) := (Kept.refl _ _).alloc _
        refine (HC.out _ (own_kept HO6.out hkq (fun _ _ h => h)) (PIn.old (hkq.old (Nat.le_trans hB hbr) (fun _ _ h => h)) (Nat.le_refl _) _ _ HQI.out) (Nat.le_trans hbr hkq.size) HTL.out).mono ?_
        rintro e w7 ⟨A7, cap7, rfl, ho7, hs7⟩
        have HO7 := Lib.hid ho7
        have HS7 := Lib.hid ((HS6.out.then0 hkq).trans hs7)
        clear ho7 hs7 hkq d0 d1 d2 d3 d4 d5 d6 d7 d8 d9 d10 d11 d12
        go_wp2
        go_roundw
        case rel =>
          refine ⟨k + 1, A7, cap7, _, by omega, by go_num, by simp, ?_, HO7.out, HS7.out⟩
          have h2 : m6 = L ++ encPs (args.take k) := HM6.out
          simp only [HTK.out, h2, List.append_assoc]
        case measure => simp [intOf]; omega
      · have hk9 : ¬ (k : Int) < (args.length : Int) := by omega
        have he : m6 = L ++ encPs args := by have h2 : m6 = L ++ encPs (args.take k) := HM6.out; rw [List.take_of_length_le (by omega)] at h2; exact h2
        have hx : AppOk base (.slice A0 l.length cap0) (L ++ encPs args) w (.returned (.slice A6 m6.length cap6)) wr := by rw [← he]; exact ⟨A6, cap6, rfl, HO6.out, HS6.out⟩
        have HX := Lib.hid hx
        clear hx he
        go_wp2
        go_ret
        rw [HRES.out]
        exact HX.out

theorem xpredicate_any (p : Prd) (d base B : Nat) (b s : Value) (l : List UInt8) (w : World) (h : OwnB w base 5 b l) (hp : PIn w B p s) (hB : B ≤ base) (hb : base ≤ w.heap.size) (hf : fitP d p = true) (hl : l.length + (encP p).length ≤ 800000000000) :
    Calls Tryz.prog 207 #[b, p.v s] w (AppOk base b (l ++ encP p) w) := xpredicate_n (sizeP p) p (Nat.le_refl _) d base B b s l w h hp hB hb hf hl
theorem xpredicate_to {m : List UInt8} (p : Prd) {d base B : Nat} {b s : Value} {l : List UInt8} {w : World} (hm : m = l ++ encP p) (h : OwnB w base 5 b l) (hp : PIn w B p s) (hB : B ≤ base) (hb : base ≤ w.heap.size) (hf : fitP d p = true) (hl : l.length + (encP p).length ≤ 800000000000) :
    Calls Tryz.prog 207 #[b, p.v s] w (AppOk base b m w) := by subst hm; exact xpredicate_any p d base B b s l w h hp hB hb hf hl

end Go.Proofs.YtffdaohmalmkfaaGreat
