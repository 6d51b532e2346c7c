/-
  PacketOwns: ref05's valid and Check return. (Printed by gen_pakoh.py.)
-/
import Derived.Test.YtffdaohmalmkfaaGreatW21
set_option linter.unusedSimpArgs false
set_option linter.unusedVariables false
namespace Go.Proofs.YtffdaohmalmkfaaGreat
open Go.RowKit
set_option linter.unusedVariables false

set_option maxRecDepth 100000 in
set_option maxHeartbeats 8000000 in
theorem cvalid_n (us vs : Value) (ks ps : List Int) (B : Nat) (N : Nat) : ∀ (p : Prd), sizeP p ≤ N → ∀ (s : Value) (w : World), PIn w B p s → SlIn w B 1 us ks.length (ks.map iv) → SlIn w B 1 vs ps.length (ps.map iv) → B ≤ w.heap.size →
    Calls Tryz.prog 213 #[us, vs, p.v s] w (RetAny w) := by
  induction N with
  | zero => intro p hp; have := sizeP_pos p; omega
  | succ N IH =>
    intro p hsz s w hp hu hv hB
    obtain ⟨op, cmp, lo, ro, args⟩ := p
    simp only [sizeP] at hsz
    simp only [PIn] at hp
    obtain ⟨p1, p2, p3, p4, A, cap, rfl, hcap, hmax, -, hlow, hat⟩ := hp
    obtain ⟨uA, un, uc, rfl⟩ : ∃ A n c, us = .slice A n c := by obtain ⟨A, c, h, -⟩ := hu; exact ⟨_, _, _, h⟩
    obtain ⟨vA, vn, vc, rfl⟩ : ∃ A n c, vs = .slice A n c := by obtain ⟨A, c, h, -⟩ := hv; exact ⟨_, _, _, h⟩
    have HAT := Lib.hid hat
    have hmax' : cap ≤ 9223372036854775807 := by simpa only [maxLen] using hmax
    have HIH : Hid (∀ (p : Prd), p ∈ args → ∀ (s : Value) (w : World), PIn w B p s → SlIn w B 1 (.slice uA un uc) ks.length (ks.map iv) → SlIn w B 1 (.slice vA vn vc) ps.length (ps.map iv) → B ≤ w.heap.size → Calls Tryz.prog 213 #[.slice uA un uc, .slice vA vn vc, p.v s] w (RetAny w)) := Lib.hid (by
      intro p hpm
      have := sizePs_mem hpm
      exact IH p (by omega))
    obtain ⟨lk, li, ⟨la, lb, lc⟩⟩ := lo
    obtain ⟨rk, ri, ⟨ra, rb, rc⟩⟩ := ro
    have hTv : (Prd.mk op cmp ⟨lk, li, ⟨la, lb, lc⟩⟩ ⟨rk, ri, ⟨ra, rb, rc⟩⟩ args).v (.slice A args.length cap) = .agg #[.int .i64 op, .int .i64 cmp, .int .i64 lk, .int .i64 li, .int .i64 la, .int .i64 lb, .string lc, .int .i64 rk, .int .i64 ri, .int .i64 ra, .int .i64 rb, .string rc, .slice A args.length cap] := rfl
    rw [hTv]
    obtain ⟨wA, hA⟩ : ∃ wA, wA = w.alloc (.cells #[.int .i64 op, .int .i64 cmp, .int .i64 lk, .int .i64 li, .int .i64 la, .int .i64 lb, .string lc, .int .i64 rk, .int .i64 ri, .int .i64 ra, .int .i64 rb, .string rc, .slice A args.length cap] 54) := ⟨_, rfl⟩
    have HGA : Hid (Blk wA w.heap.size 54 #[.int .i64 op, .int .i64 cmp, .int .i64 lk, .int .i64 li, .int .i64 la, .int .i64 lb, .string lc, .int .i64 rk, .int .i64 ri, .int .i64 ra, .int .i64 rb, .string rc, .slice A args.length cap]) := Lib.hid (by rw [hA]; exact Blk.new _ _ _)
    have HKA : Hid (Kept Kno w wA) := Lib.hid (by rw [hA]; exact (Kept.refl _ _).alloc _)
    have HAe := Lib.hid hA
    have hBA : B ≤ wA.heap.size := Nat.le_trans hB HKA.out.size
    have hoA : Old B w wA := HKA.out.old hB (fun _ _ h => h)
    clear IH p1 p2 p3 p4 hat hlow hmax hsz hA hTv
    by_cases h1 : op = 1
    · subst h1
      have c0 : wA.cell? ⟨w.heap.size, 0, none⟩ = some (.int .i64 1) := HGA.out.cell 0
      go_enter Tryz.func213, Tryz.ntmps213
      go_upto_region 1 with (fail)
      rw [← HAe.out]
      go_wp2_with (refine wpList_load_row rfl 54 (.tmp 5) rfl w.heap.size rfl 54 _ (0, 0) _ HGA.out Tryz.underlying54 rfl (by kernel_rfl) ?_)
      refine (cplain_any _ _ _ _ _ _ _ _ _ _ _ _ _ _ _ wA).mono ?_
      rintro e w1 ⟨b, rfl, hk1⟩
      have HK1 := Lib.hid (HKA.out.then0 hk1)
      have HG1 := Lib.hid (HGA.out.kept hk1 (fun h => h))
      have c12 : w1.cell? ⟨w.heap.size, 12, none⟩ = some (.slice A args.length cap) := HG1.out.cell 12
      clear hk1
      cases b with
      | false =>
        go_wp2
        go_ret
        exact ⟨_, rfl, HK1.out⟩
      | true =>
        go_wp2
        go_ret
        exact ⟨_, rfl, HK1.out⟩
    have hb1 : (op == 1) = false := by simpa using h1
    by_cases h2 : op = 2
    · subst h2
      have c0 : wA.cell? ⟨w.heap.size, 0, none⟩ = some (.int .i64 2) := HGA.out.cell 0
      go_enter Tryz.func213, Tryz.ntmps213
      go_upto_region 1 with (fail)
      rw [← HAe.out]
      go_wp2_with (refine wpList_load_row rfl 54 (.tmp 5) rfl w.heap.size rfl 54 _ (0, 0) _ HGA.out Tryz.underlying54 rfl (by kernel_rfl) ?_)
      refine (cplain_any _ _ _ _ _ _ _ _ _ _ _ _ _ _ _ wA).mono ?_
      rintro e w1 ⟨b, rfl, hk1⟩
      have HK1 := Lib.hid (HKA.out.then0 hk1)
      have HG1 := Lib.hid (HGA.out.kept hk1 (fun h => h))
      have c12 : w1.cell? ⟨w.heap.size, 12, none⟩ = some (.slice A args.length cap) := HG1.out.cell 12
      clear hk1
      cases b with
      | false =>
        go_wp2
        go_ret
        exact ⟨_, rfl, HK1.out⟩
      | true =>
        go_wp2
        go_ret
        exact ⟨_, rfl, HK1.out⟩
    have hb2 : (op == 2) = false := by simpa using h2
    by_cases h3 : op = 3
    · subst h3
      have c0 : wA.cell? ⟨w.heap.size, 0, none⟩ = some (.int .i64 3) := HGA.out.cell 0
      have c1 : wA.cell? ⟨w.heap.size, 1, none⟩ = some (.int .i64 cmp) := HGA.out.cell 1
      have c2 : wA.cell? ⟨w.heap.size, 2, none⟩ = some (.int .i64 lk) := HGA.out.cell 2
      have c3 : wA.cell? ⟨w.heap.size, 3, none⟩ = some (.int .i64 li) := HGA.out.cell 3
      have c4 : wA.cell? ⟨w.heap.size, 4, none⟩ = some (.int .i64 la) := HGA.out.cell 4
      have c5 : wA.cell? ⟨w.heap.size, 5, none⟩ = some (.int .i64 lb) := HGA.out.cell 5
      have c6 : wA.cell? ⟨w.heap.size, 6, none⟩ = some (.string lc) := HGA.out.cell 6
      go_enter Tryz.func213, Tryz.ntmps213
      go_upto_region 1 with (fail)
      rw [← HAe.out]
      go_wp2_with fail
      refine (ckindOf_any _ _ ks ps lk li la lb lc B wA (hu.old hoA (Nat.le_refl _)) (hv.old hoA (Nat.le_refl _)) hBA).mono ?_
      rintro e w1 ⟨k, rfl, hk1⟩
      have HK1 := Lib.hid (HKA.out.then0 hk1)
      have HG1 := Lib.hid (HGA.out.kept hk1 (fun h => h))
      have HO1 : Hid (Old B w w1) := Lib.hid (HK1.out.old hB (fun _ _ h => h))
      have HB1 : Hid (B ≤ w1.heap.size) := Lib.hid (Nat.le_trans hB HK1.out.size)
      clear hk1 c0 c1 c2 c3 c4 c5 c6
      have c1 : w1.cell? ⟨w.heap.size, 1, none⟩ = some (.int .i64 cmp) := HG1.out.cell 1
      have c7 : w1.cell? ⟨w.heap.size, 7, none⟩ = some (.int .i64 rk) := HG1.out.cell 7
      have c8 : w1.cell? ⟨w.heap.size, 8, none⟩ = some (.int .i64 ri) := HG1.out.cell 8
      have c9 : w1.cell? ⟨w.heap.size, 9, none⟩ = some (.int .i64 ra) := HG1.out.cell 9
      have c10 : w1.cell? ⟨w.heap.size, 10, none⟩ = some (.int .i64 rb) := HG1.out.cell 10
      have c11 : w1.cell? ⟨w.heap.size, 11, none⟩ = some (.string rc) := HG1.out.cell 11
      have c12 : w1.cell? ⟨w.heap.size, 12, none⟩ = some (.slice A args.length cap) := HG1.out.cell 12
      by_cases hl : args.length = 0
      rotate_left
      · have hlb : ((args.length : Int) == 0) = false := by rw [beq_eq_false_iff_ne]; omega
        have hlI : ¬ (args.length : Int) = 0 := by omega
        go_wp2
        go_ret
        exact ⟨_, rfl, HK1.out⟩
      have hlI : (args.length : Int) = 0 := by omega
      by_cases hc1 : 1 ≤ cmp
      rotate_left
      · have hc1b : decide (1 ≤ cmp) = false := by simpa using hc1
        go_wp2
        go_ret
        exact ⟨_, rfl, HK1.out⟩
      by_cases hc2 : cmp ≤ 6
      rotate_left
      · have hc2b : decide (cmp ≤ 6) = false := by simpa using hc2
        go_wp2
        go_ret
        exact ⟨_, rfl, HK1.out⟩
      by_cases hk0 : k = 0
      · subst hk0
        go_wp2
        go_ret
        exact ⟨_, rfl, HK1.out⟩
      have hkb : (k == 0) = false := by simpa using hk0
      go_wp2_with fail
      refine (ckindOf_any _ _ ks ps rk ri ra rb rc B w1 (hu.old HO1.out (Nat.le_refl _)) (hv.old HO1.out (Nat.le_refl _)) HB1.out).mono ?_
      rintro e w2 ⟨k2, rfl, hk2⟩
      have HK2 := Lib.hid (HK1.out.then0 hk2)
      clear hk2 c1 c7 c8 c9 c10 c11 c12
      go_wp2
      go_ret
      exact ⟨_, rfl, HK2.out⟩
    have hb3 : (op == 3) = false := by simpa using h3
    by_cases h4 : op = 4
    · subst h4
      have c0 : wA.cell? ⟨w.heap.size, 0, none⟩ = some (.int .i64 4) := HGA.out.cell 0
      go_enter Tryz.func213, Tryz.ntmps213
      go_upto_region 1 with (fail)
      rw [← HAe.out]
      go_wp2_with (refine wpList_load_row rfl 54 (.tmp 5) rfl w.heap.size rfl 54 _ (0, 0) _ HGA.out Tryz.underlying54 rfl (by kernel_rfl) ?_)
      refine (cplain_any _ _ _ _ _ _ _ _ _ _ _ _ _ _ _ wA).mono ?_
      rintro e w1 ⟨b, rfl, hk1⟩
      have HK1 := Lib.hid (HKA.out.then0 hk1)
      have HG1 := Lib.hid (HGA.out.kept hk1 (fun h => h))
      have c12 : w1.cell? ⟨w.heap.size, 12, none⟩ = some (.slice A args.length cap) := HG1.out.cell 12
      clear hk1
      cases b with
      | false =>
        go_wp2
        go_ret
        exact ⟨_, rfl, HK1.out⟩
      | true =>
        go_wp2_with fail
        clear c12
        go_loopw [71] (fun i wr => IRel args.length w1 i wr) (fun i _ => args.length - (intOf i).toNat)
        case atStart => exact ⟨0, Nat.zero_le _, rfl, Kept.refl _ _⟩
        case round =>
          obtain ⟨k, hk, rfl, hkk⟩ := hrel
          have HKA2 := Lib.hid hkk
          have HKK := Lib.hid (HK1.out.then0 hkk)
          have c12 : wr.cell? ⟨w.heap.size, 12, none⟩ = some (.slice A args.length cap) := (HG1.out.kept HKA2.out (fun h => h)).cell 12
          clear hkk
          by_cases hlt : k < args.length
          · obtain ⟨g, o, rfl, hgB, hc⟩ := HAT.out (by omega)
            have hold : Old B w wr := HKK.out.old (by omega) (fun _ _ h => h)
            obtain ⟨q, hq⟩ : ∃ q, args[k]? = some q := ⟨_, List.getElem?_eq_getElem hlt⟩
            obtain ⟨sq, hqi, hqc⟩ := hc.get hq
            have HQC := Lib.hid (hqc.old hgB hold)
            have HI : Hid ((Tryz.prog.info? 54).map (·.size) = some (q.cells sq).length) := Lib.hid (by rw [q.cells_length sq]; kernel_rfl)
            have HQV : Hid (q.v sq = .agg (q.cells sq).toArray) := Lib.hid (q.v_cells sq)
            have HBR : B ≤ wr.heap.size := Nat.le_trans hB HKK.out.size
            have HCC := Lib.hid (HIH.out q (List.mem_of_getElem? hq) sq wr (PIn.old hold (Nat.le_refl _) _ _ hqi) (hu.old hold (Nat.le_refl _)) (hv.old hold (Nat.le_refl _)) HBR)
            clear hqc hqi hq hold hc
            have hk0 : (0 : Int) ≤ (k : Int) := by omega
            have hk9 : (k : Int) < (args.length : Int) := by omega
            go_wp2_with (refine wpList_load_at rfl 54 (.tmp 79) rfl g (o + k * 13) (q.cells sq) _ rfl HQC.out Tryz.underlying54 rfl HI.out ?_)
            rw [← HQV.out]
            refine HCC.out.mono ?_
            rintro e w6 ⟨b, rfl, hk6⟩
            have HK6 := Lib.hid (HKA2.out.then0 hk6)
            have HK7 := Lib.hid (HKK.out.then0 hk6)
            clear hk6
            cases b with
            | false =>
              go_wp2
              go_ret
              exact ⟨_, rfl, HK7.out⟩
            | true =>
              go_wp2
              go_roundw
              case rel => exact ⟨k + 1, hlt, by go_num, HK6.out⟩
              case measure => simp [intOf]; omega
          · have hkI : ¬ (k : Int) < (args.length : Int) := by omega
            go_wp2
            go_ret
            exact ⟨_, rfl, HKK.out⟩
    have hb4 : (op == 4) = false := by simpa using h4
    by_cases h5 : op = 5
    · subst h5
      have c0 : wA.cell? ⟨w.heap.size, 0, none⟩ = some (.int .i64 5) := HGA.out.cell 0
      go_enter Tryz.func213, Tryz.ntmps213
      go_upto_region 1 with (fail)
      rw [← HAe.out]
      go_wp2_with (refine wpList_load_row rfl 54 (.tmp 5) rfl w.heap.size rfl 54 _ (0, 0) _ HGA.out Tryz.underlying54 rfl (by kernel_rfl) ?_)
      refine (cplain_any _ _ _ _ _ _ _ _ _ _ _ _ _ _ _ wA).mono ?_
      rintro e w1 ⟨b, rfl, hk1⟩
      have HK1 := Lib.hid (HKA.out.then0 hk1)
      have HG1 := Lib.hid (HGA.out.kept hk1 (fun h => h))
      have c12 : w1.cell? ⟨w.heap.size, 12, none⟩ = some (.slice A args.length cap) := HG1.out.cell 12
      clear hk1
      cases b with
      | false =>
        go_wp2
        go_ret
        exact ⟨_, rfl, HK1.out⟩
      | true =>
        go_wp2_with fail
        clear c12
        go_loopw [71] (fun i wr => IRel args.length w1 i wr) (fun i _ => args.length - (intOf i).toNat)
        case atStart => exact ⟨0, Nat.zero_le _, rfl, Kept.refl _ _⟩
        case round =>
          obtain ⟨k, hk, rfl, hkk⟩ := hrel
          have HKA2 := Lib.hid hkk
          have HKK := Lib.hid (HK1.out.then0 hkk)
          have c12 : wr.cell? ⟨w.heap.size, 12, none⟩ = some (.slice A args.length cap) := (HG1.out.kept HKA2.out (fun h => h)).cell 12
          clear hkk
          by_cases hlt : k < args.length
          · obtain ⟨g, o, rfl, hgB, hc⟩ := HAT.out (by omega)
            have hold : Old B w wr := HKK.out.old (by omega) (fun _ _ h => h)
            obtain ⟨q, hq⟩ : ∃ q, args[k]? = some q := ⟨_, List.getElem?_eq_getElem hlt⟩
            obtain ⟨sq, hqi, hqc⟩ := hc.get hq
            have HQC := Lib.hid (hqc.old hgB hold)
            have HI : Hid ((Tryz.prog.info? 54).map (·.size) = some (q.cells sq).length) := Lib.hid (by rw [q.cells_length sq]; kernel_rfl)
            have HQV : Hid (q.v sq = .agg (q.cells sq).toArray) := Lib.hid (q.v_cells sq)
            have HBR : B ≤ wr.heap.size := Nat.le_trans hB HKK.out.size
            have HCC := Lib.hid (HIH.out q (List.mem_of_getElem? hq) sq wr (PIn.old hold (Nat.le_refl _) _ _ hqi) (hu.old hold (Nat.le_refl _)) (hv.old hold (Nat.le_refl _)) HBR)
            clear hqc hqi hq hold hc
            have hk0 : (0 : Int) ≤ (k : Int) := by omega
            have hk9 : (k : Int) < (args.length : Int) := by omega
            go_wp2_with (refine wpList_load_at rfl 54 (.tmp 79) rfl g (o + k * 13) (q.cells sq) _ rfl HQC.out Tryz.underlying54 rfl HI.out ?_)
            rw [← HQV.out]
            refine HCC.out.mono ?_
            rintro e w6 ⟨b, rfl, hk6⟩
            have HK6 := Lib.hid (HKA2.out.then0 hk6)
            have HK7 := Lib.hid (HKK.out.then0 hk6)
            clear hk6
            cases b with
            | false =>
              go_wp2
              go_ret
              exact ⟨_, rfl, HK7.out⟩
            | true =>
              go_wp2
              go_roundw
              case rel => exact ⟨k + 1, hlt, by go_num, HK6.out⟩
              case measure => simp [intOf]; omega
          · have hkI : ¬ (k : Int) < (args.length : Int) := by omega
            go_wp2
            go_ret
            exact ⟨_, rfl, HKK.out⟩
    have hb5 : (op == 5) = false := by simpa using h5
    by_cases h6 : op = 6
    · subst h6
      have c0 : wA.cell? ⟨w.heap.size, 0, none⟩ = some (.int .i64 6) := HGA.out.cell 0
      have c12 : wA.cell? ⟨w.heap.size, 12, none⟩ = some (.slice A args.length cap) := HGA.out.cell 12
      by_cases hone : args.length = 1
      rotate_left
      · have honeb : ((args.length : Int) == 1) = false := by rw [beq_eq_false_iff_ne]; omega
        have honeI : ¬ (args.length : Int) = 1 := by omega
        go_enter Tryz.func213, Tryz.ntmps213
        go_upto_region 1 with (fail)
        rw [← HAe.out]
        go_wp2
        go_ret
        exact ⟨_, rfl, HKA.out⟩
      have honeb : ((args.length : Int) == 1) = true := by rw [hone]; rfl
      have HONE := Lib.hid hone
      clear hone
      go_enter Tryz.func213, Tryz.ntmps213
      go_upto_region 1 with (fail)
      rw [← HAe.out]
      go_wp2_with (refine wpList_load_row rfl 54 (.tmp 5) rfl w.heap.size rfl 54 _ (0, 0) _ HGA.out Tryz.underlying54 rfl (by kernel_rfl) ?_)
      refine (cplain_any _ _ _ _ _ _ _ _ _ _ _ _ _ _ _ wA).mono ?_
      rintro e w1 ⟨b, rfl, hk1⟩
      have HK1 := Lib.hid (HKA.out.then0 hk1)
      have HG1 := Lib.hid (HGA.out.kept hk1 (fun h => h))
      clear c12
      have c12 : w1.cell? ⟨w.heap.size, 12, none⟩ = some (.slice A args.length cap) := HG1.out.cell 12
      clear hk1
      cases b with
      | false =>
        go_wp2
        go_ret
        exact ⟨_, rfl, HK1.out⟩
      | true =>
        go_wp2_with fail
        clear c12
        go_loopw [71] (fun i wr => IRel args.length w1 i wr) (fun i _ => args.length - (intOf i).toNat)
        case atStart => exact ⟨0, Nat.zero_le _, rfl, Kept.refl _ _⟩
        case round =>
          obtain ⟨k, hk, rfl, hkk⟩ := hrel
          have HKA2 := Lib.hid hkk
          have HKK := Lib.hid (HK1.out.then0 hkk)
          have c12 : wr.cell? ⟨w.heap.size, 12, none⟩ = some (.slice A args.length cap) := (HG1.out.kept HKA2.out (fun h => h)).cell 12
          clear hkk
          by_cases hlt : k < args.length
          · obtain ⟨g, o, rfl, hgB, hc⟩ := HAT.out (by omega)
            have hold : Old B w wr := HKK.out.old (by omega) (fun _ _ h => h)
            obtain ⟨q, hq⟩ : ∃ q, args[k]? = some q := ⟨_, List.getElem?_eq_getElem hlt⟩
            obtain ⟨sq, hqi, hqc⟩ := hc.get hq
            have HQC := Lib.hid (hqc.old hgB hold)
            have HI : Hid ((Tryz.prog.info? 54).map (·.size) = some (q.cells sq).length) := Lib.hid (by rw [q.cells_length sq]; kernel_rfl)
            have HQV : Hid (q.v sq = .agg (q.cells sq).toArray) := Lib.hid (q.v_cells sq)
            have HBR : B ≤ wr.heap.size := Nat.le_trans hB HKK.out.size
            have HCC := Lib.hid (HIH.out q (List.mem_of_getElem? hq) sq wr (PIn.old hold (Nat.le_refl _) _ _ hqi) (hu.old hold (Nat.le_refl _)) (hv.old hold (Nat.le_refl _)) HBR)
            clear hqc hqi hq hold hc
            have hk0 : (0 : Int) ≤ (k : Int) := by omega
            have hk9 : (k : Int) < (args.length : Int) := by omega
            go_wp2_with (refine wpList_load_at rfl 54 (.tmp 79) rfl g (o + k * 13) (q.cells sq) _ rfl HQC.out Tryz.underlying54 rfl HI.out ?_)
            rw [← HQV.out]
            refine HCC.out.mono ?_
            rintro e w6 ⟨b, rfl, hk6⟩
            have HK6 := Lib.hid (HKA2.out.then0 hk6)
            have HK7 := Lib.hid (HKK.out.then0 hk6)
            clear hk6
            cases b with
            | false =>
              go_wp2
              go_ret
              exact ⟨_, rfl, HK7.out⟩
            | true =>
              go_wp2
              go_roundw
              case rel => exact ⟨k + 1, hlt, by go_num, HK6.out⟩
              case measure => simp [intOf]; omega
          · have hkI : ¬ (k : Int) < (args.length : Int) := by omega
            go_wp2
            go_ret
            exact ⟨_, rfl, HKK.out⟩
    have hb6 : (op == 6) = false := by simpa using h6
    have c0 : wA.cell? ⟨w.heap.size, 0, none⟩ = some (.int .i64 op) := HGA.out.cell 0
    go_enter Tryz.func213, Tryz.ntmps213
    go_upto_region 1 with (fail)
    rw [← HAe.out]
    go_wp2
    go_ret
    exact ⟨_, rfl, HKA.out⟩

set_option maxRecDepth 100000 in
set_option maxHeartbeats 4000000 in
theorem ccheck_any (us vs : Value) (ks ps : List Int) (B : Nat) (p : Prd) (s : Value) (w : World) (hp : PIn w B p s) (hu : SlIn w B 1 us ks.length (ks.map iv)) (hv : SlIn w B 1 vs ps.length (ps.map iv)) (hB : B ≤ w.heap.size) :
    Calls Tryz.prog 122 #[us, vs, p.v s] w (RetI w) := by
  obtain ⟨uA, un, uc, rfl⟩ : ∃ A n c, us = .slice A n c := by obtain ⟨A, c, h, -⟩ := hu; exact ⟨_, _, _, h⟩
  obtain ⟨vA, vn, vc, rfl⟩ : ∃ A n c, vs = .slice A n c := by obtain ⟨A, c, h, -⟩ := hv; exact ⟨_, _, _, h⟩
  have HI2 : Hid ((Tryz.prog.info? 54).map (·.size) = some (p.cells s).toArray.size) := Lib.hid (by rw [List.size_toArray, p.cells_length s]; kernel_rfl)
  have HQV : Hid (p.v s = .agg (p.cells s).toArray) := Lib.hid (p.v_cells s)
  rw [HQV.out]
  obtain ⟨w0, h0⟩ : ∃ w0, w.alloc (.cells (p.cells s).toArray 54) = w0 := ⟨_, rfl⟩
  have HG0 : Hid (Blk w0 w.heap.size 54 (p.cells s).toArray) := Lib.hid (by rw [← h0]; exact Blk.new _ _ _)
  have HK0 : Hid (Kept Kno w w0) := Lib.hid (by rw [← h0]; exact (Kept.refl _ _).alloc _)
  have HE := Lib.hid h0
  have HP : Hid (∀ w', Kept Kno w w' → PIn w' B p s ∧ SlIn w' B 1 (.slice uA un uc) ks.length (ks.map iv) ∧ SlIn w' B 1 (.slice vA vn vc) ps.length (ps.map iv) ∧ B ≤ w'.heap.size) := Lib.hid (fun w' hk => by
    have ho : Old B w w' := hk.old hB (fun _ _ h => h)
    exact ⟨PIn.old ho (Nat.le_refl _) _ _ hp, hu.old ho (Nat.le_refl _), hv.old ho (Nat.le_refl _), Nat.le_trans hB hk.size⟩)
  clear h0 hp hu hv
  go_enter Tryz.func122, Tryz.ntmps122
  go_upto_region 1 with (fail)
  rw [HE.out]
  go_wp2_with fail
  refine (ckinds_any _ ks B w0 (HP.out w0 HK0.out).2.1 (HP.out w0 HK0.out).2.2.2).mono ?_
  rintro e w1 ⟨b, rfl, hk1⟩
  have HG1 := Lib.hid (HG0.out.kept hk1 (fun h => h))
  have HK1 := Lib.hid (HK0.out.then0 hk1)
  clear hk1
  cases b with
  | false =>
    go_wp2
    go_ret
    exact ⟨_, rfl, HK1.out⟩
  | true =>
    go_wp2_with fail
    refine (ckinds_any _ ps B w1 (HP.out w1 HK1.out).2.2.1 (HP.out w1 HK1.out).2.2.2).mono ?_
    rintro e w2 ⟨b, rfl, hk2⟩
    have HG2 := Lib.hid (HG1.out.kept hk2 (fun h => h))
    have HK2 := Lib.hid (HK1.out.then0 hk2)
    clear hk2
    cases b with
    | false =>
      go_wp2
      go_ret
      exact ⟨_, rfl, HK2.out⟩
    | true =>
      have HN := Lib.hid (cnodes_n (sizeP p) p (Nat.le_refl _) 0 B s w2 (HP.out w2 HK2.out).1 (HP.out w2 HK2.out).2.2.2 (by decide))
      go_wp2_with (refine wpList_load_row rfl 54 (.tmp 5) rfl w.heap.size rfl 54 (p.cells s).toArray (0, 0) _ HG2.out Tryz.underlying54 rfl HI2.out ?_)
      rw [← HQV.out]
      refine HN.out.mono ?_
      rintro e w3 ⟨m, hm1, hm2, rfl, hk3⟩
      have HG3 := Lib.hid (HG2.out.kept hk3 (fun h => h))
      have HK3 := Lib.hid (HK2.out.then0 hk3)
      clear hk3 HN
      by_cases hm : 24 < m
      · have hmI : (24 : Int) < (m : Int) := by omega
        go_wp2
        go_ret
        exact ⟨_, rfl, HK3.out⟩
      have hmI : ¬ (24 : Int) < (m : Int) := by omega
      have hmb : decide ((24 : Int) < (m : Int)) = false := decide_eq_false hmI
      have HD := Lib.hid (cdeeper_n (sizeP p) p (Nat.le_refl _) 8 B s w3 (HP.out w3 HK3.out).1 (HP.out w3 HK3.out).2.2.2 (by decide))
      go_wp2_with (refine wpList_load_rowW rfl 54 (.tmp 5) rfl w.heap.size rfl 54 (p.cells s).toArray (0, 0) _ HG3.out Tryz.underlying54 rfl HI2.out ?_)
      rw [← HQV.out]
      refine HD.out.mono ?_
      rintro e w4 ⟨b, rfl, hk4⟩
      have HG4 := Lib.hid (HG3.out.kept hk4 (fun h => h))
      have HK4 := Lib.hid (HK3.out.then0 hk4)
      clear hk4 HD
      cases b with
      | true =>
        go_wp2
        go_ret
        exact ⟨_, rfl, HK4.out⟩
      | false =>
        have HV := Lib.hid (cvalid_n (.slice uA un uc) (.slice vA vn vc) ks ps B (sizeP p) p (Nat.le_refl _) s w4 (HP.out w4 HK4.out).1 (HP.out w4 HK4.out).2.1 (HP.out w4 HK4.out).2.2.1 (HP.out w4 HK4.out).2.2.2)
        go_wp2_with (refine wpList_load_row rfl 54 (.tmp 5) rfl w.heap.size rfl 54 (p.cells s).toArray (0, 0) _ HG4.out Tryz.underlying54 rfl HI2.out ?_)
        rw [← HQV.out]
        refine HV.out.mono ?_
        rintro e w5 ⟨b, rfl, hk5⟩
        have HK5 := Lib.hid (HK4.out.then0 hk5)
        clear hk5 HV
        cases b with
        | true =>
          go_wp2
          go_ret
          exact ⟨_, rfl, HK5.out⟩
        | false =>
          go_wp2
          go_ret
          exact ⟨_, rfl, HK5.out⟩

end Go.Proofs.YtffdaohmalmkfaaGreat
