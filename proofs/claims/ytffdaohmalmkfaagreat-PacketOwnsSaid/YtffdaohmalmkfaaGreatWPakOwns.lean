/-
  PacketOwns: the walk.
-/
import Derived.Test.YtffdaohmalmkfaaGreatW52
set_option linter.unusedSimpArgs false
set_option linter.unusedVariables false
namespace Go.Proofs.YtffdaohmalmkfaaGreat
open Go.RowKit
set_option linter.unusedVariables false

/-- The parts that are gathered. -/
def gotten (x : Dl) (np k : Nat) : List (List Ed) := (List.range k).map (fun i => (partOf x np i).edits)
def head0 (x : Dl) (n : Int) : Dl := ⟨x.dev, x.round, x.from_, x.to_, x.kept, x.dec, 0, n, []⟩
theorem old_erase {S : Nat → Bool} {w w' : World} (hk : Kept (fun j => w.heap.size ≤ j) w w') (hS : ∀ j, S j = true → w.heap.size ≤ j) : Old w.heap.size w (erase S w') := fun k hk' => by
  have hs : S k = false := by
    cases h : S k with
    | false => rfl
    | true => have := hS k h; omega
  rw [erase_get hs]
  exact hk.block k hk' (by omega)
theorem gotten_flat (x : Dl) (np k : Nat) : (gotten x np k).flatten = x.edits.take (32 * k) := chunks x.edits k
theorem gotten_next (x : Dl) (np k : Nat) : gotten x np (k + 1) = gotten x np k ++ [(partOf x np k).edits] := by
  unfold gotten
  rw [List.range_succ, List.map_append]
  rfl
theorem map_ne_blk {w : World} {b g : Nat} {ss : List Value} {t : TypeId} {cs : Array Value} (h : MapIs w b ss) (hb : Blk w g t cs) : b ≠ g := by
  rintro rfl
  obtain ⟨es, clock, h1, -⟩ := h
  unfold Blk at hb
  rw [h1] at hb
  cases hb
/-- Between two parts: C the collector, XB the law's x. -/
def OwnRel (x : Dl) (np B0 C XB : Nat) (wS : World) (ok i : Value) (wr : World) : Prop :=
  ∃ (k : Nat) (S : Nat → Bool) (b : Nat), k ≤ np ∧ i = .int .i64 k ∧ Kept (fun j => B0 ≤ j) wS wr ∧ S C = true ∧ S XB = true ∧ (∀ j, S j = true → B0 ≤ j ∧ j < wr.heap.size) ∧ C < wr.heap.size ∧
    ((k < np ∧ ok = .bool false ∧ Blk wr XB 36 dltZ ∧ ((k = 0 ∧ Blk wr C 142 cltZ) ∨ (0 < k ∧ ColIs S wr C b (head0 x np) (gotten x np k)))) ∨
     (k = np ∧ ok = .bool true ∧ ∃ kv A c, Blk wr XB 36 (dltC (head0 x 1) kv (.slice A x.edits.length c)) ∧ EdsIn (erase S wr) wr.heap.size (.slice A x.edits.length c) x.edits))
def In2 (x : Dl) (np P lo base : Nat) (kk : Value) (pe : List Ed) (S : Nat → Bool) (w : World) (i : Value) (wr : World) : Prop :=
  ∃ (j : Nat) (A : Option Addr) (c : Nat) (qs : List (Ed × List Value)), j ≤ pe.length ∧ i = .int .i64 j ∧ qs.map (·.1) = pe.take j ∧ LOut EdQ 73 5 S base wr A c qs ∧ (∀ q ∈ qs, KeyAt wr lo q.2) ∧ Blk wr P 36 (dltC x kk (.slice A qs.length c)) ∧ Kept (Kone P) w wr
def In3 (x : Dl) (P lo hi base m c : Nat) (A : Option Addr) (kk : Value) (qs : List (Ed × List Value)) (w : World) (i : Value) (wr : World) : Prop :=
  ∃ j : Nat, j ≤ m ∧ i = .int .i64 j ∧ Blk wr P 36 (dltC x kk (.slice A m c)) ∧ OwnL wr base 73 5 (.slice A m c) qs ∧ (∀ q ∈ qs, KeyAt wr lo q.2) ∧ Kept (fun k => lo ≤ k ∧ k < hi) w wr

set_option maxRecDepth 100000 in
set_option maxHeartbeats 2000000 in
theorem owns_any (v : Value) (l : List UInt8) (nb : Int) (w : World) (h : Bs w v l) (hl : l.length ≤ maxLen) (hn0 : 0 ≤ nb) (hn1 : nb < 256) :
    Calls Tryz.prog 6 #[v, .int .u8 nb] w (RetBool true w) := by
  obtain ⟨i0, hi0, z00, z01, z02⟩ := info_parts info_edit
  obtain ⟨i1, hi1, z10, z11, z12⟩ := info_parts info_val
  obtain ⟨N, hN, hN60⟩ : ∃ N : Nat, nb % 60 = (N : Int) ∧ N < 60 := ⟨(nb % 60).toNat, by omega, by omega⟩
  have hNt : nb.tmod 60 = (N : Int) := by rw [Int.tmod_eq_emod_of_nonneg hn0]; exact hN
  have HB := Lib.hid h
  have HL := Lib.hid hl
  obtain ⟨cA, ccap, rfl, -⟩ := h
  clear hl hN
  go_enter Tryz.func6, Tryz.ntmps6
  go_wp2_with fail
  refine (newCase4_any _ l w HB.out HL.out).mono ?_
  rintro e w1 ⟨K, cv, cl, rfl, hcase, hKw, hk1⟩
  have HC1 := Lib.hid hcase
  have HK1 := Lib.hid hk1
  have hK1 : K < w1.heap.size := hcase.blk.lt
  clear hcase hk1
  have hNe : (33 : Int) + (N : Int) = ((33 + N : Nat) : Int) := by omega
  have HNE := Lib.hid hNe
  clear hNe
  have hN0 : (0 : Int) ≤ (N : Int) := by omega
  have hN1 : (N : Int) < 60 := by omega
  go_wp2_with fail
  try rw [HNE.out]
  refine (made_any (fun k => k == K) K cv cl (33 + N) w1 ⟨0, HC1.out⟩ (by simp) (fun k hk => by simp only [beq_iff_eq] at hk; omega) (by omega)).mono ?_
  rintro e w2 ⟨x, kd, mA, mc, rfl, hok, hpt, hpts, hlen, hkd, hed, hg2⟩
  obtain ⟨q, hq⟩ : ∃ q, 33 + N = q := ⟨_, rfl⟩
  have hq33 : 33 ≤ q := by omega
  have hq92 : q ≤ 92 := by omega
  rw [hq] at hed hlen ⊢
  obtain ⟨kA, kc, rfl⟩ := IIn.form hkd
  have HOK := Lib.hid hok
  have HPT := Lib.hid hpt
  have HPTS := Lib.hid hpts
  have HLEN := Lib.hid hlen
  have HKD2 := Lib.hid hkd.plain
  have HED2 := Lib.hid hed.plain
  have HK2 := Lib.hid (show Kept Kno w w2 from HK1.out.trans hg2.2 (fun k hk e => by unfold Kone at e; omega))
  clear hok hpt hpts hlen hkd hed hg2 hNt hN60 hN0 hN1 HNE hq
  go_upto_region 3 with (first
    | (refine wpList_store_new rfl 36 (.tmp 6) (.tmp 25) rfl _ (dltC x (.slice kA x.kept.length kc) (.slice mA q mc)) rfl rfl (size_dlt _ _ _) rfl (dlt_one _ _ _ rfl rfl) ?_))
  try simp only [Act.put]
  obtain ⟨w3, hw3⟩ : ∃ y, w2.alloc (.cells (dltC x (.slice kA x.kept.length kc) (.slice mA q mc)) 36) = y := ⟨_, rfl⟩
  have hk23 : Kept Kno w2 w3 := by rw [← hw3]; exact (Kept.refl _ _).alloc _
  obtain ⟨M, hM⟩ : ∃ n, w2.heap.size = n := ⟨_, rfl⟩
  have hbm : Blk w3 M 36 (dltC x (.slice kA x.kept.length kc) (.slice mA q mc)) := by rw [← hw3, ← hM]; exact Blk.new _ _ _
  have HBM := Lib.hid hbm
  have HK3 := Lib.hid (HK2.out.then0 hk23)
  have HKD3 := Lib.hid (HKD2.out.keep0 (Nat.le_refl _) hk23)
  have HED3 := Lib.hid (HED2.out.keep0 (Nat.le_refl _) hk23)
  have hs23 : w2.heap.size ≤ w3.heap.size := hk23.size
  have m14 : w3.cell? ⟨M, 14, none⟩ = some (.slice mA q mc) := hbm.cell 14
  rw [hw3, hM]
  rw [hM] at HKD3 HED3 hs23
  clear hw3 hk23 hM hbm HKD2 HED2 HK2
  obtain ⟨qs, hqs, hqq, hqr⟩ := LyIn.rd (show LyIn M (.slice mA q mc) x.edits.length (AtL w3 5 (EdQ w3 M) x.edits) from HED3.out) rfl (by decide)
  have hql : qs.length = q := by rw [← HLEN.out, ← hqs, List.length_map]
  rw [HLEN.out] at hqr
  have HQS := Lib.hid hqs
  have HQQ := Lib.hid hqq
  have HQR := Lib.hid hqr
  have HQL := Lib.hid hql
  have HQ1 := Lib.hid (flat_one hqq (fun x cs h => ed_one h))
  clear hqs hqq hqr hql
  have m1 : 0 + q ≤ maxLen := by simp only [maxLen]; omega
  go_upto_region 4 with (at_builtin; go_must (refine wpList_append_rd _ rfl _ _ 25 rfl w3.heap.size 73 i0 _ 5 88 Tryz.underlying25 hi0 z00 z01 z02 rfl (by decide) (.slice none 0 0) 0 [] rfl (World.ownsRow_nil _ _ _ _) (.slice mA q mc) q (qs.map (·.2)).flatten rfl HQR.out HQ1.out m1 (by omega) (Nat.le_refl _) ?_); intro A4 c4 w4 hown4 hg4 hat4)
  rw [Nat.zero_add] at hown4
  simp only [Nat.zero_add, List.nil_append] at hown4 ⊢
  have hk34 : Kept Kno w3 w4 := (Kept.refl _ _).grown hg4 (fun k hk e => by cases e)
  have HWANT : Hid (EdsIn w4 w4.heap.size (.slice A4 q c4) x.edits) := Lib.hid (by
    have hO : OwnL w4 w3.heap.size 73 5 (.slice A4 q c4) qs := ⟨by rw [HQL.out]; exact hown4, fun p hp => (HQQ.out p hp).1⟩
    have := OwnL.ly0 (Q := EdQ w4 w4.heap.size) hO HQL.out.symm (fun p hp => clo_ed.old (hk34.old (B := M) hs23 (fun _ _ h => h)) (Nat.le_trans hs23 hk34.size) (HQQ.out p hp).2)
    rw [HQS.out] at this
    unfold EdsIn
    rw [HLEN.out]
    exact this)
  have HK4 := Lib.hid (HK3.out.then0 hk34)
  have HBM4 := Lib.hid (HBM.out.kept hk34 (fun h => h))
  have HKD4 := Lib.hid (HKD3.out.keep0 hs23 hk34)
  have HED4 := Lib.hid (HED3.out.keep0 hs23 hk34)
  have hs24 : M ≤ w4.heap.size := Nat.le_trans hs23 hk34.size
  clear hown4 hg4 hat4 hk34 m14 HBM HKD3 HED3 HK3 HQS HQQ HQR HQL HQ1 m1
  go_wp2_with (first
    | (refine wpList_load_row rfl 36 (.tmp 6) rfl M rfl 36 (dltC x (.slice kA x.kept.length kc) (.slice mA q mc)) (0, 0) _ HBM4.out Tryz.underlying36 rfl (size_dlt _ _ _) ?_))
  refine (split_any x M _ _ w4 HKD4.out HED4.out hs24 HOK.out HPT.out HPTS.out (by rw [HLEN.out]; omega) (by rw [HLEN.out]; omega)).mono ?_
  rintro e wS ⟨sA, sc, np, hnp, rfl, hly, hk5⟩
  rw [HLEN.out] at hnp
  have HK5 := Lib.hid (HK4.out.then0 hk5)
  have HLY := Lib.hid hly
  have HWS := Lib.hid (HWANT.out.keep0 (Nat.le_refl _) hk5)
  have hsS : w4.heap.size ≤ wS.heap.size := hk5.size
  have hnp2 : 2 ≤ np := by omega
  have hnp3 : np ≤ 3 := by omega
  have hq32 : q ≤ 32 * np := by omega
  obtain ⟨sA', sc', he, hsc, hscm, -, -, hat⟩ := hly
  simp only [Value.slice.injEq, true_and] at he
  obtain ⟨rfl, rfl⟩ := he
  obtain ⟨gp, op, rfl, hgp, hat⟩ := hat (by omega)
  have HAT := Lib.hid hat
  have hscm' : sc ≤ 9223372036854775807 := by simpa only [maxLen] using hscm
  clear hk5 hnp hat hscm HBM4 HKD4 HED4 HWANT HK4
  go_wp2_with fail
  refine (newCol_any wS).mono ?_
  rintro e w6 ⟨C, rfl, hCS, hcz, hk6⟩
  have HCZ := Lib.hid hcz
  have HK6 := Lib.hid hk6
  have hC6 : C < w6.heap.size := hcz.lt
  clear hcz hk6
  go_upto_region 11 with (fail)
  obtain ⟨w7, hw7⟩ : ∃ y, w6.alloc (.cells dltZ 36) = y := ⟨_, rfl⟩
  have hw7' := hw7
  unfold dltZ at hw7'
  rw [hw7']
  have hk67 : Kept Kno w6 w7 := by rw [← hw7]; exact (Kept.refl _ _).alloc _
  obtain ⟨XB, hXB⟩ : ∃ n, w6.heap.size = n := ⟨_, rfl⟩
  have HXB := Lib.hid (show Blk w7 XB 36 dltZ by rw [← hw7, ← hXB]; exact Blk.new _ _ _)
  have HCZ7 := Lib.hid (HCZ.out.kept hk67 (fun h => h))
  have HK7 := Lib.hid (show Kept Kno wS w7 from HK6.out.then0 hk67)
  have hXB7 : XB < w7.heap.size := HXB.out.lt
  have hCX : C < XB := by omega
  have hsX : wS.heap.size ≤ XB := by have := HK6.out.size; omega
  rw [hXB]
  clear hw7 hw7' hk67 hXB HCZ HK6 hC6
  go_loopw [12, 43] (fun ok i wr => OwnRel x np wS.heap.size C XB wS ok i wr) (fun _ i _ => np - (intOf i).toNat)
  case atStart => exact ⟨0, fun j => j == C || j == XB, 0, Nat.zero_le _, rfl, HK7.out.mono (fun _ _ h => h.elim), by simp, by simp, fun j hj => by
    have : j = C ∨ j = XB := by simpa using hj
    omega, by omega, Or.inl ⟨by omega, rfl, HXB.out, Or.inl ⟨rfl, HCZ7.out⟩⟩⟩
  case round =>
    obtain ⟨k, S, b, hk, rfl, hkr, hSC, hSX, hSL, hCr, hst⟩ := hrel
    have HKR := Lib.hid hkr
    have HSC := Lib.hid hSC
    have HSX := Lib.hid hSX
    have HSL := Lib.hid hSL
    have HST := Lib.hid hst
    have hk0 : (0 : Int) ≤ (k : Int) := by omega
    have hSr : wS.heap.size ≤ wr.heap.size := hkr.size
    clear hkr hSC hSX hSL hst
    by_cases hlt : k < np
    · have hltI : (k : Int) < (np : Int) := by omega
      obtain ⟨rfl, hXz, hpre⟩ : u12 = .bool false ∧ Blk wr XB 36 dltZ ∧ ((k = 0 ∧ Blk wr C 142 cltZ) ∨ (0 < k ∧ ColIs S wr C b (head0 x np) (gotten x np k))) := by
        rcases HST.out with ⟨-, h1, h2, h3⟩ | ⟨h, -⟩
        · exact ⟨h1, h2, h3⟩
        · omega
      have HXZ := Lib.hid hXz
      have HPRE := Lib.hid hpre
      have hXr : XB < wr.heap.size := hXz.lt
      clear hXz hpre HST
      obtain ⟨cs, -, ⟨kk, ee, rfl, hik, hie⟩, hcc⟩ := HAT.out k (partOf x np k) (by simp [partsOf, hlt])
      obtain ⟨kkA, kkc, rfl⟩ := IIn.form hik
      obtain ⟨eeA, eec, rfl⟩ := EdsIn.form hie
      obtain ⟨-, heecap, heecm⟩ := hie.cap
      obtain ⟨pe, hpe⟩ : ∃ pe, (partOf x np k).edits = pe := ⟨_, rfl⟩
      have hpel : pe.length ≤ 32 := by rw [← hpe]; exact List.length_take_le _ _
      have HPO := Lib.hid (show ∀ y ∈ pe, EdOk y from fun y hy => (HOK.out.part_ HPT.out hlt (by omega)).eds y (by rw [hpe]; exact hy))
      rw [hpe] at hie hcc heecap
      obtain ⟨m, hm⟩ : ∃ m, pe.length = m := ⟨_, rfl⟩
      have HPE := Lib.hid hpe
      have HM := Lib.hid hm
      have HIE := Lib.hid hie
      have HIK := Lib.hid hik
      have HCC := Lib.hid (hcc.kept HKR.out (fun e => by omega))
      rw [hm] at hpel heecap
      have c14 : wr.cell? ⟨gp, op + k * 31 + 14, none⟩ = some (.slice eeA m eec) := by rw [← hm]; exact HCC.out 14 _ rfl
      clear hcc hik hie hpe hm
      go_upto_region 14 with (first
        | (refine wpList_load_at rfl 36 (.tmp 48) rfl gp (op + k * 31) (dltC (partOf x np k) (.slice kkA (partOf x np k).kept.length kkc) (.slice eeA pe.length eec)).toList _ rfl HCC.out Tryz.underlying36 rfl size_dlt' ?_)
        | (refine wpList_store_new rfl 36 (.tmp 14) (.tmp 49) rfl _ (dltC (partOf x np k) (.slice kkA (partOf x np k).kept.length kkc) (.slice eeA pe.length eec)) rfl rfl (size_dlt _ _ _) rfl (dlt_one _ _ _ rfl rfl) ?_))
      try simp only [Act.put]
      obtain ⟨wa, hwa⟩ : ∃ z, wr.alloc (.cells (dltC (partOf x np k) (.slice kkA (partOf x np k).kept.length kkc) (.slice eeA pe.length eec)) 36) = z := ⟨_, rfl⟩
      have hkra : Kept Kno wr wa := by rw [← hwa]; exact (Kept.refl _ _).alloc _
      have hba : Blk wa wr.heap.size 36 (dltC (partOf x np k) (.slice kkA (partOf x np k).kept.length kkc) (.slice eeA pe.length eec)) := by rw [← hwa]; exact Blk.new _ _ _
      obtain ⟨P, hP⟩ : ∃ n, wr.heap.size = n := ⟨_, rfl⟩
      rw [hP] at hba
      have a14 : wa.cell? ⟨P, 14, none⟩ = some (.slice eeA m eec) := by rw [← HM.out]; exact hba.cell 14
      have fa14 := hba.frozen 14
      have hPa : P < wa.heap.size := hba.lt
      have HBA := Lib.hid hba
      have HKRA := Lib.hid hkra
      rw [hwa, hP]
      have hPr : wr.heap.size ≤ P := by omega
      have hPr2 : P ≤ wr.heap.size := by omega
      clear hwa hkra hba hP c14
      go_upto_region 15 with (fail)
      obtain ⟨wb, hwb⟩ : ∃ z, wa.setCell ⟨P, 14, none⟩ (.slice none 0 0) = z := ⟨_, rfl⟩
      have hkab : Kept (Kone P) wa wb := by rw [← hwb]; exact (Kept.refl _ _).setIn (p := ⟨P, 14, none⟩) (by unfold Kone; rfl) _
      have HBB := Lib.hid (show Blk wb P 36 (dltC (partOf x np k) (.slice kkA (partOf x np k).kept.length kkc) (.slice none 0 0)) by rw [← hwb]; exact HBA.out.set_ 14 _)
      have HKRB := Lib.hid (show Kept Kno wr wb from (HKRA.out.trans (T := Kone P) hkab (fun i hi e => by unfold Kone at e; omega)))
      have hPb : P < wb.heap.size := HBB.out.lt
      rw [hwb]
      clear hwb hkab a14 fa14 HBA HKRA
      have b14 : wb.cell? ⟨gp, op + k * 31 + 14, none⟩ = some (.slice eeA m eec) := by rw [← HM.out]; exact HKRB.out.cell_some (HCC.out 14 _ rfl) (fun h => h)
      obtain ⟨SP, hSP⟩ : ∃ s, more S P = s := ⟨_, rfl⟩
      have HSPP : Hid (SP P = true) := Lib.hid (by rw [← hSP]; exact more_self _ _)
      have HSPS : Hid (∀ j, S j = true → SP j = true) := Lib.hid (fun j hj => by rw [← hSP]; exact more_le hj)
      have HSPE : Hid (∀ j, j < P → SP j = S j) := Lib.hid (fun j hj => by rw [← hSP]; exact more_old hj)
      have HSPL : Hid (∀ j, SP j = true → wS.heap.size ≤ j ∧ j < wb.heap.size) := Lib.hid (fun j hj => by
        rw [← hSP] at hj
        cases hs : S j with
        | true => have := HSL.out j hs; omega
        | false =>
          have : j = P := by simpa [more, hs] using hj
          omega)
      clear hSP
      have HKSB := Lib.hid (HKR.out.then0 HKRB.out)
      have hBP : wS.heap.size ≤ P := by omega
      have hBw : wS.heap.size ≤ wb.heap.size := by omega
      go_upto_region 16 with (fail)
      clear b14
      go_loopw [57] (fun i wi => In2 (partOf x np k) np P P wb.heap.size (.slice kkA (partOf x np k).kept.length kkc) pe SP wb i wi) (fun i _ => m - (intOf i).toNat)
      case atStart => exact ⟨0, none, 0, [], Nat.zero_le _, rfl, by simp, LOut.nil, by simp, HBB.out, Kept.refl _ _⟩
      case round =>
        obtain ⟨j, A, c, qs, hj, rfl, hqs, hlo, hka, hbp, hki⟩ := hrel
        rw [HM.out] at hj
        have HQS := Lib.hid hqs
        have HLO := Lib.hid hlo
        have HKA := Lib.hid hka
        have HBP := Lib.hid hbp
        have HKI := Lib.hid hki
        have hj0 : (0 : Int) ≤ (j : Int) := by omega
        have hql : qs.length = j := by have := congrArg List.length hqs; rw [List.length_map, List.length_take, HM.out] at this; omega
        have hwbi : wb.heap.size ≤ wr.heap.size := hki.size
        have HQL := Lib.hid hql
        clear hqs hlo hka hbp hki hql
        by_cases hlt2 : j < m
        · have hltI2 : (j : Int) < (m : Int) := by omega
          obtain ⟨y, hy⟩ : ∃ z, pe[j]? = some z := ⟨_, List.getElem?_eq_getElem (by rw [HM.out]; exact hlt2)⟩
          obtain ⟨ge, oe, kv, cv, vv, rfl, -, hge, hce, hkv, hcv, hvv⟩ := HIE.out.at_ hy
          have hyo := HPO.out y (List.mem_of_getElem? hy)
          have hkl := hyo.klen
          have HTK := Lib.hid (show pe.take (j + 1) = pe.take j ++ [y] by rw [List.take_add_one, hy]; rfl)
          have hkS : Kept (fun i => wS.heap.size ≤ i) wS wr := HKSB.out.trans HKI.out (fun i hi e => by unfold Kone at e; omega)
          have HKS := Lib.hid hkS
          have HCE := Lib.hid (hce.kept hkS (fun e => by have : wS.heap.size ≤ ge := e; omega))
          obtain ⟨kvA, kvc, rfl⟩ : ∃ A c, kv = .slice A y.key.length c := SlIn.form hkv
          obtain ⟨cvA, cvc, rfl⟩ : ∃ A c, cv = .slice A y.cols.length c := SlIn.form hcv
          obtain ⟨vvA, vvc, rfl⟩ : ∃ A c, vv = .slice A y.cells.length c := SlIn.form hvv
          obtain ⟨z, hz⟩ : ∃ z, y.key = [z] := by
            obtain ⟨-, -, -, n, h1, -⟩ := hyo
            exact ⟨_, h1⟩
          have hrk := (SlIn.rd hkv).kept hkS (fun i e h => by have := SlIn.lt hkv e; have : wS.heap.size ≤ i := h; omega)
          rw [hkl] at HCE hrk hkv
          have hrz : rowC y.key = vCells z := by rw [hz]; simp [rowC]
          rw [hrz] at hrk
          have HRK := Lib.hid hrk
          have HKVL : Hid (∀ i, (Value.slice kvA 1 kvc).ownBlock = some i → i < wr.heap.size) := Lib.hid (fun i e => by have := SlIn.lt hkv e; omega)
          have HCV := Lib.hid hcv
          have HVV := Lib.hid hvv
          have HYO := Lib.hid hyo
          have HZ := Lib.hid hz
          clear hy hce hge hkv hcv hvv hyo hkl hrk hrz hz hkS
          go_upto_region 18 with (first
            | (refine wpList_load_at rfl 73 (.tmp 59) rfl ge (oe + j * 5) [.int .i64 y.op, .int .i64 y.tab, .slice kvA 1 kvc, .slice cvA y.cols.length cvc, .slice vvA y.cells.length vvc] _ rfl HCE.out Tryz.underlying73 rfl (by kernel_rfl) ?_)
            | (refine wpList_store_new rfl 73 (.tmp 16) (.tmp 60) rfl _ #[.int .i64 y.op, .int .i64 y.tab, .slice kvA 1 kvc, .slice cvA y.cols.length cvc, .slice vvA y.cells.length vvc] rfl rfl (by kernel_rfl) rfl (by simp [Value.oneCell']) ?_))
          try simp only [Act.put]
          obtain ⟨wc, hwc⟩ : ∃ u, wr.alloc (.cells #[.int .i64 y.op, .int .i64 y.tab, .slice kvA 1 kvc, .slice cvA y.cols.length cvc, .slice vvA y.cells.length vvc] 73) = u := ⟨_, rfl⟩
          have HKC := Lib.hid (show Kept Kno wr wc by rw [← hwc]; exact (Kept.refl _ _).alloc _)
          have HXC := Lib.hid (show Blk wc wr.heap.size 73 #[.int .i64 y.op, .int .i64 y.tab, .slice kvA 1 kvc, .slice cvA y.cols.length cvc, .slice vvA y.cells.length vvc] by rw [← hwc]; exact Blk.new _ _ _)
          have hxc : wr.heap.size < wc.heap.size := HXC.out.lt
          have x2 : wc.cell? ⟨wr.heap.size, 2, none⟩ = some (.slice kvA 1 kvc) := HXC.out.cell 2
          have m1 : 0 + 1 ≤ maxLen := by simp only [maxLen]; omega
          have HRKC := Lib.hid (HRK.out.kept0 HKC.out)
          rw [hwc]
          clear hwc HCE HRK
          go_upto_region 19 with (at_builtin; go_must (refine wpList_append_rd _ rfl _ _ 30 rfl wc.heap.size 49 i1 _ 3 32 Tryz.underlying30 hi1 z10 z11 z12 rfl (by decide) (.slice none 0 0) 0 [] rfl (World.ownsRow_nil _ _ _ _) (.slice kvA 1 kvc) 1 (vCells z) rfl HRKC.out (by simp [vCells, Value.oneCell']) m1 (by omega) (Nat.le_refl _) ?_); intro A7 c7 w7 hown7 hg7 hat7; have hb7 : Blk w7 wr.heap.size 73 #[.int .i64 y.op, .int .i64 y.tab, .slice kvA 1 kvc, .slice cvA y.cols.length cvc, .slice vvA y.cells.length vvc] := HXC.out.grown hg7 (by simp [Value.ownBlock]); have b7 : w7.cell? ⟨wr.heap.size, 2, none⟩ = some (.slice kvA 1 kvc) := hb7.cell 2; have f7 := hb7.frozen 2)
          rw [Nat.zero_add] at hown7
          simp only [Nat.zero_add, List.nil_append] at hown7 ⊢
          have hk7 : Kept Kno wc w7 := (Kept.refl _ _).grown hg7 (fun i hi e => by cases e)
          have hs8 : Kept (Kone wr.heap.size) w7 (w7.setCell ⟨wr.heap.size, 2, none⟩ (.slice A7 1 c7)) := (Kept.refl _ _).setIn (p := ⟨wr.heap.size, 2, none⟩) (by unfold Kone; rfl) _
          obtain ⟨w8, hw8⟩ : ∃ u, w7.setCell ⟨wr.heap.size, 2, none⟩ (.slice A7 1 c7) = u := ⟨_, rfl⟩
          have HX8 := Lib.hid (show Blk w8 wr.heap.size 73 #[.int .i64 y.op, .int .i64 y.tab, .slice A7 1 c7, .slice cvA y.cols.length cvc, .slice vvA y.cells.length vvc] by rw [← hw8]; have := hb7.set_ 2 (.slice A7 1 c7); simpa using this)
          rw [hw8] at hs8 ⊢
          have HO8 := Lib.hid (own_out (X := wr.heap.size) hown7 hxc hs8)
          have HK8 := Lib.hid (show Kept Kno wr w8 from (HKC.out.then0 hk7).trans hs8 (fun i hi e => by unfold Kone at e; omega))
          have hw8r : wr.heap.size ≤ w8.heap.size := HK8.out.size
          have hwc8 : wc.heap.size ≤ w8.heap.size := Nat.le_trans hk7.size hs8.size
          clear hown7 hg7 hat7 hb7 b7 f7 hk7 hs8 hw8 x2 HXC HKC HRKC m1
          have HL8 := Lib.hid (HLO.out.keep0 clo_ed HK8.out)
          have HB8 := Lib.hid (HBP.out.kept HK8.out (fun h => h))
          have HA8 : Hid (∀ p ∈ qs, KeyAt w8 P p.2) := Lib.hid (fun p hp => (HKA.out p hp).kept HK8.out (fun _ _ _ _ h => h))
          have hoS : ∀ i, orow SP (.slice A qs.length c) i = true → wS.heap.size ≤ i ∧ i < wr.heap.size := fun i hi => by
            rcases orow_cases hi with e | e
            · exact ⟨(HSPL.out i e).1, by have := (HSPL.out i e).2; omega⟩
            · exact ⟨by have := HLO.out.ge e; omega, HLO.out.lt e⟩
          have HOS := Lib.hid hoS
          have hkS8 : Kept (fun i => wS.heap.size ≤ i) wS w8 := HKS.out.then0 HK8.out
          have hod : Old wS.heap.size wS (erase (orow SP (.slice A qs.length c)) w8) := old_erase hkS8 (fun i hi => (hoS i hi).1)
          have HQ8 := Lib.hid (show EdQ (erase (orow SP (.slice A qs.length c)) w8) w8.heap.size y #[.int .i64 y.op, .int .i64 y.tab, .slice A7 1 c7, .slice cvA y.cols.length cvc, .slice vvA y.cells.length vvc].toList from ⟨_, _, _, rfl, by
            have h1 : SlIn (erase (orow SP (.slice A qs.length c)) w8) w8.heap.size 3 (.slice A7 1 c7) 1 (vCells z) := own_slin HO8.out (fun i hi => by
              cases hx : orow SP (.slice A qs.length c) i with
              | false => rfl
              | true => have := (hoS i hx).2; omega)
            unfold RIn
            rw [HZ.out]
            simpa [rowC] using h1, SlIn.old HCV.out hod (by omega), HVV.out.old hod (by omega)⟩)
          obtain ⟨g, cur, rfl, hgw, hbg, hcg, hc71, hc7m⟩ := own_key HO8.out
          have HKY := Lib.hid (show KeyAt w8 P #[.int .i64 y.op, .int .i64 y.tab, .slice (some ⟨g, 0, none⟩) 1 c7, .slice cvA y.cols.length cvc, .slice vvA y.cells.length vvc].toList from ⟨_, _, _, _, g, 1, c7, cur, z.n, rfl, Nat.le_refl _, hc71, hc7m, by omega, hbg, hcg⟩)
          have p14 : w8.cell? ⟨P, 14, none⟩ = some (.slice A qs.length c) := HB8.out.cell 14
          have m1 : qs.length + 1 ≤ maxLen := by simp only [maxLen]; have := HQL.out; omega
          have HNE := Lib.hid (show (Value.slice A qs.length c).ownBlock ≠ some P from fun e => by have := HL8.out.ge e; omega)
          have HQB := Lib.hid (show qs.length ≤ 100 by have := HQL.out; omega)
          clear hoS hkS8 hod hgw hbg hcg hc71 hc7m HLO HBP HKA HKS
          go_wp2_with (first
            | (refine wpList_load_row rfl 73 (.tmp 16) rfl wr.heap.size rfl 73 #[.int .i64 y.op, .int .i64 y.tab, .slice (some ⟨g, 0, none⟩) 1 c7, .slice cvA y.cols.length cvc, .slice vvA y.cells.length vvc] (0, 0) _ HX8.out Tryz.underlying73 rfl (by kernel_rfl) ?_)
            | (at_builtin; go_must (refine wpList_append_rd _ rfl _ _ 25 rfl wb.heap.size 73 i0 _ 5 88 Tryz.underlying25 hi0 z00 z01 z02 rfl (by decide) (.slice A qs.length c) qs.length (qs.map (·.2)).flatten rfl (World.ownsRow.alloc HL8.out.own.1 _) _ 1 #[.int .i64 y.op, .int .i64 y.tab, .slice (some ⟨g, 0, none⟩) 1 c7, .slice cvA y.cols.length cvc, .slice vvA y.cells.length vvc].toList rfl (Rd.one' _ _ _ rfl (by simp)) (by simp [Value.oneCell']) m1 (by have := HQB.out; omega) (by simp; omega) ?_); intro A9 c9 w9 hown9 hg9 hat9; have hb9 : Blk w9 P 36 (dltC (partOf x np k) (.slice kkA (partOf x np k).kept.length kkc) (.slice A qs.length c)) := (HB8.out.alloc _).grown hg9 (fun e => HNE.out e.symm); have b9 : w9.cell? ⟨P, 14, none⟩ = some (.slice A qs.length c) := hb9.cell 14; have f9 := hb9.frozen 14))
          have hl9 := LOut.push clo_ed HL8.out HQ8.out rfl hg9 hown9 hat9
          have hks : Kept (Kone P) w9 (w9.setCell ⟨P, 14, none⟩ (.slice A9 (qs.length + 1) c9)) := (Kept.refl _ _).setIn (p := ⟨P, 14, none⟩) (by unfold Kone; rfl) _
          have hk89 : Kept (fun i => wb.heap.size ≤ i) w8 w9 := ((Kept.refl _ _).alloc _).grown hg9 (fun i _ e => HL8.out.ge e)
          have hka9 : ∀ p, KeyAt w8 P p → KeyAt (w9.setCell ⟨P, 14, none⟩ (.slice A9 (qs.length + 1) c9)) P p := fun p hp => by
            have h1 : KeyAt w9 P p := by
              refine (hp.kept ((Kept.refl Kno _).alloc _) (fun _ _ _ _ h => h)).kept ((Kept.refl (fun i => (Value.slice A qs.length c).ownBlock = some i) _).grown hg9 (fun _ _ e => e)) (fun g cur hb hg e => ?_)
              exact own_blk_ne (World.ownsRow.alloc HL8.out.own.1 _) hb (by decide) e
            exact h1.kept hks (fun g cur hb hg e => by unfold Kone at e; subst e; exact Blk.ne_ hb hb9 (by decide) rfl)
          refine ⟨⟨j + 1, A9, c9, qs ++ [(y, [.int .i64 y.op, .int .i64 y.tab, .slice (some ⟨g, 0, none⟩) 1 c7, .slice cvA y.cols.length cvc, .slice vvA y.cells.length vvc])], by rw [HM.out]; omega, by go_num, ?_, hl9.keep clo_ed hks (fun i e => by unfold Kone at e; subst e; exact HSPP.out) (fun i e => by unfold Kone at e; omega), ?_, ?_, ?_⟩, ?_⟩
          · rw [List.map_append, HQS.out, HTK.out]
            rfl
          · intro p hp
            rcases List.mem_append.1 hp with hp | hp
            · exact hka9 _ (HA8.out p hp)
            · simp only [List.mem_singleton] at hp; subst hp; exact hka9 _ HKY.out
          · rw [List.length_append]
            exact hb9.set_ 14 _
          · exact ((HKI.out.then0 HK8.out).trans hk89 (fun i hi e => by have : wb.heap.size ≤ i := e; omega)).trans hks (fun _ _ e => e)
          · simp [intOf]
            omega
        · have hltI2 : ¬ (j : Int) < (m : Int) := by omega
          have hjm : j = m := by omega
          have hqe : qs.map (·.1) = pe := by rw [HQS.out, List.take_of_length_le (by rw [HM.out]; omega)]
          have hqm : qs.length = m := by rw [HQL.out, hjm]
          obtain ⟨wA, rfl⟩ : ∃ u, u = wr := ⟨wr, rfl⟩
          have hly := HLO.out.ly clo_ed (fun i hi => (HSPL.out i hi).2)
          have hown := HLO.out.own
          have hbp := HBP.out
          rw [hqm] at hly hown hbp
          rw [hqe] at hly
          have HEI : Hid (EdsIn (erase SP wA) wA.heap.size (.slice A m c) pe) := Lib.hid (by unfold EdsIn; rw [HM.out]; exact hly)
          have HOWN := Lib.hid hown
          have HBPA := Lib.hid hbp
          have HQM := Lib.hid hqm
          have hkS : Kept (fun i => wS.heap.size ≤ i) wS wA := HKSB.out.trans HKI.out (fun i hi e => by unfold Kone at e; omega)
          have HKSA := Lib.hid hkS
          have HIKI : Hid (IIn (erase SP wA) wA.heap.size (.slice kkA (partOf x np k).kept.length kkc) (partOf x np k).kept) := Lib.hid (IIn.old (old_erase hkS (fun i hi => (HSPL.out i hi).1)) hkS.size HIK.out)
          have HKOA := Lib.hid (HKRB.out.trans HKI.out (fun i hi e => by unfold Kone at e; omega))
          have hPA : P < wA.heap.size := HBPA.out.lt
          obtain ⟨S2, hS2⟩ : ∃ s : Nat → Bool, (fun i => SP i || (decide (P ≤ i) && decide (i < wA.heap.size))) = s := ⟨_, rfl⟩
          have HS2lo : Hid (∀ i, i < P → S2 i = S i) := Lib.hid (fun i hi => by
            rw [← hS2]
            have h1 : decide (P ≤ i) = false := by rw [decide_eq_false_iff_not]; omega
            simp [h1, HSPE.out i hi])
          have HS2hi : Hid (∀ i, P ≤ i → i < wA.heap.size → S2 i = true) := Lib.hid (fun i h1 h2 => by rw [← hS2]; simp [h1, h2])
          have HS2L : Hid (∀ i, S2 i = true → wS.heap.size ≤ i ∧ i < wA.heap.size) := Lib.hid (fun i hi => by
            rw [← hS2] at hi
            simp only [Bool.or_eq_true, Bool.and_eq_true, decide_eq_true_eq] at hi
            rcases hi with e | e
            · have := HSPL.out i e; omega
            · omega)
          have HPREA : Hid ((k = 0 ∧ Blk wA C 142 cltZ) ∨ (0 < k ∧ ColIs S2 wA C b (head0 x np) (gotten x np k))) := Lib.hid (by
            rcases HPRE.out with ⟨h1, h2⟩ | ⟨h1, h2⟩
            · exact Or.inl ⟨h1, h2.kept HKOA.out (fun h => h)⟩
            · exact Or.inr ⟨h1, h2.at2 HKOA.out (fun _ h => h.elim) (fun h => h) (fun h => h) (fun i hi => HS2lo.out i (by omega)) (fun i hi => (HS2L.out i hi).2)⟩)
          have HTB : Hid (0 < k → SP b = true) := Lib.hid (fun h0 => by
            rcases HPRE.out with ⟨h1, h2⟩ | ⟨h1, h2⟩
            · omega
            · exact HSPS.out b h2.Sb)
          have HXA := Lib.hid (HXZ.out.kept HKOA.out (fun h => h))
          have HBB0 : Hid (0 < k → b < P ∧ b ≠ XB ∧ wS.heap.size ≤ b) := Lib.hid (fun h0 => by
            rcases HPRE.out with ⟨h1, h2⟩ | ⟨h1, h2⟩
            · omega
            · obtain ⟨vs, h3, -⟩ := h2.map
              exact ⟨by have := h3.lt; omega, map_ne_blk h3 HXZ.out, (HSL.out b h2.Sb).1⟩)
          have hgl : (gotten x np k).length = k := by unfold gotten; rw [List.length_map, List.length_range]
          have hgs : (gotten x np k).flatten.length ≤ 10000 := by
            rw [gotten_flat, List.length_take, HLEN.out]
            omega
          have hCP : C < P := by omega
          have hXP : XB < P := by omega
          have HADD := Lib.hid (add_any S2 SP C b x.dev x.round x.from_ x.to_ x.kept x.dec np k (gotten x np k) pe (.slice kkA (partOf x np k).kept.length kkc) (.slice A m c) wA HPREA.out hgl hlt (by omega) (by have := HOK.out.part_ HPT.out hlt (show np ≤ 512 by omega); have hpe := HPE.out; subst hpe; exact this) (by rw [HM.out]; exact hpel) HIKI.out HEI.out (HSPS.out C HSC.out) HTB.out (by rw [HS2lo.out C hCP]; exact HSC.out) (fun i hi => (HS2L.out i hi).2) hgs)
          clear hS2 hly hown hbp hkS hqe hqm hjm hgl hgs HIKI HEI HPREA HTB HLO HBP HPRE HXZ
          have HFINK : Hid (∀ (S' : Nat → Bool) (wB wz : World) (cells : Array Value), cells.size = 31 → (∀ i, i < wA.heap.size → S' i = S2 i) → (∀ i, S' i = true → i < wB.heap.size) → Kept (fun i => i = C ∨ (0 < k ∧ i = b)) wA wB → Kept (fun i => P ≤ i ∧ i < wA.heap.size) (wB.setRow XB cells) wz →
              Kept (fun i => wS.heap.size ≤ i) wS wz ∧ S' C = true ∧ S' XB = true ∧ (∀ i, S' i = true → wS.heap.size ≤ i ∧ i < wz.heap.size) ∧ C < wz.heap.size ∧ Blk wz XB 36 cells ∧ Kept (fun i => P ≤ i ∧ i < wA.heap.size ∨ i = XB) wB wz) := Lib.hid (fun S' wB wz cells hcs hS' hlt' hkB hkz => by
            have hbb := HBB0.out
            have hXB2 : Blk wB XB 36 dltZ := HXA.out.kept hkB (fun e => by
              rcases e with e | ⟨h0, e⟩
              · omega
              · exact (hbb h0).2.1 e.symm)
            have hset : Kept (Kone XB) wB (wB.setRow XB cells) := (Kept.refl _ _).setRow (fun _ => by unfold Kone; rfl) _
            have hx3 : Blk (wB.setRow XB cells) XB 36 cells := hXB2.setRow _
            have hsz1 := hkB.size
            have hsz2 := hset.size
            have hsz3 := hkz.size
            refine ⟨?_, ?_, ?_, ?_, by omega, hx3.kept hkz (fun e => by have := e.1; omega), ?_⟩
            · refine ((HKSA.out.trans hkB (fun i hi e => ?_)).trans hset (fun i hi e => by unfold Kone at e; show wS.heap.size ≤ i; omega)).trans hkz (fun i hi e => by show wS.heap.size ≤ i; omega)
              rcases e with e | ⟨h0, e⟩
              · show wS.heap.size ≤ i; omega
              · show wS.heap.size ≤ i
                rw [e]
                exact (hbb h0).2.2
            · rw [hS' C (by omega), HS2lo.out C hCP]; exact HSC.out
            · rw [hS' XB (by omega), HS2lo.out XB hXP]; exact HSX.out
            · intro i hi
              refine ⟨?_, by have := hlt' i hi; omega⟩
              rcases Nat.lt_or_ge i wA.heap.size with h | h
              · rw [hS' i h] at hi
                exact (HS2L.out i hi).1
              · have := HKSA.out.size; omega
            · exact (hset.mono (fun i _ e => Or.inr (show i = XB from e))).trans hkz (fun i _ e => Or.inl e))
          go_wp2_with (first
            | (refine wpList_load_row rfl 36 (.tmp 14) rfl P rfl 36 (dltC (partOf x np k) (.slice kkA (partOf x np k).kept.length kkc) (.slice A m c)) (0, 0) _ HBPA.out Tryz.underlying36 rfl (size_dlt _ _ _) ?_))
          refine HADD.out.mono ?_
          rintro e wB ⟨S', b', hS', hlt', hkB, hb1, hb2, hcase⟩
          have HUN : ∃ (cells : Array Value) (flag : Bool), e = .returned (.tuple #[.agg cells, .bool flag]) ∧ cells.size = 31 ∧ cells.all (·.oneCell') = true ∧ ∀ wz, Kept (fun i => P ≤ i ∧ i < wA.heap.size) (wB.setRow XB cells) wz → OwnRel x np wS.heap.size C XB wS (.bool flag) (.int .i64 ((k + 1 : Nat) : Int)) wz := by
            rcases hcase with ⟨hin, rfl, hcol⟩ | ⟨hin, kv, ev, hkv1, rfl, hev⟩
            · refine ⟨dltZ, false, rfl, rfl, by kernel_rfl, fun wz hkz => ?_⟩
              obtain ⟨f1, f2, f3, f4, f5, f6, f7⟩ := HFINK.out S' wB wz dltZ rfl hS' hlt' hkB hkz
              refine ⟨k + 1, S', b', by omega, rfl, f1, f2, f3, f4, f5, Or.inl ⟨by omega, rfl, f6, Or.inr ⟨by omega, ?_⟩⟩⟩
              have hpe := HPE.out
              rw [gotten_next, hpe]
              refine hcol.keep f7 (fun i e => ?_) (fun e => by rcases e with e | e <;> omega) (fun e => ?_)
              · rcases e with e | e
                · rw [hS' i e.2]; exact HS2hi.out i e.1 e.2
                · subst e; exact f3
              · rcases Nat.eq_zero_or_pos k with h0 | h0
                · have := hb2 h0
                  rcases e with e | e <;> omega
                · have h1 := hb1 h0
                  have h2 := HBB0.out h0
                  subst h1
                  rcases e with e | e
                  · omega
                  · exact h2.2.1 e
            · have hfl : (gotten x np k ++ [pe]).flatten = x.edits := by
                have hpe := HPE.out
                rw [← hpe, ← gotten_next, hin, gotten_flat, List.take_of_length_le (by rw [HLEN.out]; exact hq32)]
              rw [hfl] at hev
              obtain ⟨eA', ec', rfl⟩ := EdsIn.form hev
              refine ⟨_, true, rfl, rfl, dlt_one _ _ _ hkv1 rfl, fun wz hkz => ?_⟩
              obtain ⟨f1, f2, f3, f4, f5, f6, f7⟩ := HFINK.out S' wB wz _ rfl hS' hlt' hkB hkz
              refine ⟨k + 1, S', b', by omega, rfl, f1, f2, f3, f4, f5, Or.inr ⟨hin, rfl, kv, eA', ec', f6, EdsIn.keep2 (S' := S') hev f7 (fun i e => ?_) (fun _ _ => rfl)⟩⟩
              rcases e with e | e
              · rw [hS' i e.2]; exact HS2hi.out i e.1 e.2
              · subst e; exact f3
          obtain ⟨cells, flag, rfl, hcs, hc1, hfin⟩ := HUN
          have hkAB : Kept (fun i => i < P) wA wB := hkB.mono (fun i _ e => by
            rcases e with e | ⟨h0, e⟩
            · show i < P; omega
            · have := (HBB0.out h0).1; show i < P; omega)
          have HXB2 := Lib.hid (show Blk wB XB 36 dltZ from HXA.out.kept hkB (fun e => by
            rcases e with e | ⟨h0, e⟩
            · omega
            · exact (HBB0.out h0).2.1 e.symm))
          have hkAC : Kept (fun i => i < P) wA (wB.setRow XB cells) := hkAB.setRow (fun _ => by show XB < P; omega) _
          have HCS := Lib.hid hcs
          have HC1_ := Lib.hid hc1
          have HFIN := Lib.hid hfin
          have HKAC := Lib.hid hkAC
          clear hcs hc1 hfin hkAC hkAB hcase hS' hlt' hkB hb1 hb2 HADD HFINK
          go_upto_region 22 with (first
            | (refine wpList_store_row rfl 36 (.tmp 11) (.tmp 76) rfl XB cells rfl rfl 36 dltZ HXB2.out (by rw [HCS.out]; exact size_dlt') (by rw [HCS.out]; rfl) HC1_.out ?_))
          try simp only [Act.put]
          obtain ⟨wC, hwC⟩ : ∃ u, wB.setRow XB cells = u := ⟨_, rfl⟩
          rw [hwC] at HFIN HKAC ⊢
          clear hwC HXB2
          have HBC := Lib.hid (HBPA.out.kept HKAC.out (fun e => by have : P < P := e; omega))
          have HOC : Hid (OwnL wC wb.heap.size 73 5 (.slice A m c) qs) := Lib.hid ⟨own_kept HOWN.out.1 HKAC.out (fun i e h => by have := (own_base HOWN.out.1 e).1; have : i < P := h; omega), HOWN.out.2⟩
          have HKC : Hid (∀ p ∈ qs, KeyAt wC P p.2) := Lib.hid (fun p hp => (HKA.out p hp).kept HKAC.out (fun g cur _ hg e => by have : g < P := e; omega))
          have hm0 : m ≤ c ∧ c ≤ 9223372036854775807 := by
            have ho := HOC.out.1
            rw [HQM.out] at ho
            have := own_slin0 ho
            exact SlIn.cap this
          have hm1 := hm0.1
          have hm2 := hm0.2
          have p14 : wC.cell? ⟨P, 14, none⟩ = some (.slice A m c) := HBC.out.cell 14
          clear hm0
          go_upto_region 23 with (fail)
          clear p14
          go_loopw [81] (fun i wi => In3 (partOf x np k) P P wA.heap.size wb.heap.size m c A (.slice kkA (partOf x np k).kept.length kkc) qs wC i wi) (fun i _ => m - (intOf i).toNat)
          case atStart => exact ⟨0, Nat.zero_le _, rfl, HBC.out, HOC.out, HKC.out, Kept.refl _ _⟩
          case round =>
            obtain ⟨j3, hj3, rfl, hbp, hown, hka, hkz⟩ := hrel
            have HB3 := Lib.hid hbp
            have HO3 := Lib.hid hown
            have HK3_ := Lib.hid hka
            have HKZ := Lib.hid hkz
            have hj30 : (0 : Int) ≤ (j3 : Int) := by omega
            clear hbp hown hka hkz
            by_cases hlt3 : j3 < m
            · have hltI3 : (j3 : Int) < (m : Int) := by omega
              obtain ⟨p, hp⟩ : ∃ p, qs[j3]? = some p := ⟨_, List.getElem?_eq_getElem (by rw [HQM.out]; exact hlt3)⟩
              have ho := HO3.out.1
              rw [HQM.out] at ho
              obtain ⟨gE, rfl, hgE⟩ := own_some ho (by omega)
              have hcc := HO3.out.cells hp
              obtain ⟨k0, k1, k3, k4, g, m', c', cur, z, hpc, h1, h2, h3, hlo, hbg, hz⟩ := HK3_.out p (List.mem_of_getElem? hp)
              rw [hpc] at hcc
              have p14 : wr.cell? ⟨P, 14, none⟩ = some (.slice (some ⟨gE, 0, none⟩) m c) := HB3.out.cell 14
              have e2 : wr.cell? ⟨gE, j3 * 5 + 2, none⟩ = some (.slice (some ⟨g, 0, none⟩) m' c') := hcc 2 _ rfl
              have z1 : wr.cell? ⟨g, 1, none⟩ = some (.int .i64 z) := by rw [hbg.cell]; exact hz
              have fz := hbg.frozen 1
              have hm'I : (0 : Int) < (m' : Int) := by omega
              have h3' : c' ≤ 9223372036854775807 := by simpa only [maxLen] using h3
              have HBG := Lib.hid hbg
              have hgz : g < wr.heap.size := hbg.lt
              have hgA : g < wA.heap.size := by
                obtain ⟨a0, a1, a3, a4, g2, m2, c2, cur2, y2, hpc2, -, -, -, -, hb2, -⟩ := HKA.out p (List.mem_of_getElem? hp)
                rw [hpc] at hpc2
                simp only [List.cons.injEq, Value.slice.injEq, Option.some.injEq, Addr.mk.injEq, true_and, and_true] at hpc2
                obtain ⟨-, -, ⟨rfl, -, -⟩, -⟩ := hpc2
                exact hb2.lt
              clear ho hcc hpc hz hbg hp h3
              go_wp2_with fail
              refine ⟨⟨j3 + 1, by omega, by go_num, HB3.out.far (p := ⟨g, 1, none⟩) (Blk.ne_ HB3.out HBG.out (by decide)) _, ⟨own_far (p := ⟨g, 1, none⟩) HO3.out.1 (own_blk_ne HO3.out.1 HBG.out (by decide)) _, HO3.out.2⟩, fun p' hp' => (HK3_.out p' hp').set, HKZ.out.setIn (p := ⟨g, 1, none⟩) ⟨hlo, hgA⟩ _⟩, by simp [intOf]; omega⟩
            · have hltI3 : ¬ (j3 : Int) < (m : Int) := by omega
              go_wp2_with fail
              go_roundw
              case rel => exact HFIN.out wr HKZ.out
              case measure => simp [intOf]; omega
    · have hltI : ¬ (k : Int) < (np : Int) := by omega
      obtain ⟨hkn, rfl, kv, A, c, hXv, hev⟩ : k = np ∧ u12 = .bool true ∧ ∃ kv A c, Blk wr XB 36 (dltC (head0 x 1) kv (.slice A x.edits.length c)) ∧ EdsIn (erase S wr) wr.heap.size (.slice A x.edits.length c) x.edits := by
        rcases HST.out with ⟨h, -⟩ | h
        · omega
        · exact h
      have x14 : wr.cell? ⟨XB, 14, none⟩ = some (.slice A x.edits.length c) := hXv.cell 14
      have HEV := Lib.hid hev.plain
      have HWR := Lib.hid (EdsIn.old (HKR.out.old hsS (fun i hi e => by omega)) (Nat.le_trans hsS hSr) HWS.out)
      have HKF := Lib.hid (show Kept Kno w wr from HK5.out.trans HKR.out (fun i hi e => by have := HK5.out.size; omega))
      clear hXv hev HST
      go_wp2_with fail
      refine (same29 _ _ x.edits wr.heap.size wr HEV.out HWR.out (Nat.le_refl _) HOK.out.i).mono ?_
      rintro e w8 ⟨rfl, hk8⟩
      have HK8 := Lib.hid hk8
      clear hk8 x14
      go_wp2_with fail
      refine (begun_any w8).mono ?_
      rintro e w9 ⟨rfl, hk9⟩
      have HX : Hid (RetBool true w (.returned (.bool true)) w9) := Lib.hid ⟨rfl, (HKF.out.then0 HK8.out).then0 hk9⟩
      clear hk9
      go_wp2
      go_ret
      exact HX.out

end Go.Proofs.YtffdaohmalmkfaaGreat
