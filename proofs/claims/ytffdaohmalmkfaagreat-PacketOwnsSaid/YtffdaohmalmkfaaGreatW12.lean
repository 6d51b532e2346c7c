/-
  Packet: fields at the four kinds of messages. (Printed by gen_pakh.py.)
-/
import Derived.Test.YtffdaohmalmkfaaGreatW9
set_option linter.unusedSimpArgs false
set_option linter.unusedVariables false
namespace Go.Proofs.YtffdaohmalmkfaaGreat
open Go.RowKit
set_option linter.unusedVariables false

set_option maxRecDepth 100000 in
set_option maxHeartbeats 4000000 in
theorem fields_1 (w : World) : Calls Tryz.prog 36 #[.int .i64 1] w (FsRet ([fdNum 85, fdNum 86, fdNum 87, fdNum 88, fdSubs 90, fdNum 91, fdSubs 92]) w) := by
  obtain ⟨i0, hi, hz0, hz1, hz2⟩ := info_parts info_field
  go_enter Tryz.func36, Tryz.ntmps36
  go_wp2_with fail
  refine (fdNum_any _ _).mono ?_
  rintro e v1 hr
  obtain ⟨X1, rfl, hf, hq⟩ := hr.in_ (base := w.heap.size) (by have := Nat.le_refl w.heap.size; omega)
  simp only [fdNum, fnX]
  clear hr
  obtain ⟨u1, hu⟩ : ∃ u1, u1 = v1.alloc (.cells #[.func (.func 149) #[] #[.pointer (some ⟨X1, 0, none⟩)], .func (.func 150) #[] #[.pointer (some ⟨X1, 0, none⟩)]] 111) := ⟨_, rfl⟩
  have hka : Kept Kno v1 u1 := by rw [hu]; exact (Kept.refl _ _).alloc _
  have hqq : Kept Kno w u1 := hq.then0 hka
  have hk1 : Kept Kno w u1 := hqq
  have G1_1 : Hid (FdIn u1 w.heap.size (fdNum 85) (fnX 149 X1, fnX 150 X1)) := Lib.hid (hf.kept0 hka)
  have B1_1 : Hid (Blk u1 v1.heap.size 111 #[.func (.func 149) #[] #[.pointer (some ⟨X1, 0, none⟩)], .func (.func 150) #[] #[.pointer (some ⟨X1, 0, none⟩)]]) := Lib.hid (by rw [hu]; exact Blk.new _ _ _)
  have L1 : Hid (v1.heap.size < u1.heap.size) := Lib.hid (B1_1.out.lt)
  have HU1 := Lib.hid hu
  clear hu hf hq hqq hka
  go_upto_region 1 with (fail)
  rw [← HU1.out]
  go_wp2_with fail
  refine (fdNum_any _ _).mono ?_
  rintro e v2 hr
  obtain ⟨X2, rfl, hf, hq⟩ := hr.in_ (base := w.heap.size) (by have := hk1.size; omega)
  simp only [fdNum, fnX]
  clear hr
  obtain ⟨u2, hu⟩ : ∃ u2, u2 = v2.alloc (.cells #[.func (.func 149) #[] #[.pointer (some ⟨X2, 0, none⟩)], .func (.func 150) #[] #[.pointer (some ⟨X2, 0, none⟩)]] 111) := ⟨_, rfl⟩
  have hka : Kept Kno v2 u2 := by rw [hu]; exact (Kept.refl _ _).alloc _
  have hqq : Kept Kno u1 u2 := hq.then0 hka
  have hk2 : Kept Kno w u2 := hk1.then0 hqq
  have G2_2 : Hid (FdIn u2 w.heap.size (fdNum 86) (fnX 149 X2, fnX 150 X2)) := Lib.hid (hf.kept0 hka)
  have B2_2 : Hid (Blk u2 v2.heap.size 111 #[.func (.func 149) #[] #[.pointer (some ⟨X2, 0, none⟩)], .func (.func 150) #[] #[.pointer (some ⟨X2, 0, none⟩)]]) := Lib.hid (by rw [hu]; exact Blk.new _ _ _)
  have L2 : Hid (v2.heap.size < u2.heap.size) := Lib.hid (B2_2.out.lt)
  have G1_2 := Lib.hid (G1_1.out.kept0 hqq)
  have B1_2 := Lib.hid (B1_1.out.kept hqq (fun h => h))
  have HU2 := Lib.hid hu
  clear hu hf hq hqq hka hk1 G1_1 B1_1
  go_upto_region 2 with (fail)
  rw [← HU2.out]
  go_wp2_with fail
  refine (fdNum_any _ _).mono ?_
  rintro e v3 hr
  obtain ⟨X3, rfl, hf, hq⟩ := hr.in_ (base := w.heap.size) (by have := hk2.size; omega)
  simp only [fdNum, fnX]
  clear hr
  obtain ⟨u3, hu⟩ : ∃ u3, u3 = v3.alloc (.cells #[.func (.func 149) #[] #[.pointer (some ⟨X3, 0, none⟩)], .func (.func 150) #[] #[.pointer (some ⟨X3, 0, none⟩)]] 111) := ⟨_, rfl⟩
  have hka : Kept Kno v3 u3 := by rw [hu]; exact (Kept.refl _ _).alloc _
  have hqq : Kept Kno u2 u3 := hq.then0 hka
  have hk3 : Kept Kno w u3 := hk2.then0 hqq
  have G3_3 : Hid (FdIn u3 w.heap.size (fdNum 87) (fnX 149 X3, fnX 150 X3)) := Lib.hid (hf.kept0 hka)
  have B3_3 : Hid (Blk u3 v3.heap.size 111 #[.func (.func 149) #[] #[.pointer (some ⟨X3, 0, none⟩)], .func (.func 150) #[] #[.pointer (some ⟨X3, 0, none⟩)]]) := Lib.hid (by rw [hu]; exact Blk.new _ _ _)
  have L3 : Hid (v3.heap.size < u3.heap.size) := Lib.hid (B3_3.out.lt)
  have G1_3 := Lib.hid (G1_2.out.kept0 hqq)
  have B1_3 := Lib.hid (B1_2.out.kept hqq (fun h => h))
  have G2_3 := Lib.hid (G2_2.out.kept0 hqq)
  have B2_3 := Lib.hid (B2_2.out.kept hqq (fun h => h))
  have HU3 := Lib.hid hu
  clear hu hf hq hqq hka hk2 G1_2 B1_2 G2_2 B2_2
  go_upto_region 6 with (fail)
  rw [← HU3.out]
  have c10 : u3.cell? ⟨v1.heap.size, 0, none⟩ = some (.func (.func 149) #[] #[.pointer (some ⟨X1, 0, none⟩)]) := B1_3.out.cell 0
  have c11 : u3.cell? ⟨v1.heap.size, 1, none⟩ = some (.func (.func 150) #[] #[.pointer (some ⟨X1, 0, none⟩)]) := B1_3.out.cell 1
  have c20 : u3.cell? ⟨v2.heap.size, 0, none⟩ = some (.func (.func 149) #[] #[.pointer (some ⟨X2, 0, none⟩)]) := B2_3.out.cell 0
  have c21 : u3.cell? ⟨v2.heap.size, 1, none⟩ = some (.func (.func 150) #[] #[.pointer (some ⟨X2, 0, none⟩)]) := B2_3.out.cell 1
  have c30 : u3.cell? ⟨v3.heap.size, 0, none⟩ = some (.func (.func 149) #[] #[.pointer (some ⟨X3, 0, none⟩)]) := B3_3.out.cell 0
  have c31 : u3.cell? ⟨v3.heap.size, 1, none⟩ = some (.func (.func 150) #[] #[.pointer (some ⟨X3, 0, none⟩)]) := B3_3.out.cell 1
  have hb3 : w.heap.size ≤ u3.heap.size := hk3.size
  go_region_held3 (fun w' => w'.cell? ⟨v1.heap.size, 0, none⟩ = some (.func (.func 149) #[] #[.pointer (some ⟨X1, 0, none⟩)]) ∧ w'.cell? ⟨v1.heap.size, 1, none⟩ = some (.func (.func 150) #[] #[.pointer (some ⟨X1, 0, none⟩)]) ∧ w'.cell? ⟨v2.heap.size, 0, none⟩ = some (.func (.func 149) #[] #[.pointer (some ⟨X2, 0, none⟩)]) ∧ w'.cell? ⟨v2.heap.size, 1, none⟩ = some (.func (.func 150) #[] #[.pointer (some ⟨X2, 0, none⟩)]) ∧ w'.cell? ⟨v3.heap.size, 0, none⟩ = some (.func (.func 149) #[] #[.pointer (some ⟨X3, 0, none⟩)]) ∧ w'.cell? ⟨v3.heap.size, 1, none⟩ = some (.func (.func 150) #[] #[.pointer (some ⟨X3, 0, none⟩)]))
    (first | (exact ⟨h10, h11, h20, h21, h30, h31⟩) | (exact ⟨g10, g11, g20, g21, g30, g31⟩) | (exact ⟨f10, f11, f20, f21, f30, f31⟩) | (exact ⟨e10, e11, e20, e21, e30, e31⟩) | (exact ⟨c10, c11, c20, c21, c30, c31⟩) | go_keep)
    (first | (go_at_call 84; refine (fdNum_any 88 _).mono ?_; rintro e x1 hr; obtain ⟨Y1, rfl, hf1, hkx⟩ := hr.in_ (base := w.heap.size) (by first | omega | (simp; omega)); simp only [fdNum, fnX]; clear hr
              have hk1' : Kept Kno u3 x1 := by first | exact hkx | exact ((Kept.refl _ _).drew).then0 hkx
              have hs1 := hk1'.size; have e10 := hk1'.cell_some c10 (fun h => h); have e11 := hk1'.cell_some c11 (fun h => h); have e20 := hk1'.cell_some c20 (fun h => h); have e21 := hk1'.cell_some c21 (fun h => h); have e30 := hk1'.cell_some c30 (fun h => h); have e31 := hk1'.cell_some c31 (fun h => h); clear hkx)
           | (go_at_call 89; refine (fdSubs_any 90 _).mono ?_; rintro e x2 hr; obtain ⟨Y2, rfl, hf2, hkx⟩ := hr.in_ (base := w.heap.size) (by first | omega | (simp; omega)); simp only [fdSubs, fnX]; clear hr
              have hk2' : Kept Kno x1 x2 := by first | exact hkx | exact ((Kept.refl _ _).drew).then0 hkx
              have hs2 := hk2'.size; have f10 := hk2'.cell_some e10 (fun h => h); have f11 := hk2'.cell_some e11 (fun h => h); have f20 := hk2'.cell_some e20 (fun h => h); have f21 := hk2'.cell_some e21 (fun h => h); have f30 := hk2'.cell_some e30 (fun h => h); have f31 := hk2'.cell_some e31 (fun h => h); clear hkx)
           | (go_at_call 84; refine (fdNum_any 91 _).mono ?_; rintro e x3 hr; obtain ⟨Y3, rfl, hf3, hkx⟩ := hr.in_ (base := w.heap.size) (by first | omega | (simp; omega)); simp only [fdNum, fnX]; clear hr
              have hk3' : Kept Kno x2 x3 := by first | exact hkx | exact ((Kept.refl _ _).drew).then0 hkx
              have hs3 := hk3'.size; have g10 := hk3'.cell_some f10 (fun h => h); have g11 := hk3'.cell_some f11 (fun h => h); have g20 := hk3'.cell_some f20 (fun h => h); have g21 := hk3'.cell_some f21 (fun h => h); have g30 := hk3'.cell_some f30 (fun h => h); have g31 := hk3'.cell_some f31 (fun h => h); clear hkx)
           | (go_at_call 89; refine (fdSubs_any 92 _).mono ?_; rintro e x4 hr; obtain ⟨Y4, rfl, hf4, hkx⟩ := hr.in_ (base := w.heap.size) (by first | omega | (simp; omega)); simp only [fdSubs, fnX]; clear hr
              have hk4' : Kept Kno x3 x4 := by first | exact hkx | exact ((Kept.refl _ _).drew).then0 hkx
              have hs4 := hk4'.size; have h10 := hk4'.cell_some g10 (fun h => h); have h11 := hk4'.cell_some g11 (fun h => h); have h20 := hk4'.cell_some g20 (fun h => h); have h21 := hk4'.cell_some g21 (fun h => h); have h30 := hk4'.cell_some g30 (fun h => h); have h31 := hk4'.cell_some g31 (fun h => h); clear hkx))
  have hk4 : Kept Kno w x4 := (((hk3.then0 hk1').then0 hk2').then0 hk3').then0 hk4'
  have HX := Lib.hid hk4
  have hka : Kept Kno x4 (x4.alloc (.cells #[fnX 149 X1, fnX 150 X1, fnX 149 X2, fnX 150 X2, fnX 149 X3, fnX 150 X3, fnX 149 Y1, fnX 150 Y1, fnX 151 Y2, fnX 152 Y2, fnX 149 Y3, fnX 150 Y3, fnX 151 Y4, fnX 152 Y4] 111)) := (Kept.refl _ _).alloc _
  have K34 := (((hk1'.then0 hk2').then0 hk3').then0 hk4').then0 hka
  have K1 := ((hk2'.then0 hk3').then0 hk4').then0 hka
  have K2 := (hk3'.then0 hk4').then0 hka
  have K3 := hk4'.then0 hka
  go_wp2
  go_ret
  refine ⟨_, rfl, ⟨[(fnX 149 X1, fnX 150 X1), (fnX 149 X2, fnX 150 X2), (fnX 149 X3, fnX 150 X3), (fnX 149 Y1, fnX 150 Y1), (fnX 151 Y2, fnX 152 Y2), (fnX 149 Y3, fnX 150 Y3), (fnX 151 Y4, fnX 152 Y4)], rfl, World.ownsRow_lit x4 #[fnX 149 X1, fnX 150 X1, fnX 149 X2, fnX 150 X2, fnX 149 X3, fnX 150 X3, fnX 149 Y1, fnX 150 Y1, fnX 151 Y2, fnX 152 Y2, fnX 149 Y3, fnX 150 Y3, fnX 151 Y4, fnX 152 Y4] 7 HX.out.size (by decide) rfl, ?_⟩, HX.out.alloc _⟩
  intro i f p hf hp
  match i, hf, hp with
  | 0, hf, hp => simp only [List.getElem?_cons_succ, List.getElem?_cons_zero, Option.some.injEq] at hf hp; subst hf hp; exact G1_3.out.kept0 K34
  | 1, hf, hp => simp only [List.getElem?_cons_succ, List.getElem?_cons_zero, Option.some.injEq] at hf hp; subst hf hp; exact G2_3.out.kept0 K34
  | 2, hf, hp => simp only [List.getElem?_cons_succ, List.getElem?_cons_zero, Option.some.injEq] at hf hp; subst hf hp; exact G3_3.out.kept0 K34
  | 3, hf, hp => simp only [List.getElem?_cons_succ, List.getElem?_cons_zero, Option.some.injEq] at hf hp; subst hf hp; exact hf1.kept0 K1
  | 4, hf, hp => simp only [List.getElem?_cons_succ, List.getElem?_cons_zero, Option.some.injEq] at hf hp; subst hf hp; exact hf2.kept0 K2
  | 5, hf, hp => simp only [List.getElem?_cons_succ, List.getElem?_cons_zero, Option.some.injEq] at hf hp; subst hf hp; exact hf3.kept0 K3
  | 6, hf, hp => simp only [List.getElem?_cons_succ, List.getElem?_cons_zero, Option.some.injEq] at hf hp; subst hf hp; exact hf4.kept0 hka
  | j + 7, hf, hp => simp at hf

end Go.Proofs.YtffdaohmalmkfaaGreat
