/-
  Contracts and plain laws that the claim's theorem rests on, some texts in one file.
-/
import Derived.Test.YtffdaohmalmkfaaGreatM33
import Derived.ChangeKeysEq
/-
  Packet's reference: Equal of queries at the same query. (Printed by gen_pakrj.py.)
-/
namespace Go.Proofs.YtffdaohmalmkfaaGreat
open Go.RowKit
set_option linter.unusedVariables false

theorem eq_pair (a b : Int) (w : World) : (Op.equalIn 10000 271 (.agg #[.int .i64 a, .int .i64 b]) (.agg #[.int .i64 a, .int .i64 b])).run Tryz.prog w = .ok true w := by
  have hk : (Tryz.prog.info? 3).isSome = true := by kernel_rfl
  obtain ⟨i, hi⟩ := Option.isSome_iff_exists.1 hk
  have hc : Tryz.prog.cellsOf 3 = 1 := by kernel_rfl
  have he : Tryz.prog.plainKey 3 = true := by kernel_rfl
  rw [show (10000 : Nat) = 9999 + 1 from rfl, run_equalIn_array w 9999 _ _ Tryz.underlying271 hi, hc]
  have p0 : (part 3 #[.int .i64 a, .int .i64 b] 0).run Tryz.prog w = .ok (.int .i64 a) w := run_part_plain w he rfl
  have p1 : (part 3 #[.int .i64 a, .int .i64 b] 1).run Tryz.prog w = .ok (.int .i64 b) w := run_part_plain w he rfl
  have r0 := fun x y => run_equalIn_int w 9998 3 .i64 .i64 x y Tryz.underlying3
  rw [show List.range 2 = [0, 1] from rfl]
  simp only [Op.eqItems, Nat.zero_mul, Nat.one_mul, Sem.run_bind, p0, p1, Result.andThen_ok, r0]
  simp [p1, r0, Result.andThen_ok]
theorem pairAt {w : World} {g o k : Nat} {cs : List Value} {a b : Value} (h : CellsAt w g o cs) (ha : cs[k * 2]? = some a) (hb : cs[k * 2 + 1]? = some b) : CellsAt w g (o + k * 2) [a, b] := by
  intro j u hj
  match j, hj with
  | 0, hj => simp only [List.getElem?_cons_zero, Option.some.injEq] at hj; subst hj; exact h (k * 2) _ ha
  | 1, hj => simp only [List.getElem?_cons_succ, List.getElem?_cons_zero, Option.some.injEq] at hj; subst hj; exact h (k * 2 + 1) _ hb
  | j + 2, hj => simp at hj
theorem onC_0 {l : List (Int × Int)} {k : Nat} {x1 x2 : Int} (h : l[k]? = some (x1, x2)) : (onC l)[k * 2]? = some (.int .i64 x1) := by
  induction l generalizing k with
  | nil => simp at h
  | cons a l ih =>
    cases k with
    | zero => simp only [List.getElem?_cons_zero, Option.some.injEq] at h; subst h; rfl
    | succ k => simp only [List.getElem?_cons_succ] at h; have := ih h; rw [Nat.succ_mul]; simpa [onC] using this
theorem onC_1 {l : List (Int × Int)} {k : Nat} {x1 x2 : Int} (h : l[k]? = some (x1, x2)) : (onC l)[k * 2 + 1]? = some (.int .i64 x2) := by
  induction l generalizing k with
  | nil => simp at h
  | cons a l ih =>
    cases k with
    | zero => simp only [List.getElem?_cons_zero, Option.some.injEq] at h; subst h; rfl
    | succ k => simp only [List.getElem?_cons_succ] at h; have := ih h; rw [Nat.succ_mul]; simpa [onC] using this
theorem ordC_0 {l : List (Int × Bool)} {k : Nat} {x1 : Int} {x2 : Bool} (h : l[k]? = some (x1, x2)) : (ordC l)[k * 2]? = some (.int .i64 x1) := by
  induction l generalizing k with
  | nil => simp at h
  | cons a l ih =>
    cases k with
    | zero => simp only [List.getElem?_cons_zero, Option.some.injEq] at h; subst h; rfl
    | succ k => simp only [List.getElem?_cons_succ] at h; have := ih h; rw [Nat.succ_mul]; simpa [ordC] using this
theorem ordC_1 {l : List (Int × Bool)} {k : Nat} {x1 : Int} {x2 : Bool} (h : l[k]? = some (x1, x2)) : (ordC l)[k * 2 + 1]? = some (.bool x2) := by
  induction l generalizing k with
  | nil => simp at h
  | cons a l ih =>
    cases k with
    | zero => simp only [List.getElem?_cons_zero, Option.some.injEq] at h; subst h; rfl
    | succ k => simp only [List.getElem?_cons_succ] at h; have := ih h; rw [Nat.succ_mul]; simpa [ordC] using this

set_option maxRecDepth 100000 in
set_option maxHeartbeats 8000000 in
theorem xequalQ_n (N : Nat) : ∀ (q : Qry), sizeQ q ≤ N → ∀ (B : Nat) (s t : QS) (w : World), QIn w B q s → QIn w B q t → B ≤ w.heap.size →
    Calls Tryz.prog 98 #[q.v s, q.v t] w (RetBool true w) := by
  induction N with
  | zero => intro p hp; have := sizeQ_pos p; omega
  | succ N IH =>
    intro q hsz B s t w hq hqt hB
    obtain ⟨op, table, wh, cols, on, grp, ord, lim, args⟩ := q
    obtain ⟨swa, scols, son, sgrp, sord, sargs⟩ := s
    obtain ⟨twa, tcols, ton, tgrp, tord, targs⟩ := t
    simp only [sizeQ] at hsz
    simp only [QIn] at hq hqt
    obtain ⟨-, -, -, q4, q5, -, q7, -, q9, -, q11, -, Aa, aac, rfl, hcap, hmax, -, -, hat⟩ := hq
    obtain ⟨-, -, -, r4, r5, -, r7, -, r9, -, r11, -, Aa', aac', rfl, hcap', -, -, -, hat'⟩ := hqt
    have HQ4 := Lib.hid q4
    have HR4 := Lib.hid r4
    have HQ5 := Lib.hid q5
    have HR5 := Lib.hid r5
    have HQ7 := Lib.hid q7
    have HR7 := Lib.hid r7
    have HQ9 := Lib.hid q9
    have HR9 := Lib.hid r9
    have HQ11 := Lib.hid q11
    have HR11 := Lib.hid r11
    have HAT := Lib.hid hat
    have HAT' := Lib.hid hat'
    have hmax' : aac ≤ 9223372036854775807 := by simpa only [maxLen] using hmax
    obtain ⟨Ca, cac, rfl, hc1, hc2, -⟩ := q5
    obtain ⟨Oa, oac, rfl, ho1, ho2, -, -, -, hoat⟩ := q7
    obtain ⟨Ga, gac, rfl, hg1, hg2, -⟩ := q9
    obtain ⟨Da, dac, rfl, hd1, hd2, -, -, -, hdat⟩ := q11
    obtain ⟨Ca', cac', rfl, hc1', -, -⟩ := r5
    obtain ⟨Oa', oac', rfl, ho1', -, -, -, -, hoat'⟩ := r7
    obtain ⟨Ga', gac', rfl, hg1', -, -⟩ := r9
    obtain ⟨Da', dac', rfl, hd1', -, -, -, -, hdat'⟩ := r11
    have HOAT := Lib.hid hoat
    have HOAT' := Lib.hid hoat'
    have HDAT := Lib.hid hdat
    have HDAT' := Lib.hid hdat'
    simp only [maxLen] at hc2 ho2 hg2 hd2
    have HIH : Hid (∀ (p : Qry), p ∈ args → ∀ (s t : QS) (w : World), QIn w B p s → QIn w B p t → B ≤ w.heap.size → Calls Tryz.prog 98 #[p.v s, p.v t] w (RetBool true w)) := Lib.hid (by
      intro p hpm s t w h1 h2 h3
      exact IH p (by have := sizeQs_mem hpm; omega) B s t w h1 h2 h3)
    obtain ⟨Wa, wan, wac, rfl⟩ := q4.form
    obtain ⟨Wa', wan', wac', rfl⟩ := r4.form
    obtain ⟨wo, wc, ⟨lk, li, ⟨la, lb, lc⟩⟩, ⟨rk, ri, ⟨ra, rb, rc⟩⟩, wargs⟩ := wh
    simp only [Qry.v]
    have hkA : Kept Kno w ((w.alloc (.cells #[.int .i64 op, .int .i64 table, .int .i64 wo, .int .i64 wc, .int .i64 lk, .int .i64 li, .int .i64 la, .int .i64 lb, .string lc, .int .i64 rk, .int .i64 ri, .int .i64 ra, .int .i64 rb, .string rc, .slice Wa wan wac, .slice Ca cols.length cac, .slice Oa on.length oac, .slice Ga grp.length gac, .slice Da ord.length dac, .int .i64 lim, .slice Aa args.length aac] 59)).alloc (.cells #[.int .i64 op, .int .i64 table, .int .i64 wo, .int .i64 wc, .int .i64 lk, .int .i64 li, .int .i64 la, .int .i64 lb, .string lc, .int .i64 rk, .int .i64 ri, .int .i64 ra, .int .i64 rb, .string rc, .slice Wa' wan' wac', .slice Ca' cols.length cac', .slice Oa' on.length oac', .slice Ga' grp.length gac', .slice Da' ord.length dac', .int .i64 lim, .slice Aa' args.length aac'] 59)) := ((Kept.refl _ _).alloc _).alloc _
    have hGA : Blk ((w.alloc (.cells #[.int .i64 op, .int .i64 table, .int .i64 wo, .int .i64 wc, .int .i64 lk, .int .i64 li, .int .i64 la, .int .i64 lb, .string lc, .int .i64 rk, .int .i64 ri, .int .i64 ra, .int .i64 rb, .string rc, .slice Wa wan wac, .slice Ca cols.length cac, .slice Oa on.length oac, .slice Ga grp.length gac, .slice Da ord.length dac, .int .i64 lim, .slice Aa args.length aac] 59)).alloc (.cells #[.int .i64 op, .int .i64 table, .int .i64 wo, .int .i64 wc, .int .i64 lk, .int .i64 li, .int .i64 la, .int .i64 lb, .string lc, .int .i64 rk, .int .i64 ri, .int .i64 ra, .int .i64 rb, .string rc, .slice Wa' wan' wac', .slice Ca' cols.length cac', .slice Oa' on.length oac', .slice Ga' grp.length gac', .slice Da' ord.length dac', .int .i64 lim, .slice Aa' args.length aac'] 59)) w.heap.size 59 #[.int .i64 op, .int .i64 table, .int .i64 wo, .int .i64 wc, .int .i64 lk, .int .i64 li, .int .i64 la, .int .i64 lb, .string lc, .int .i64 rk, .int .i64 ri, .int .i64 ra, .int .i64 rb, .string rc, .slice Wa wan wac, .slice Ca cols.length cac, .slice Oa on.length oac, .slice Ga grp.length gac, .slice Da ord.length dac, .int .i64 lim, .slice Aa args.length aac] := (Blk.new _ _ _).alloc _
    have hGB : Blk ((w.alloc (.cells #[.int .i64 op, .int .i64 table, .int .i64 wo, .int .i64 wc, .int .i64 lk, .int .i64 li, .int .i64 la, .int .i64 lb, .string lc, .int .i64 rk, .int .i64 ri, .int .i64 ra, .int .i64 rb, .string rc, .slice Wa wan wac, .slice Ca cols.length cac, .slice Oa on.length oac, .slice Ga grp.length gac, .slice Da ord.length dac, .int .i64 lim, .slice Aa args.length aac] 59)).alloc (.cells #[.int .i64 op, .int .i64 table, .int .i64 wo, .int .i64 wc, .int .i64 lk, .int .i64 li, .int .i64 la, .int .i64 lb, .string lc, .int .i64 rk, .int .i64 ri, .int .i64 ra, .int .i64 rb, .string rc, .slice Wa' wan' wac', .slice Ca' cols.length cac', .slice Oa' on.length oac', .slice Ga' grp.length gac', .slice Da' ord.length dac', .int .i64 lim, .slice Aa' args.length aac'] 59)) (w.heap.size + 1) 59 #[.int .i64 op, .int .i64 table, .int .i64 wo, .int .i64 wc, .int .i64 lk, .int .i64 li, .int .i64 la, .int .i64 lb, .string lc, .int .i64 rk, .int .i64 ri, .int .i64 ra, .int .i64 rb, .string rc, .slice Wa' wan' wac', .slice Ca' cols.length cac', .slice Oa' on.length oac', .slice Ga' grp.length gac', .slice Da' ord.length dac', .int .i64 lim, .slice Aa' args.length aac'] := by
      have := Blk.new (w.alloc (.cells #[.int .i64 op, .int .i64 table, .int .i64 wo, .int .i64 wc, .int .i64 lk, .int .i64 li, .int .i64 la, .int .i64 lb, .string lc, .int .i64 rk, .int .i64 ri, .int .i64 ra, .int .i64 rb, .string rc, .slice Wa wan wac, .slice Ca cols.length cac, .slice Oa on.length oac, .slice Ga grp.length gac, .slice Da ord.length dac, .int .i64 lim, .slice Aa args.length aac] 59)) 59 #[.int .i64 op, .int .i64 table, .int .i64 wo, .int .i64 wc, .int .i64 lk, .int .i64 li, .int .i64 la, .int .i64 lb, .string lc, .int .i64 rk, .int .i64 ri, .int .i64 ra, .int .i64 rb, .string rc, .slice Wa' wan' wac', .slice Ca' cols.length cac', .slice Oa' on.length oac', .slice Ga' grp.length gac', .slice Da' ord.length dac', .int .i64 lim, .slice Aa' args.length aac']
      rw [size_alloc'] at this
      exact this
    have HGA := Lib.hid hGA
    have HGB := Lib.hid hGB
    have HKA := Lib.hid hkA
    have HOA : Hid (Old B w ((w.alloc (.cells #[.int .i64 op, .int .i64 table, .int .i64 wo, .int .i64 wc, .int .i64 lk, .int .i64 li, .int .i64 la, .int .i64 lb, .string lc, .int .i64 rk, .int .i64 ri, .int .i64 ra, .int .i64 rb, .string rc, .slice Wa wan wac, .slice Ca cols.length cac, .slice Oa on.length oac, .slice Ga grp.length gac, .slice Da ord.length dac, .int .i64 lim, .slice Aa args.length aac] 59)).alloc (.cells #[.int .i64 op, .int .i64 table, .int .i64 wo, .int .i64 wc, .int .i64 lk, .int .i64 li, .int .i64 la, .int .i64 lb, .string lc, .int .i64 rk, .int .i64 ri, .int .i64 ra, .int .i64 rb, .string rc, .slice Wa' wan' wac', .slice Ca' cols.length cac', .slice Oa' on.length oac', .slice Ga' grp.length gac', .slice Da' ord.length dac', .int .i64 lim, .slice Aa' args.length aac'] 59))) := Lib.hid (hkA.old hB (fun _ _ h => h))
    have HBA : Hid (B ≤ ((w.alloc (.cells #[.int .i64 op, .int .i64 table, .int .i64 wo, .int .i64 wc, .int .i64 lk, .int .i64 li, .int .i64 la, .int .i64 lb, .string lc, .int .i64 rk, .int .i64 ri, .int .i64 ra, .int .i64 rb, .string rc, .slice Wa wan wac, .slice Ca cols.length cac, .slice Oa on.length oac, .slice Ga grp.length gac, .slice Da ord.length dac, .int .i64 lim, .slice Aa args.length aac] 59)).alloc (.cells #[.int .i64 op, .int .i64 table, .int .i64 wo, .int .i64 wc, .int .i64 lk, .int .i64 li, .int .i64 la, .int .i64 lb, .string lc, .int .i64 rk, .int .i64 ri, .int .i64 ra, .int .i64 rb, .string rc, .slice Wa' wan' wac', .slice Ca' cols.length cac', .slice Oa' on.length oac', .slice Ga' grp.length gac', .slice Da' ord.length dac', .int .i64 lim, .slice Aa' args.length aac'] 59)).heap.size) := Lib.hid (Nat.le_trans hB hkA.size)
    clear IH q4 r4 hat hat' hoat hoat' hdat hdat' hmax hsz hkA hGA hGB
    go_enter Tryz.func98, Tryz.ntmps98
    go_wp2_with fail
    refine (xsameKinds _ _ cols B _ (HQ5.out.old HOA.out (Nat.le_refl _)) (HR5.out.old HOA.out (Nat.le_refl _)) HBA.out).mono ?_
    rintro e w2 ⟨rfl, hk2⟩
    have HK2 := Lib.hid (HKA.out.then0 hk2)
    have HG2 := Lib.hid (HGA.out.kept hk2 (fun h => h))
    have HH2 := Lib.hid (HGB.out.kept hk2 (fun h => h))
    clear hk2 HKA HGA HGB HOA HBA
    have c17 : w2.cell? ⟨w.heap.size, 17, none⟩ = some (.slice Ga grp.length gac) := HG2.out.cell 17
    have d17 : w2.cell? ⟨w.heap.size + 1, 17, none⟩ = some (.slice Ga' grp.length gac') := HH2.out.cell 17
    have HO2 : Hid (Old B w w2) := Lib.hid (HK2.out.old hB (fun _ _ h => h))
    have HB2 : Hid (B ≤ w2.heap.size) := Lib.hid (Nat.le_trans hB HK2.out.size)
    go_wp2_with fail
    refine (xsameKinds _ _ grp B _ (HQ9.out.old HO2.out (Nat.le_refl _)) (HR9.out.old HO2.out (Nat.le_refl _)) HB2.out).mono ?_
    rintro e w3 ⟨rfl, hk3⟩
    have HK3 := Lib.hid (HK2.out.then0 hk3)
    have HG3 := Lib.hid (HG2.out.kept hk3 (fun h => h))
    have HH3 := Lib.hid (HH2.out.kept hk3 (fun h => h))
    clear hk3 c17 d17 HK2 HG2 HH2 HO2 HB2
    have c2 : w3.cell? ⟨w.heap.size, 2, none⟩ = some (.int .i64 wo) := HG3.out.cell 2
    have d2 : w3.cell? ⟨w.heap.size + 1, 2, none⟩ = some (.int .i64 wo) := HH3.out.cell 2
    have c3 : w3.cell? ⟨w.heap.size, 3, none⟩ = some (.int .i64 wc) := HG3.out.cell 3
    have d3 : w3.cell? ⟨w.heap.size + 1, 3, none⟩ = some (.int .i64 wc) := HH3.out.cell 3
    have c4 : w3.cell? ⟨w.heap.size, 4, none⟩ = some (.int .i64 lk) := HG3.out.cell 4
    have d4 : w3.cell? ⟨w.heap.size + 1, 4, none⟩ = some (.int .i64 lk) := HH3.out.cell 4
    have c5 : w3.cell? ⟨w.heap.size, 5, none⟩ = some (.int .i64 li) := HG3.out.cell 5
    have d5 : w3.cell? ⟨w.heap.size + 1, 5, none⟩ = some (.int .i64 li) := HH3.out.cell 5
    have c6 : w3.cell? ⟨w.heap.size, 6, none⟩ = some (.int .i64 la) := HG3.out.cell 6
    have d6 : w3.cell? ⟨w.heap.size + 1, 6, none⟩ = some (.int .i64 la) := HH3.out.cell 6
    have c7 : w3.cell? ⟨w.heap.size, 7, none⟩ = some (.int .i64 lb) := HG3.out.cell 7
    have d7 : w3.cell? ⟨w.heap.size + 1, 7, none⟩ = some (.int .i64 lb) := HH3.out.cell 7
    have c8 : w3.cell? ⟨w.heap.size, 8, none⟩ = some (.string lc) := HG3.out.cell 8
    have d8 : w3.cell? ⟨w.heap.size + 1, 8, none⟩ = some (.string lc) := HH3.out.cell 8
    have c9 : w3.cell? ⟨w.heap.size, 9, none⟩ = some (.int .i64 rk) := HG3.out.cell 9
    have d9 : w3.cell? ⟨w.heap.size + 1, 9, none⟩ = some (.int .i64 rk) := HH3.out.cell 9
    have c10 : w3.cell? ⟨w.heap.size, 10, none⟩ = some (.int .i64 ri) := HG3.out.cell 10
    have d10 : w3.cell? ⟨w.heap.size + 1, 10, none⟩ = some (.int .i64 ri) := HH3.out.cell 10
    have c11 : w3.cell? ⟨w.heap.size, 11, none⟩ = some (.int .i64 ra) := HG3.out.cell 11
    have d11 : w3.cell? ⟨w.heap.size + 1, 11, none⟩ = some (.int .i64 ra) := HH3.out.cell 11
    have c12 : w3.cell? ⟨w.heap.size, 12, none⟩ = some (.int .i64 rb) := HG3.out.cell 12
    have d12 : w3.cell? ⟨w.heap.size + 1, 12, none⟩ = some (.int .i64 rb) := HH3.out.cell 12
    have c13 : w3.cell? ⟨w.heap.size, 13, none⟩ = some (.string rc) := HG3.out.cell 13
    have d13 : w3.cell? ⟨w.heap.size + 1, 13, none⟩ = some (.string rc) := HH3.out.cell 13
    have c14 : w3.cell? ⟨w.heap.size, 14, none⟩ = some (.slice Wa wan wac) := HG3.out.cell 14
    have d14 : w3.cell? ⟨w.heap.size + 1, 14, none⟩ = some (.slice Wa' wan' wac') := HH3.out.cell 14
    have HO3 : Hid (Old B w w3) := Lib.hid (HK3.out.old hB (fun _ _ h => h))
    have HB3 : Hid (B ≤ w3.heap.size) := Lib.hid (Nat.le_trans hB HK3.out.size)
    go_wp2_with fail
    refine (xequalP (.mk wo wc ⟨lk, li, ⟨la, lb, lc⟩⟩ ⟨rk, ri, ⟨ra, rb, rc⟩⟩ wargs) B (.slice Wa wan wac) (.slice Wa' wan' wac') w3 (PIn.old HO3.out (Nat.le_refl _) _ _ HQ4.out) (PIn.old HO3.out (Nat.le_refl _) _ _ HR4.out) HB3.out).mono ?_
    rintro e w4 ⟨rfl, hk4⟩
    have HK4 := Lib.hid (HK3.out.then0 hk4)
    have HG4 := Lib.hid (HG3.out.kept hk4 (fun h => h))
    have HH4 := Lib.hid (HH3.out.kept hk4 (fun h => h))
    clear hk4 c2 d2 c3 d3 c4 d4 c5 d5 c6 d6 c7 d7 c8 d8 c9 d9 c10 d10 c11 d11 c12 d12 c13 d13 c14 d14 HK3 HG3 HH3 HO3 HB3 HQ4 HR4 HQ5 HR5 HQ9 HR9
    have c16 : w4.cell? ⟨w.heap.size, 16, none⟩ = some (.slice Oa on.length oac) := HG4.out.cell 16
    go_wp2_with fail
    clear c16
    go_loopw [81] (fun i wr => IdxRel on.length w4 i wr) (fun i _ => on.length - (intOf i).toNat)
    case atStart => exact ⟨0, Nat.zero_le _, rfl, Kept.refl _ _⟩
    case round =>
      obtain ⟨k, hk, rfl, hkk⟩ := hrel
      have HKK := Lib.hid (HK4.out.then0 hkk)
      have HGr := Lib.hid (HG4.out.kept hkk (fun h => h))
      have HHr := Lib.hid (HH4.out.kept hkk (fun h => h))
      have HKr := Lib.hid hkk
      clear hkk
      by_cases hlt : k < on.length
      · obtain ⟨g, o, rfl, hgB, hc⟩ := HOAT.out (by omega)
        obtain ⟨g', o', rfl, hgB', hc'⟩ := HOAT'.out (by omega)
        have hold : Old B w wr := HKK.out.old hB (fun _ _ h => h)
        obtain ⟨⟨x1, x2⟩, hx⟩ : ∃ x, on[k]? = some x := ⟨_, List.getElem?_eq_getElem hlt⟩
        have e0 : (onC on)[k * 2]? = some (.int .i64 x1) := onC_0 hx
        have e1 : (onC on)[k * 2 + 1]? = some (.int .i64 x2) := onC_1 hx
        have f0 : CellsAt wr g (o + k * 2) [.int .i64 x1, .int .i64 x2] := pairAt (hc.old hgB hold) e0 e1
        have f1 : CellsAt wr g' (o' + k * 2) [.int .i64 x1, .int .i64 x2] := pairAt (hc'.old hgB' hold) e0 e1
        have HH : Hid (wr.cell? ⟨w.heap.size, 16, none⟩ = some (.slice (some ⟨g, o, none⟩) on.length oac) ∧ wr.cell? ⟨w.heap.size + 1, 16, none⟩ = some (.slice (some ⟨g', o', none⟩) on.length oac') ∧ CellsAt wr g (o + k * 2) [.int .i64 x1, .int .i64 x2] ∧ CellsAt wr g' (o' + k * 2) [.int .i64 x1, .int .i64 x2]) := Lib.hid ⟨HGr.out.cell 16, HHr.out.cell 16, f0, f1⟩
        have hk0 : (0 : Int) ≤ (k : Int) := by omega
        have hk9 : (k : Int) < (on.length : Int) := by omega
        clear hc hc' hx hold e0 e1 f0 f1
        go_wp2_with fail
        refine wp_region_held_drew (S := fun w' => w'.cell? ⟨w.heap.size, 16, none⟩ = some (.slice (some ⟨g, o, none⟩) on.length oac) ∧ w'.cell? ⟨w.heap.size + 1, 16, none⟩ = some (.slice (some ⟨g', o', none⟩) on.length oac') ∧ CellsAt w' g (o + k * 2) [.int .i64 x1, .int .i64 x2] ∧ CellsAt w' g' (o' + k * 2) [.int .i64 x1, .int .i64 x2]) (by kernel_rfl) HH.out (fun hHeld => ?_)
        refine wpAnyH_takeD (i := 0) (v := .pointer (some ⟨w.heap.size, 16, none⟩)) rfl rfl (by kernel_rfl) (by kernel_rfl) (by kernel_rfl) (fun _ _ _ h => h) (Or.inl ⟨by rfl, fun w1 hw => by go_simp⟩) (by assumption) ?_
        (try simp only [List.setIfInBounds_toArray, List.set_cons_zero, List.set_cons_succ])
        refine wpAnyH_takeD (i := 1) (v := .slice (some ⟨g, o, none⟩) on.length oac) rfl rfl (by kernel_rfl) (by kernel_rfl) (by kernel_rfl) (fun _ _ _ h => h) (Or.inl ⟨by rfl, fun w1 hw => by have c0 := hw.1; clear hw; go_simp⟩) (by assumption) ?_
        (try simp only [List.setIfInBounds_toArray, List.set_cons_zero, List.set_cons_succ])
        refine wpAnyH_takeD (i := 2) (v := .int .i64 k) rfl rfl (by kernel_rfl) (by kernel_rfl) (by kernel_rfl) (fun _ _ _ h => h) (Or.inl ⟨by rfl, fun w1 hw => by go_simp⟩) (by assumption) ?_
        (try simp only [List.setIfInBounds_toArray, List.set_cons_zero, List.set_cons_succ])
        refine wpAnyH_takeD (i := 3) (v := .pointer (some ⟨g, o + k * 2, none⟩)) rfl rfl (by kernel_rfl) (by kernel_rfl) (by kernel_rfl) (fun _ _ _ h => h) (Or.inl ⟨by rfl, fun w1 hw => by go_simp⟩) (by assumption) ?_
        (try simp only [List.setIfInBounds_toArray, List.set_cons_zero, List.set_cons_succ])
        refine wpAnyH_takeD (i := 4) (v := .agg #[.int .i64 x1, .int .i64 x2]) rfl rfl (by kernel_rfl) (by kernel_rfl) (by kernel_rfl) (fun _ _ _ h => h) (yieldsIf_load_at (by rfl) 271 _ rfl g (o + k * 2) rfl ([.int .i64 x1, .int .i64 x2]) _ (fun w1 hw => hw.2.2.1) Tryz.underlying271 rfl (by kernel_rfl)) (by assumption) ?_
        (try simp only [List.setIfInBounds_toArray, List.set_cons_zero, List.set_cons_succ])
        refine wpAnyH_takeD (i := 5) (v := .pointer (some ⟨w.heap.size + 1, 16, none⟩)) rfl rfl (by kernel_rfl) (by kernel_rfl) (by kernel_rfl) (fun _ _ _ h => h) (Or.inl ⟨by rfl, fun w1 hw => by go_simp⟩) (by assumption) ?_
        (try simp only [List.setIfInBounds_toArray, List.set_cons_zero, List.set_cons_succ])
        refine wpAnyH_takeD (i := 6) (v := .slice (some ⟨g', o', none⟩) on.length oac') rfl rfl (by kernel_rfl) (by kernel_rfl) (by kernel_rfl) (fun _ _ _ h => h) (Or.inl ⟨by rfl, fun w1 hw => by have c0 := hw.2.1; clear hw; go_simp⟩) (by assumption) ?_
        (try simp only [List.setIfInBounds_toArray, List.set_cons_zero, List.set_cons_succ])
        refine wpAnyH_takeD (i := 7) (v := .int .i64 k) rfl rfl (by kernel_rfl) (by kernel_rfl) (by kernel_rfl) (fun _ _ _ h => h) (Or.inl ⟨by rfl, fun w1 hw => by go_simp⟩) (by assumption) ?_
        (try simp only [List.setIfInBounds_toArray, List.set_cons_zero, List.set_cons_succ])
        refine wpAnyH_takeD (i := 8) (v := .pointer (some ⟨g', o' + k * 2, none⟩)) rfl rfl (by kernel_rfl) (by kernel_rfl) (by kernel_rfl) (fun _ _ _ h => h) (Or.inl ⟨by rfl, fun w1 hw => by go_simp⟩) (by assumption) ?_
        (try simp only [List.setIfInBounds_toArray, List.set_cons_zero, List.set_cons_succ])
        refine wpAnyH_takeD (i := 9) (v := .agg #[.int .i64 x1, .int .i64 x2]) rfl rfl (by kernel_rfl) (by kernel_rfl) (by kernel_rfl) (fun _ _ _ h => h) (yieldsIf_load_at (by rfl) 271 _ rfl g' (o' + k * 2) rfl ([.int .i64 x1, .int .i64 x2]) _ (fun w1 hw => hw.2.2.2) Tryz.underlying271 rfl (by kernel_rfl)) (by assumption) ?_
        (try simp only [List.setIfInBounds_toArray, List.set_cons_zero, List.set_cons_succ])
        refine wpAnyH_takeD (i := 10) (v := .bool false) rfl rfl (by kernel_rfl) (by kernel_rfl) (by kernel_rfl) (fun _ _ _ h => h) (Or.inl ⟨by rfl, fun w1 hw => by have hq := eq_pair; go_simp⟩) (by assumption) ?_
        refine wpAnyH_done (by kernel_rfl) ?_ _
        clear hHeld
        have HK9 := Lib.hid (HKr.out.trans ((Kept.refl Kno wr).drew) (fun _ _ h => h))
        go_wp2
        go_roundw
        case rel => exact ⟨k + 1, by omega, by go_num, HK9.out⟩
        case measure => simp [intOf]; omega
      · have hk9 : ¬ (k : Int) < (on.length : Int) := by omega
        have c18 : wr.cell? ⟨w.heap.size, 18, none⟩ = some (.slice Da ord.length dac) := HGr.out.cell 18
        obtain ⟨w5, hw5⟩ : ∃ w5, w5 = wr := ⟨_, rfl⟩
        subst hw5
        have HK5 := HKK
        have HG5 := HGr
        have HH5 := HHr
        clear HKK HGr HHr
        clear HKr HK4 HG4 HH4 HOAT HOAT' HQ7 HR7
        go_wp2_with fail
        clear c18
        go_loopw [99] (fun i wr => IdxRel ord.length w5 i wr) (fun i _ => ord.length - (intOf i).toNat)
        case atStart => exact ⟨0, Nat.zero_le _, rfl, Kept.refl _ _⟩
        case round =>
          obtain ⟨k, hk, rfl, hkk⟩ := hrel
          have HKK := Lib.hid (HK5.out.then0 hkk)
          have HGr := Lib.hid (HG5.out.kept hkk (fun h => h))
          have HHr := Lib.hid (HH5.out.kept hkk (fun h => h))
          have HKr := Lib.hid hkk
          clear hkk
          by_cases hlt : k < ord.length
          · obtain ⟨g, o, rfl, hgB, hc⟩ := HDAT.out (by omega)
            obtain ⟨g', o', rfl, hgB', hc'⟩ := HDAT'.out (by omega)
            have hold : Old B w wr := HKK.out.old hB (fun _ _ h => h)
            obtain ⟨⟨x1, x2⟩, hx⟩ : ∃ x, ord[k]? = some x := ⟨_, List.getElem?_eq_getElem hlt⟩
            have e0 : (ordC ord)[k * 2]? = some (.int .i64 x1) := ordC_0 hx
            have e1 : (ordC ord)[k * 2 + 1]? = some (.bool x2) := ordC_1 hx
            have f0 : CellsAt wr g (o + k * 2) [.int .i64 x1, .bool x2] := pairAt (hc.old hgB hold) e0 e1
            have f1 : CellsAt wr g' (o' + k * 2) [.int .i64 x1, .bool x2] := pairAt (hc'.old hgB' hold) e0 e1
            have HH : Hid (wr.cell? ⟨w.heap.size, 18, none⟩ = some (.slice (some ⟨g, o, none⟩) ord.length dac) ∧ wr.cell? ⟨w.heap.size + 1, 18, none⟩ = some (.slice (some ⟨g', o', none⟩) ord.length dac') ∧ CellsAt wr g (o + k * 2) [.int .i64 x1, .bool x2] ∧ CellsAt wr g' (o' + k * 2) [.int .i64 x1, .bool x2]) := Lib.hid ⟨HGr.out.cell 18, HHr.out.cell 18, f0, f1⟩
            have hk0 : (0 : Int) ≤ (k : Int) := by omega
            have hk9 : (k : Int) < (ord.length : Int) := by omega
            clear hc hc' hx hold e0 e1 f0 f1
            go_wp2_with fail
            refine wp_region_held_drew (S := fun w' => w'.cell? ⟨w.heap.size, 18, none⟩ = some (.slice (some ⟨g, o, none⟩) ord.length dac) ∧ w'.cell? ⟨w.heap.size + 1, 18, none⟩ = some (.slice (some ⟨g', o', none⟩) ord.length dac') ∧ CellsAt w' g (o + k * 2) [.int .i64 x1, .bool x2] ∧ CellsAt w' g' (o' + k * 2) [.int .i64 x1, .bool x2]) (by kernel_rfl) HH.out (fun hHeld => ?_)
            refine wpAnyH_takeD (i := 0) (v := .pointer (some ⟨w.heap.size, 18, none⟩)) rfl rfl (by kernel_rfl) (by kernel_rfl) (by kernel_rfl) (fun _ _ _ h => h) (Or.inl ⟨by rfl, fun w1 hw => by go_simp⟩) (by assumption) ?_
            (try simp only [List.setIfInBounds_toArray, List.set_cons_zero, List.set_cons_succ])
            refine wpAnyH_takeD (i := 1) (v := .slice (some ⟨g, o, none⟩) ord.length dac) rfl rfl (by kernel_rfl) (by kernel_rfl) (by kernel_rfl) (fun _ _ _ h => h) (Or.inl ⟨by rfl, fun w1 hw => by have c0 := hw.1; clear hw; go_simp⟩) (by assumption) ?_
            (try simp only [List.setIfInBounds_toArray, List.set_cons_zero, List.set_cons_succ])
            refine wpAnyH_takeD (i := 2) (v := .int .i64 k) rfl rfl (by kernel_rfl) (by kernel_rfl) (by kernel_rfl) (fun _ _ _ h => h) (Or.inl ⟨by rfl, fun w1 hw => by go_simp⟩) (by assumption) ?_
            (try simp only [List.setIfInBounds_toArray, List.set_cons_zero, List.set_cons_succ])
            refine wpAnyH_takeD (i := 3) (v := .pointer (some ⟨g, o + k * 2, none⟩)) rfl rfl (by kernel_rfl) (by kernel_rfl) (by kernel_rfl) (fun _ _ _ h => h) (Or.inl ⟨by rfl, fun w1 hw => by go_simp⟩) (by assumption) ?_
            (try simp only [List.setIfInBounds_toArray, List.set_cons_zero, List.set_cons_succ])
            refine wpAnyH_takeD (i := 4) (v := .agg #[.int .i64 x1, .bool x2]) rfl rfl (by kernel_rfl) (by kernel_rfl) (by kernel_rfl) (fun _ _ _ h => h) (yieldsIf_load_at (by rfl) 273 _ rfl g (o + k * 2) rfl ([.int .i64 x1, .bool x2]) _ (fun w1 hw => hw.2.2.1) Tryz.underlying273 rfl (by kernel_rfl)) (by assumption) ?_
            (try simp only [List.setIfInBounds_toArray, List.set_cons_zero, List.set_cons_succ])
            refine wpAnyH_takeD (i := 5) (v := .pointer (some ⟨w.heap.size + 1, 18, none⟩)) rfl rfl (by kernel_rfl) (by kernel_rfl) (by kernel_rfl) (fun _ _ _ h => h) (Or.inl ⟨by rfl, fun w1 hw => by go_simp⟩) (by assumption) ?_
            (try simp only [List.setIfInBounds_toArray, List.set_cons_zero, List.set_cons_succ])
            refine wpAnyH_takeD (i := 6) (v := .slice (some ⟨g', o', none⟩) ord.length dac') rfl rfl (by kernel_rfl) (by kernel_rfl) (by kernel_rfl) (fun _ _ _ h => h) (Or.inl ⟨by rfl, fun w1 hw => by have c0 := hw.2.1; clear hw; go_simp⟩) (by assumption) ?_
            (try simp only [List.setIfInBounds_toArray, List.set_cons_zero, List.set_cons_succ])
            refine wpAnyH_takeD (i := 7) (v := .int .i64 k) rfl rfl (by kernel_rfl) (by kernel_rfl) (by kernel_rfl) (fun _ _ _ h => h) (Or.inl ⟨by rfl, fun w1 hw => by go_simp⟩) (by assumption) ?_
            (try simp only [List.setIfInBounds_toArray, List.set_cons_zero, List.set_cons_succ])
            refine wpAnyH_takeD (i := 8) (v := .pointer (some ⟨g', o' + k * 2, none⟩)) rfl rfl (by kernel_rfl) (by kernel_rfl) (by kernel_rfl) (fun _ _ _ h => h) (Or.inl ⟨by rfl, fun w1 hw => by go_simp⟩) (by assumption) ?_
            (try simp only [List.setIfInBounds_toArray, List.set_cons_zero, List.set_cons_succ])
            refine wpAnyH_takeD (i := 9) (v := .agg #[.int .i64 x1, .bool x2]) rfl rfl (by kernel_rfl) (by kernel_rfl) (by kernel_rfl) (fun _ _ _ h => h) (yieldsIf_load_at (by rfl) 273 _ rfl g' (o' + k * 2) rfl ([.int .i64 x1, .bool x2]) _ (fun w1 hw => hw.2.2.2) Tryz.underlying273 rfl (by kernel_rfl)) (by assumption) ?_
            (try simp only [List.setIfInBounds_toArray, List.set_cons_zero, List.set_cons_succ])
            refine wpAnyH_takeD (i := 10) (v := .bool false) rfl rfl (by kernel_rfl) (by kernel_rfl) (by kernel_rfl) (fun _ _ _ h => h) (Or.inl ⟨by rfl, fun w1 hw => by go_simp⟩) (by assumption) ?_
            refine wpAnyH_done (by kernel_rfl) ?_ _
            clear hHeld
            have HK9 := Lib.hid (HKr.out.trans ((Kept.refl Kno wr).drew) (fun _ _ h => h))
            go_wp2
            go_roundw
            case rel => exact ⟨k + 1, by omega, by go_num, HK9.out⟩
            case measure => simp [intOf]; omega
          · have hk9 : ¬ (k : Int) < (ord.length : Int) := by omega
            have c20 : wr.cell? ⟨w.heap.size, 20, none⟩ = some (.slice Aa args.length aac) := HGr.out.cell 20
            obtain ⟨w6, hw6⟩ : ∃ w6, w6 = wr := ⟨_, rfl⟩
            subst hw6
            have HK6 := HKK
            have HG6 := HGr
            have HH6 := HHr
            clear HKK HGr HHr
            clear HKr HK5 HG5 HH5 HDAT HDAT' HQ11 HR11
            go_wp2_with fail
            clear c20
            go_loopw [117] (fun i wr => IdxRel args.length w6 i wr) (fun i _ => args.length - (intOf i).toNat)
            case atStart => exact ⟨0, Nat.zero_le _, rfl, Kept.refl _ _⟩
            case round =>
              obtain ⟨k, hk, rfl, hkk⟩ := hrel
              have HKK := Lib.hid (HK6.out.then0 hkk)
              have HGr := Lib.hid (HG6.out.kept hkk (fun h => h))
              have HHr := Lib.hid (HH6.out.kept hkk (fun h => h))
              have HKr := Lib.hid hkk
              clear hkk
              by_cases hlt : k < args.length
              · obtain ⟨g, o, rfl, hgB, hc⟩ := HAT.out (by omega)
                obtain ⟨g', o', rfl, hgB', hc'⟩ := HAT'.out (by omega)
                have hold : Old B w wr := HKK.out.old hB (fun _ _ h => h)
                obtain ⟨q, hq⟩ : ∃ q, args[k]? = some q := ⟨_, List.getElem?_eq_getElem hlt⟩
                obtain ⟨sq, hqi, hqc⟩ := hc.get hq
                obtain ⟨tq, hti, htc⟩ := hc'.get hq
                have HQI := Lib.hid (QIn.old hold (Nat.le_refl _) _ _ hqi)
                have HQC := Lib.hid (hqc.old hgB hold)
                have HTI := Lib.hid (QIn.old hold (Nat.le_refl _) _ _ hti)
                have HTC := Lib.hid (htc.old hgB' hold)
                have HMEM := Lib.hid (List.mem_of_getElem? hq)
                have HI : Hid ((Tryz.prog.info? 59).map (·.size) = some (q.cells sq).length) := Lib.hid (by rw [q.cells_length sq]; kernel_rfl)
                have HI' : Hid ((Tryz.prog.info? 59).map (·.size) = some (q.cells tq).length) := Lib.hid (by rw [q.cells_length tq]; kernel_rfl)
                have HQV : Hid (q.v sq = .agg (q.cells sq).toArray) := Lib.hid (q.v_cells sq)
                have HTV : Hid (q.v tq = .agg (q.cells tq).toArray) := Lib.hid (q.v_cells tq)
                have HBR : Hid (B ≤ wr.heap.size) := Lib.hid (Nat.le_trans hB HKK.out.size)
                have HCC : Hid (Calls Tryz.prog 98 #[.agg (q.cells sq).toArray, .agg (q.cells tq).toArray] wr.drew (RetBool true wr.drew)) := Lib.hid (by
                  rw [← HQV.out, ← HTV.out]
                  have hd : Old B wr wr.drew := ((Kept.refl Kno wr).drew).old HBR.out (fun _ _ h => h)
                  exact HIH.out q HMEM.out sq tq wr.drew (QIn.old hd (Nat.le_refl _) _ _ HQI.out) (QIn.old hd (Nat.le_refl _) _ _ HTI.out) HBR.out)
                have hk0 : (0 : Int) ≤ (k : Int) := by omega
                have hk9 : (k : Int) < (args.length : Int) := by omega
                have HH : Hid (wr.cell? ⟨w.heap.size, 20, none⟩ = some (.slice (some ⟨g, o, none⟩) args.length aac) ∧ wr.cell? ⟨w.heap.size + 1, 20, none⟩ = some (.slice (some ⟨g', o', none⟩) args.length aac') ∧ CellsAt wr g (o + k * 21) (q.cells sq) ∧ CellsAt wr g' (o' + k * 21) (q.cells tq)) := Lib.hid ⟨HGr.out.cell 20, HHr.out.cell 20, HQC.out, HTC.out⟩
                clear hqc hqi htc hti hq hold hc hc'
                go_wp2_with fail
                refine wp_region_held_drew (S := fun w' => w'.cell? ⟨w.heap.size, 20, none⟩ = some (.slice (some ⟨g, o, none⟩) args.length aac) ∧ w'.cell? ⟨w.heap.size + 1, 20, none⟩ = some (.slice (some ⟨g', o', none⟩) args.length aac') ∧ CellsAt w' g (o + k * 21) (q.cells sq) ∧ CellsAt w' g' (o' + k * 21) (q.cells tq)) (by kernel_rfl) HH.out (fun hHeld => ?_)
                refine wpAnyH_takeD (i := 0) (v := .pointer (some ⟨w.heap.size, 20, none⟩)) rfl rfl (by kernel_rfl) (by kernel_rfl) (by kernel_rfl) (fun _ _ _ h => h) (Or.inl ⟨by rfl, fun w1 hw => by go_simp⟩) (by assumption) ?_
                (try simp only [List.setIfInBounds_toArray, List.set_cons_zero, List.set_cons_succ])
                refine wpAnyH_takeD (i := 1) (v := .slice (some ⟨g, o, none⟩) args.length aac) rfl rfl (by kernel_rfl) (by kernel_rfl) (by kernel_rfl) (fun _ _ _ h => h) (Or.inl ⟨by rfl, fun w1 hw => by have c0 := hw.1; clear hw; go_simp⟩) (by assumption) ?_
                (try simp only [List.setIfInBounds_toArray, List.set_cons_zero, List.set_cons_succ])
                refine wpAnyH_takeD (i := 2) (v := .int .i64 k) rfl rfl (by kernel_rfl) (by kernel_rfl) (by kernel_rfl) (fun _ _ _ h => h) (Or.inl ⟨by rfl, fun w1 hw => by go_simp⟩) (by assumption) ?_
                (try simp only [List.setIfInBounds_toArray, List.set_cons_zero, List.set_cons_succ])
                refine wpAnyH_takeD (i := 3) (v := .pointer (some ⟨g, o + k * 21, none⟩)) rfl rfl (by kernel_rfl) (by kernel_rfl) (by kernel_rfl) (fun _ _ _ h => h) (Or.inl ⟨by rfl, fun w1 hw => by go_simp⟩) (by assumption) ?_
                (try simp only [List.setIfInBounds_toArray, List.set_cons_zero, List.set_cons_succ])
                refine wpAnyH_takeD (i := 4) (v := .agg (q.cells sq).toArray) rfl rfl (by kernel_rfl) (by kernel_rfl) (by kernel_rfl) (fun _ _ _ h => h) (yieldsIf_load_at (by rfl) 59 _ rfl g (o + k * 21) rfl (q.cells sq) _ (fun w1 hw => hw.2.2.1) Tryz.underlying59 rfl HI.out) (by assumption) ?_
                (try simp only [List.setIfInBounds_toArray, List.set_cons_zero, List.set_cons_succ])
                refine wpAnyH_takeD (i := 5) (v := .pointer (some ⟨w.heap.size + 1, 20, none⟩)) rfl rfl (by kernel_rfl) (by kernel_rfl) (by kernel_rfl) (fun _ _ _ h => h) (Or.inl ⟨by rfl, fun w1 hw => by go_simp⟩) (by assumption) ?_
                (try simp only [List.setIfInBounds_toArray, List.set_cons_zero, List.set_cons_succ])
                refine wpAnyH_takeD (i := 6) (v := .slice (some ⟨g', o', none⟩) args.length aac') rfl rfl (by kernel_rfl) (by kernel_rfl) (by kernel_rfl) (fun _ _ _ h => h) (Or.inl ⟨by rfl, fun w1 hw => by have c0 := hw.2.1; clear hw; go_simp⟩) (by assumption) ?_
                (try simp only [List.setIfInBounds_toArray, List.set_cons_zero, List.set_cons_succ])
                refine wpAnyH_takeD (i := 7) (v := .int .i64 k) rfl rfl (by kernel_rfl) (by kernel_rfl) (by kernel_rfl) (fun _ _ _ h => h) (Or.inl ⟨by rfl, fun w1 hw => by go_simp⟩) (by assumption) ?_
                (try simp only [List.setIfInBounds_toArray, List.set_cons_zero, List.set_cons_succ])
                refine wpAnyH_takeD (i := 8) (v := .pointer (some ⟨g', o' + k * 21, none⟩)) rfl rfl (by kernel_rfl) (by kernel_rfl) (by kernel_rfl) (fun _ _ _ h => h) (Or.inl ⟨by rfl, fun w1 hw => by go_simp⟩) (by assumption) ?_
                (try simp only [List.setIfInBounds_toArray, List.set_cons_zero, List.set_cons_succ])
                refine wpAnyH_takeD (i := 9) (v := .agg (q.cells tq).toArray) rfl rfl (by kernel_rfl) (by kernel_rfl) (by kernel_rfl) (fun _ _ _ h => h) (yieldsIf_load_at (by rfl) 59 _ rfl g' (o' + k * 21) rfl (q.cells tq) _ (fun w1 hw => hw.2.2.2) Tryz.underlying59 rfl HI'.out) (by assumption) ?_
                (try simp only [List.setIfInBounds_toArray, List.set_cons_zero, List.set_cons_succ])
                refine wpAnyH_ready (rs := [10]) (by kernel_rfl) (by simp) ?_
                refine AllReadyH.cons rfl (fun K hK => ?_) AllReadyH.nil
                go_simp
                go_at_call 98
                refine (HCC.out).mono ?_
                rintro e x1 ⟨rfl, hk1⟩
                have hkx : Kept Kno wr x1 := ((Kept.refl Kno wr).drew).then0 hk1
                have HKX := Lib.hid hkx
                have HX4 : Hid (x1.cell? ⟨w.heap.size, 20, none⟩ = some (.slice (some ⟨g, o, none⟩) args.length aac) ∧ x1.cell? ⟨w.heap.size + 1, 20, none⟩ = some (.slice (some ⟨g', o', none⟩) args.length aac') ∧ CellsAt x1 g (o + k * 21) (q.cells sq) ∧ CellsAt x1 g' (o' + k * 21) (q.cells tq)) := Lib.hid ⟨hkx.cell_some HH.out.1 (fun h => h), hkx.cell_some HH.out.2.1 (fun h => h), HH.out.2.2.1.old hgB (hkx.old HBR.out (fun _ _ h => h)), HH.out.2.2.2.old hgB' (hkx.old HBR.out (fun _ _ h => h))⟩
                clear hk1 hkx
                go_wp2_with fail
                refine hK.out _ _ ?_ (fun hHeld => ?_)
                · exact HX4.out
                clear hK K
                (try simp only [List.setIfInBounds_toArray, List.set_cons_zero, List.set_cons_succ])
                refine wpAnyH_ready (rs := [11]) (by kernel_rfl) (by simp) ?_
                refine AllReadyH.cons rfl (fun K hK => ?_) AllReadyH.nil
                go_simp
                refine hK.out _ _ ?_ (fun hHeld => ?_)
                · exact HX4.out
                clear hK K
                refine wpAnyH_done (by kernel_rfl) ?_ _
                clear hHeld
                have HK9 := Lib.hid (HKr.out.then0 HKX.out)
                go_wp2
                go_roundw
                case rel => exact ⟨k + 1, by omega, by go_num, HK9.out⟩
                case measure => simp [intOf]; omega
              · have hk9 : ¬ (k : Int) < (args.length : Int) := by omega
                have HX : Hid (RetBool true w (.returned (.bool true)) wr) := Lib.hid ⟨rfl, HKK.out⟩
                go_wp2
                go_ret
                exact HX.out

theorem xequalQ (p : Qry) (B : Nat) (s t : QS) (w : World) (hs : QIn w B p s) (ht : QIn w B p t) (hB : B ≤ w.heap.size) :
    Calls Tryz.prog 98 #[p.v s, p.v t] w (RetBool true w) := xequalQ_n (sizeQ p) p (Nat.le_refl _) B s t w hs ht hB

end Go.Proofs.YtffdaohmalmkfaaGreat
