/-
  PacketOwns: the reference's small functions on rows: Key, Compare, CompareRows.
-/
import Derived.Test.YtffdaohmalmkfaaGreatW25
set_option linter.unusedSimpArgs false
set_option linter.unusedVariables false
namespace Go.Proofs.YtffdaohmalmkfaaGreat
open Go.RowKit
set_option linter.unusedVariables false

theorem rowC_take (xs : List Val) (k : Nat) : (rowC xs).take (k * 3) = rowC (xs.take k) := by
  induction xs generalizing k with
  | nil => simp [rowC]
  | cons x xs ih =>
    cases k with
    | zero => simp [rowC]
    | succ k =>
      have h1 : (vCells x).length = 3 := rfl
      simp only [rowC, List.flatMap_cons, List.take_succ_cons] at ih ⊢
      rw [List.take_append, List.take_of_length_le (by rw [h1]; omega), h1, show (k + 1) * 3 - 3 = k * 3 by omega, ih]
theorem RIn.take {w : World} {B : Nat} {A : Option Addr} {n cap k : Nat} {xs : List Val} (h : RIn w B (.slice A n cap) xs) (hk0 : 0 < k) (hk : k ≤ xs.length) : RIn w B (.slice A k cap) (xs.take k) := by
  obtain ⟨A', cap', he, h2, h3, h4, h5, h6, h7⟩ := h
  simp only [Value.slice.injEq] at he
  obtain ⟨rfl, rfl, rfl⟩ := he
  have hl : (xs.take k).length = k := by rw [List.length_take]; omega
  refine ⟨A, cap, by rw [hl], by rw [hl]; omega, h3, by rw [rowC_length], h5, fun kk hkk => h6 kk (by cases A with
    | none => cases hkk
    | some a => exact hkk), fun _ => ?_⟩
  obtain ⟨g, o, e, hg, hc⟩ := h7 (by omega)
  refine ⟨g, o, e, hg, fun j u hj => hc j u ?_⟩
  rw [← rowC_take, List.getElem?_take] at hj
  split at hj
  · exact hj
  · cases hj

set_option maxRecDepth 100000 in
set_option maxHeartbeats 4000000 in
theorem key_any (B : Nat) (sv u : Value) (ver : Int) (ts : List Tbl) (w : World) (h : SchIn w B ver ts sv) (hB : B ≤ w.heap.size) (j : Nat) (t : Tbl) (hj : ts[j]? = some t) (xs : List Val) (hu : RIn w B u xs) (k : Nat) (hk : t.key = k) (hx : k ≤ xs.length) (hl : xs.length ≤ 1000) :
    Calls Tryz.prog 75 #[sv, .int .i64 j, u] w (RowOk (xs.take k) w) := by
  obtain ⟨hjl, -⟩ := List.getElem?_eq_some_iff.1 hj
  obtain ⟨g, o, cap, st, rfl, hcap, hmax, hgB, hst, hcs⟩ := h.tbl hj
  obtain ⟨-, -, h8, hk1, hk2, -, -⟩ := hst
  obtain ⟨A, uc, rfl⟩ : ∃ A c, u = .slice A xs.length c := SlIn.form hu
  have hk0 : 0 < k := by omega
  have hT := hu.take hk0 hx
  have hyl : (xs.take k).length ≤ 1000 := by rw [List.length_take]; omega
  generalize xs.take k = ys at hT hyl ⊢
  have HT := Lib.hid hT
  clear hT
  obtain ⟨A', uc', he, huc, hum, -, -, -, hua⟩ := hu
  simp only [Value.slice.injEq, true_and] at he
  obtain ⟨rfl, rfl⟩ := he
  obtain ⟨g3, o3, rfl, -, -⟩ := hua (by omega)
  have k2 : w.cell? ⟨g, o + j * 5 + 2, none⟩ = some (.int .i64 (k : Int)) := by rw [← hk]; exact hcs 2 _ rfl
  have hj0 : (0 : Int) ≤ (j : Int) := by omega
  have hjI : (j : Int) < (ts.length : Int) := by omega
  have hjn : decide ((j : Int) < 0) = false := by simp
  have hjN : decide (ts.length ≤ j) = false := by simp; omega
  have hmax' : cap ≤ 9223372036854775807 := by simpa only [maxLen] using hmax
  have hum' : uc ≤ 9223372036854775807 := by simpa only [maxLen] using hum
  have hgw : g < w.heap.size := by omega
  have hxI : (k : Int) ≤ (xs.length : Int) := by omega
  have hkI : (0 : Int) < (k : Int) := by omega
  have hkuc : (k : Int) ≤ (uc : Int) := by omega
  clear h hj hcs hmax hum h8 hk1 hk2 hjl hua hk
  go_enter Tryz.func75, Tryz.ntmps75
  go_wp2_with fail
  have hkA : Kept Kno w (w.alloc (.cells #[.int .i64 ver, .slice (some ⟨g, o, none⟩) ts.length cap] 82)) := (Kept.refl _ _).alloc _
  refine (rcopy_any B _ ys _ (HT.out.keep0 hB hkA) hyl).mono ?_
  rintro e w1 ⟨A2, c2, rfl, ho, hk1⟩
  have HO := Lib.hid ho
  have HK := Lib.hid (hkA.then0 hk1)
  clear ho hk1 hkA HT
  go_wp2
  go_ret
  exact ⟨A2, c2, rfl, own_rebase HO.out (fun k e => by have := (own_base HO.out e).1; simp at this; omega), HK.out⟩

set_option maxRecDepth 100000 in
set_option maxHeartbeats 4000000 in
theorem compare_any (k1 n1 : Int) (s1 : ByteArray) (k2 n2 : Int) (s2 : ByteArray) (w : World) :
    Calls Tryz.prog 120 #[.agg #[.int .i64 k1, .int .i64 n1, .string s1], .agg #[.int .i64 k2, .int .i64 n2, .string s2]] w (RetI w) := by
  have HX : Hid (∀ (k : Int), RetI w (.returned (.int .i64 k)) ((w.alloc (.cells #[.int .i64 k1, .int .i64 n1, .string s1] 49)).alloc (.cells #[.int .i64 k2, .int .i64 n2, .string s2] 49))) := Lib.hid (fun k => ⟨k, rfl, ((Kept.refl _ _).alloc _).alloc _⟩)
  by_cases h1 : k1 < k2
  · go_enter Tryz.func120, Tryz.ntmps120
    go_wp2
    go_ret
    exact HX.out _
  by_cases h2 : k2 < k1
  · go_enter Tryz.func120, Tryz.ntmps120
    go_wp2
    go_ret
    exact HX.out _
  by_cases h3 : n1 < n2
  · go_enter Tryz.func120, Tryz.ntmps120
    go_wp2
    go_ret
    exact HX.out _
  by_cases h4 : n2 < n1
  · go_enter Tryz.func120, Tryz.ntmps120
    go_wp2
    go_ret
    exact HX.out _
  cases h5 : Op.bytesLess s1.toList s2.toList with
  | true =>
    go_enter Tryz.func120, Tryz.ntmps120
    go_wp2
    go_ret
    exact HX.out _
  | false =>
    cases h6 : Op.bytesLess s2.toList s1.toList with
    | true =>
      go_enter Tryz.func120, Tryz.ntmps120
      go_wp2 <;> (go_ret; exact HX.out _)
    | false =>
      go_enter Tryz.func120, Tryz.ntmps120
      go_wp2 <;> (go_ret; exact HX.out _)

def CRel (n m : Nat) (w : World) (i : Value) (wr : World) : Prop := ∃ j : Nat, j ≤ n ∧ j ≤ m ∧ i = .int .i64 j ∧ Kept Kno w wr
set_option maxRecDepth 100000 in
set_option maxHeartbeats 4000000 in
theorem crows_any (B : Nat) (u v : Value) (xs ys : List Val) (w : World) (hu : RIn w B u xs) (hv : RIn w B v ys) (hB : B ≤ w.heap.size) :
    Calls Tryz.prog 58 #[u, v] w (RetI w) := by
  obtain ⟨UA, ucap, rfl, hucap, humax, -, -, -, hua⟩ := hu
  obtain ⟨VA, vcap, rfl, hvcap, hvmax, -, -, -, hva⟩ := hv
  have HUA := Lib.hid hua
  have HVA := Lib.hid hva
  have humax' : ucap ≤ 9223372036854775807 := by simpa only [maxLen] using humax
  have hvmax' : vcap ≤ 9223372036854775807 := by simpa only [maxLen] using hvmax
  clear hua hva humax hvmax
  go_enter Tryz.func58, Tryz.ntmps58
  go_wp2_with fail
  go_loopw [5] (fun i wr => CRel xs.length ys.length w i wr) (fun i _ => xs.length - (intOf i).toNat)
  case atStart => exact ⟨0, Nat.zero_le _, Nat.zero_le _, rfl, Kept.refl _ _⟩
  case round =>
    obtain ⟨j, hj, hj2, rfl, hk⟩ := hrel
    have HK := Lib.hid hk
    have hj0 : (0 : Int) ≤ (j : Int) := by omega
    clear hk
    by_cases hlt : j < xs.length
    · have hltI : (j : Int) < (xs.length : Int) := by omega
      by_cases hlt2 : j < ys.length
      · have hltI2 : (j : Int) < (ys.length : Int) := by omega
        obtain ⟨g, o, rfl, hgB, hc⟩ := HUA.out (by omega)
        obtain ⟨g2, o2, rfl, hgB2, hc2⟩ := HVA.out (by omega)
        obtain ⟨x, hx⟩ : ∃ x, xs[j]? = some x := ⟨_, List.getElem?_eq_getElem hlt⟩
        obtain ⟨y, hy⟩ : ∃ y, ys[j]? = some y := ⟨_, List.getElem?_eq_getElem hlt2⟩
        have hcx := CellsAt.flat (sz := 3) (i := j) (x := x) (hc.old hgB (HK.out.old hB (fun _ _ h => h))) (fun y => rfl) hx
        have hcy := CellsAt.flat (sz := 3) (i := j) (x := y) (hc2.old hgB2 (HK.out.old hB (fun _ _ h => h))) (fun y => rfl) hy
        obtain ⟨xk, xn, xs'⟩ := x
        obtain ⟨yk, yn, ys'⟩ := y
        have a0 : wr.cell? ⟨g, o + j * 3, none⟩ = some (.int .i64 xk) := hcx 0 _ rfl
        have a1 : wr.cell? ⟨g, o + j * 3 + 1, none⟩ = some (.int .i64 xn) := hcx 1 _ rfl
        have a2 : wr.cell? ⟨g, o + j * 3 + 1 + 1, none⟩ = some (.string xs') := hcx 2 _ rfl
        have b0 : wr.cell? ⟨g2, o2 + j * 3, none⟩ = some (.int .i64 yk) := hcy 0 _ rfl
        have b1 : wr.cell? ⟨g2, o2 + j * 3 + 1, none⟩ = some (.int .i64 yn) := hcy 1 _ rfl
        have b2 : wr.cell? ⟨g2, o2 + j * 3 + 1 + 1, none⟩ = some (.string ys') := hcy 2 _ rfl
        clear hcx hcy hc hc2 hx hy
        go_upto_region 4 with (fail)
        go_region_held3 (fun w' => w'.cell? ⟨g, o + j * 3, none⟩ = some (.int .i64 xk) ∧ w'.cell? ⟨g, o + j * 3 + 1, none⟩ = some (.int .i64 xn) ∧ w'.cell? ⟨g, o + j * 3 + 1 + 1, none⟩ = some (.string xs') ∧ w'.cell? ⟨g2, o2 + j * 3, none⟩ = some (.int .i64 yk) ∧ w'.cell? ⟨g2, o2 + j * 3 + 1, none⟩ = some (.int .i64 yn) ∧ w'.cell? ⟨g2, o2 + j * 3 + 1 + 1, none⟩ = some (.string ys')) (first | (exact ⟨r0, r1, r2, r3, r4, r5⟩) | (exact ⟨a0, a1, a2, b0, b1, b2⟩) | go_keep)
          (first | (go_at_call 120; refine (compare_any _ _ _ _ _ _ _).mono ?_; rintro e w9 ⟨kr, rfl, hkk9⟩; have hk9 : Kept Kno w w9 := (HK.out.drew).then0 hkk9; have r0 := hkk9.cell_some (p := ⟨g, o + j * 3, none⟩) a0 (fun h => h); have r1 := hkk9.cell_some (p := ⟨g, o + j * 3 + 1, none⟩) a1 (fun h => h); have r2 := hkk9.cell_some (p := ⟨g, o + j * 3 + 1 + 1, none⟩) a2 (fun h => h); have r3 := hkk9.cell_some (p := ⟨g2, o2 + j * 3, none⟩) b0 (fun h => h); have r4 := hkk9.cell_some (p := ⟨g2, o2 + j * 3 + 1, none⟩) b1 (fun h => h); have r5 := hkk9.cell_some (p := ⟨g2, o2 + j * 3 + 1 + 1, none⟩) b2 (fun h => h); clear hkk9))
        clear r0 r1 r2 r3 r4 r5 a0 a1 a2 b0 b1 b2
        by_cases hkr : kr = 0
        · subst hkr
          go_wp2
          go_roundw
          case rel => exact ⟨j + 1, by omega, by omega, by go_num, hk9⟩
          case measure => simp only [intOf]; omega
        · have hkb : (kr == 0) = false := by rw [beq_eq_false_iff_ne]; exact hkr
          go_wp2
          go_ret
          exact ⟨kr, rfl, hk9⟩
      · have hlt2I : ¬ (j : Int) < (ys.length : Int) := by omega
        have hle : (ys.length : Int) < (xs.length : Int) := by omega
        go_wp2
        go_ret
        exact ⟨_, rfl, HK.out⟩
    · have hltI : ¬ (j : Int) < (xs.length : Int) := by omega
      by_cases hll : xs.length < ys.length
      · have hlI : (xs.length : Int) < (ys.length : Int) := by omega
        go_wp2
        go_ret
        exact ⟨_, rfl, HK.out⟩
      · have hlI : ¬ (xs.length : Int) < (ys.length : Int) := by omega
        by_cases hl2 : ys.length < xs.length
        · have hlI2 : (ys.length : Int) < (xs.length : Int) := by omega
          go_wp2
          go_ret
          exact ⟨_, rfl, HK.out⟩
        · have hlI2 : ¬ (ys.length : Int) < (xs.length : Int) := by omega
          go_wp2
          go_ret
          exact ⟨_, rfl, HK.out⟩

end Go.Proofs.YtffdaohmalmkfaaGreat
