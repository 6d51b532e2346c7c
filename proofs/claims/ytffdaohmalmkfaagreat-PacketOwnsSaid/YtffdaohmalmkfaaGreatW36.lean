/-
  PacketOwns: the reference's Fits returns.
-/
import Derived.Test.YtffdaohmalmkfaaGreatW35
set_option linter.unusedSimpArgs false
set_option linter.unusedVariables false
namespace Go.Proofs.YtffdaohmalmkfaaGreat
open Go.RowKit
set_option linter.unusedVariables false

set_option maxRecDepth 100000 in
set_option maxHeartbeats 3000000 in
theorem fits_any (B : Nat) (sv u : Value) (ver : Int) (ts : List Tbl) (xs : List Val) (w : World) (h : SchIn w B ver ts sv) (hB : B ≤ w.heap.size) (j : Nat) (t : Tbl) (hj : ts[j]? = some t) (hu : RIn w B u xs) (hx : xs.length = t.cols.length) :
    Calls Tryz.prog 136 #[sv, .int .i64 j, u, .int .i64 3] w (RetAny w) := by
  have HX : Hid (∀ (b : Bool) (w' : World), Kept Kno w w' → RetAny w (.returned (.bool b)) w') := Lib.hid (fun b w' h => ⟨b, rfl, h⟩)
  obtain ⟨hjl, -⟩ := List.getElem?_eq_some_iff.1 hj
  obtain ⟨g, o, cap, st, rfl, hcap, hmax, hgB, hst, hcs⟩ := h.tbl hj
  obtain ⟨hcols, -, h8, hk1, hk2, -, -⟩ := hst
  obtain ⟨cA, cc, hce, hcc, hcm, -, -, -, hcat⟩ := hcols
  obtain ⟨g2, o2, rfl, hgB2, hc2⟩ := hcat (by omega)
  have HC1 : Hid (w.cell? ⟨g, o + j * 5 + 1, none⟩ = some (.slice (some ⟨g2, o2, none⟩) t.cols.length cc)) := Lib.hid (by rw [← hce]; exact hcs 1 _ rfl)
  have HCK : Hid (w.cell? ⟨g, o + j * 5 + 2, none⟩ = some (.int .i64 t.key)) := Lib.hid (hcs 2 _ rfl)
  have HC2 := Lib.hid hc2
  generalize t.cols = cols at HC1 HC2 hx hcc hk2 h8
  generalize t.key = key at HCK hk1 hk2
  obtain ⟨UA, uc, rfl⟩ : ∃ A c, u = .slice A xs.length c := SlIn.form hu
  have HU := Lib.hid hu
  have HXL := Lib.hid hx
  have hxI : ((xs.length : Int) != (cols.length : Int)) = false := by simp [hx]
  have hj0 : (0 : Int) ≤ (j : Int) := by omega
  have hjI : (j : Int) < (ts.length : Int) := by omega
  have hjn : decide ((j : Int) < 0) = false := by simp
  have hjN : decide (ts.length ≤ j) = false := by simp; omega
  have hmax' : cap ≤ 9223372036854775807 := by simpa only [maxLen] using hmax
  have hcm' : cc ≤ 9223372036854775807 := by simpa only [maxLen] using hcm
  have hgw : g < w.heap.size := by omega
  have hgw2 : g2 < w.heap.size := by omega
  have hx0 : 0 < xs.length := by omega
  clear h hj hcs hcat hc2 hce hmax hcm hu hx
  go_enter Tryz.func136, Tryz.ntmps136
  go_upto_region 1 with (fail)
  obtain ⟨w1, h1⟩ : ∃ w1, w.alloc (.cells #[.int .i64 ver, .slice (some ⟨g, o, none⟩) ts.length cap] 82) = w1 := ⟨_, rfl⟩
  have HB1 : Hid (Blk w1 w.heap.size 82 #[.int .i64 ver, .slice (some ⟨g, o, none⟩) ts.length cap]) := Lib.hid (by rw [← h1]; exact Blk.new _ _ _)
  have HK1 : Hid (Kept Kno w w1) := Lib.hid (by rw [← h1]; exact (Kept.refl _ _).alloc _)
  rw [h1]
  clear h1
  have c11 : w1.cell? ⟨w.heap.size, 1, none⟩ = some (.slice (some ⟨g, o, none⟩) ts.length cap) := HB1.out.cell 1
  have c1 : w1.cell? ⟨g, o + j * 5 + 1, none⟩ = some (.slice (some ⟨g2, o2, none⟩) cols.length cc) := HK1.out.cell_some HC1.out (fun h => h)
  go_upto_region 4 with (fail)
  clear c11 c1 hxI
  go_loopw [42] (fun i wr => NRel xs.length w1 i wr) (fun i _ => xs.length - (intOf i).toNat)
  case atStart => exact ⟨0, Nat.zero_le _, rfl, Kept.refl _ _⟩
  case round =>
    obtain ⟨k, hk, rfl, hkr⟩ := hrel
    have HKR := Lib.hid hkr
    have hk0 : (0 : Int) ≤ (k : Int) := by omega
    clear hkr
    by_cases hlt : k < xs.length
    · have hltI : (k : Int) < (xs.length : Int) := by omega
      obtain ⟨A', c', he, hc1', hc2', -, -, -, hat⟩ := HU.out
      simp only [Value.slice.injEq, true_and] at he
      obtain ⟨rfl, rfl⟩ := he
      obtain ⟨gu, ou, rfl, -, hcu⟩ := hat hx0
      obtain ⟨x, hx⟩ : ∃ x, xs[k]? = some x := ⟨_, List.getElem?_eq_getElem hlt⟩
      have hcx := CellsAt.flat (sz := 3) (i := k) (x := x) hcu (fun y => rfl) hx
      obtain ⟨xk, xn, xs'⟩ := x
      have hkw := HK1.out.then0 HKR.out
      have a0 : wr.cell? ⟨gu, ou + k * 3, none⟩ = some (.int .i64 xk) := hkw.cell_some (hcx 0 _ rfl) (fun h => h)
      have a1 : wr.cell? ⟨gu, ou + k * 3 + 1, none⟩ = some (.int .i64 xn) := hkw.cell_some (hcx 1 _ rfl) (fun h => h)
      have a2 : wr.cell? ⟨gu, ou + k * 3 + 1 + 1, none⟩ = some (.string xs') := hkw.cell_some (hcx 2 _ rfl) (fun h => h)
      have huc' : uc ≤ 9223372036854775807 := by simpa only [maxLen] using hc2'
      clear hat hcu hx hcx hkw hc2'
      go_upto_region 7 with (fail)
      obtain ⟨w2, h2⟩ : ∃ w2, wr.alloc (.cells #[.int .i64 xk, .int .i64 xn, .string xs'] 49) = w2 := ⟨_, rfl⟩
      obtain ⟨T, hT⟩ : ∃ T, wr.heap.size = T := ⟨_, rfl⟩
      have HK2 : Hid (Kept Kno w1 w2) := Lib.hid (HKR.out.then0 (by rw [← h2]; exact (Kept.refl _ _).alloc _))
      have HBT : Hid (Blk w2 T 49 #[.int .i64 xk, .int .i64 xn, .string xs']) := Lib.hid (by rw [← h2, ← hT]; exact Blk.new _ _ _)
      rw [h2, hT]
      clear h2 hT a0 a1 a2 HKR
      have t0 : w2.cell? ⟨T, 0, none⟩ = some (.int .i64 xk) := HBT.out.cell 0
      have t1 : w2.cell? ⟨T, 0 + 1, none⟩ = some (.int .i64 xn) := HBT.out.cell 1
      have t2 : w2.cell? ⟨T, 0 + 1 + 1, none⟩ = some (.string xs') := HBT.out.cell 2
      go_wp2_with fail
      refine (refValid_any xk xn xs' w2).mono ?_
      rintro e w3 ⟨rfl, hk3⟩
      have HK3 := Lib.hid (HK2.out.then0 hk3)
      have HBT3 := Lib.hid (HBT.out.kept hk3 (fun h => h))
      clear hk3 t0 t1 t2 HBT HK2
      generalize validB xk xn xs' = vb
      cases vb with
      | false =>
        go_wp2
        go_ret
        exact HX.out _ _ (HK1.out.then0 HK3.out)
      | true =>
        obtain ⟨q, hq⟩ : ∃ q, cols[k]? = some q := ⟨_, List.getElem?_eq_getElem (by have := HXL.out; omega)⟩
        have hkw := HK1.out.then0 HK3.out
        have cq : w3.cell? ⟨g2, o2 + k * 2 + 1, none⟩ = some (.int .i64 q.2) := hkw.cell_some ((CellsAt.flat (sz := 2) (i := k) (x := q) HC2.out (fun y => rfl) hq) 1 _ rfl) (fun h => h)
        have c1 : w3.cell? ⟨g, o + j * 5 + 1, none⟩ = some (.slice (some ⟨g2, o2, none⟩) cols.length cc) := hkw.cell_some HC1.out (fun h => h)
        have c11 : w3.cell? ⟨w.heap.size, 1, none⟩ = some (.slice (some ⟨g, o, none⟩) ts.length cap) := (HB1.out.kept HK3.out (fun h => h)).cell 1
        have t0 : w3.cell? ⟨T, 0, none⟩ = some (.int .i64 xk) := HBT3.out.cell 0
        have hkc : (k : Int) < (cols.length : Int) := by have := HXL.out; omega
        have hkcN : k < cols.length := by omega
        generalize q.2 = qk at cq
        clear hkw hq
        by_cases hkq : xk = qk
        · subst hkq
          go_wp2_with fail
          go_quiet (fail)
          go_wp2
          exact ⟨⟨k + 1, hlt, by go_num, HK3.out.drewN _⟩, by simp only [intOf]; omega⟩
        · have hkqb : (xk == qk) = false := by rw [beq_eq_false_iff_ne]; exact hkq
          go_wp2_with fail
          go_quiet (fail)
          obtain ⟨w4, h4⟩ : ∃ w4, w3.drewN nq = w4 := ⟨_, rfl⟩
          have hkd : Kept Kno w3 w4 := by rw [← h4]; exact (Kept.refl _ _).drewN _
          have HK4 := Lib.hid (HK3.out.then0 hkd)
          have d0 : w4.cell? ⟨T, 0, none⟩ = some (.int .i64 xk) := (HBT3.out.kept hkd (fun h => h)).cell 0
          have d11 : w4.cell? ⟨w.heap.size, 1, none⟩ = some (.slice (some ⟨g, o, none⟩) ts.length cap) := (HB1.out.kept HK4.out (fun h => h)).cell 1
          have dk : w4.cell? ⟨g, o + j * 5 + 2, none⟩ = some (.int .i64 key) := (HK1.out.then0 HK4.out).cell_some HCK.out (fun h => h)
          rw [h4]
          clear h4 hkd t0 c11 c1 cq
          by_cases h2 : xk = 2
          · subst h2
            by_cases hkk : key ≤ (k : Int)
            · go_wp2
              exact ⟨⟨k + 1, hlt, by go_num, HK4.out⟩, by simp only [intOf]; omega⟩
            · have hkk' : (k : Int) < key := by omega
              go_wp2
              go_ret
              exact HX.out _ _ (HK1.out.then0 HK4.out)
          by_cases h1 : xk = 1
          · subst h1
            by_cases hkk : key ≤ (k : Int)
            · go_wp2
              exact ⟨⟨k + 1, hlt, by go_num, HK4.out⟩, by simp only [intOf]; omega⟩
            · have hkk' : (k : Int) < key := by omega
              go_wp2
              go_ret
              exact HX.out _ _ (HK1.out.then0 HK4.out)
          have h2b : (xk == 2) = false := by rw [beq_eq_false_iff_ne]; exact h2
          have h1b : (xk == 1) = false := by rw [beq_eq_false_iff_ne]; exact h1
          go_wp2
          go_ret
          exact HX.out _ _ (HK1.out.then0 HK4.out)
    · have hltI : ¬ (k : Int) < (xs.length : Int) := by omega
      go_wp2
      go_ret
      exact HX.out _ _ (HK1.out.then0 HKR.out)

end Go.Proofs.YtffdaohmalmkfaaGreat
