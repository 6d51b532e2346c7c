/-
  PacketOwns: ref05's plain and kind, ref01's Real return.
-/
import Derived.Test.YtffdaohmalmkfaaGreatW20
set_option linter.unusedSimpArgs false
set_option linter.unusedVariables false
namespace Go.Proofs.YtffdaohmalmkfaaGreat
open Go.RowKit
set_option linter.unusedVariables false

set_option maxRecDepth 100000 in
set_option maxHeartbeats 4000000 in
theorem cplain_any (op cmp lk li la lb rk ri ra rb : Int) (lc rc : ByteArray) (A : Option Addr) (n c : Nat) (w : World) :
    Calls Tryz.prog 257 #[.agg #[.int .i64 op, .int .i64 cmp, .int .i64 lk, .int .i64 li, .int .i64 la, .int .i64 lb, .string lc, .int .i64 rk, .int .i64 ri, .int .i64 ra, .int .i64 rb, .string rc, .slice A n c]] w (RetAny w) := by
  by_cases hc : cmp = 0
  rotate_left
  · go_enter Tryz.func257, Tryz.ntmps257
    go_wp2
    go_ret
    exact ⟨_, rfl, (Kept.refl _ _).alloc _⟩
  subst hc
  go_enter Tryz.func257, Tryz.ntmps257
  go_wp2
  all_goals
    go_ret
    exact ⟨_, rfl, (Kept.refl _ _).alloc _⟩

set_option maxHeartbeats 2000000 in
theorem creal_any (k n : Int) (s : ByteArray) (w : World) : Calls Tryz.prog 225 #[.agg #[.int .i64 k, .int .i64 n, .string s]] w (RetAny w) := by
  go_enter Tryz.func225, Tryz.ntmps225
  go_upto_region 1 with (fail)
  obtain ⟨w0, h0⟩ : ∃ w0, w.alloc (.cells #[.int .i64 k, .int .i64 n, .string s] 49) = w0 := ⟨_, rfl⟩
  have HB : Hid (Blk w0 w.heap.size 49 #[.int .i64 k, .int .i64 n, .string s]) := Lib.hid (by rw [← h0]; exact Blk.new _ _ _)
  have HK0 : Hid (Kept Kno w w0) := Lib.hid (by rw [← h0]; exact (Kept.refl _ _).alloc _)
  rw [h0]
  clear h0
  go_wp2_with (refine wpList_load_row rfl 49 (.tmp 1) rfl w.heap.size rfl 49 _ (0, 0) _ HB.out Tryz.underlying49 rfl (by kernel_rfl) ?_)
  refine (refValid_any k n s w0).mono ?_
  rintro e w1 ⟨rfl, hk1⟩
  have HK1 := Lib.hid (HK0.out.then0 hk1)
  have c0 : w1.cell? ⟨w.heap.size, 0, none⟩ = some (.int .i64 k) := (HB.out.kept hk1 (fun h => h)).cell 0
  clear hk1
  cases hv : validB k n s with
  | false =>
    clear hv
    go_wp2
    go_ret
    exact ⟨_, rfl, HK1.out⟩
  | true =>
    clear hv
    go_wp2
    go_ret
    exact ⟨_, rfl, HK1.out⟩

def RetI (w : World) (e : Ending) (w' : World) : Prop := ∃ k : Int, e = .returned (.int .i64 k) ∧ Kept Kno w w'
set_option maxRecDepth 100000 in
set_option maxHeartbeats 4000000 in
theorem ckindOf_any (us vs : Value) (ks ps : List Int) (ok oi ovk ovn : Int) (os : ByteArray) (B : Nat) (w : World) (hu : SlIn w B 1 us ks.length (ks.map iv)) (hv : SlIn w B 1 vs ps.length (ps.map iv)) (hB : B ≤ w.heap.size) :
    Calls Tryz.prog 258 #[us, vs, .agg #[.int .i64 ok, .int .i64 oi, .int .i64 ovk, .int .i64 ovn, .string os]] w (RetI w) := by
  obtain ⟨UA, ucap, rfl, hucap, humax, -, -, -, hua⟩ := hu
  obtain ⟨VA, vcap, rfl, hvcap, hvmax, -, -, -, hva⟩ := hv
  have humax' : ucap ≤ 9223372036854775807 := by simpa only [maxLen] using humax
  have hvmax' : vcap ≤ 9223372036854775807 := by simpa only [maxLen] using hvmax
  have HUA := Lib.hid hua
  have HVA := Lib.hid hva
  obtain ⟨w0, h0⟩ : ∃ w0, w0 = w.alloc (.cells #[.int .i64 ok, .int .i64 oi, .int .i64 ovk, .int .i64 ovn, .string os] 51) := ⟨_, rfl⟩
  have HB : Hid (Blk w0 w.heap.size 51 #[.int .i64 ok, .int .i64 oi, .int .i64 ovk, .int .i64 ovn, .string os]) := Lib.hid (by rw [h0]; exact Blk.new _ _ _)
  have HK0 : Hid (Kept Kno w w0) := Lib.hid (by rw [h0]; exact (Kept.refl _ _).alloc _)
  have HE := Lib.hid h0
  have c0 : w0.cell? ⟨w.heap.size, 0, none⟩ = some (.int .i64 ok) := HB.out.cell 0
  have c1 : w0.cell? ⟨w.heap.size, 1, none⟩ = some (.int .i64 oi) := HB.out.cell 1
  have c2 : w0.cell? ⟨w.heap.size, 2, none⟩ = some (.int .i64 ovk) := HB.out.cell 2
  have c3 : w0.cell? ⟨w.heap.size, 3, none⟩ = some (.int .i64 ovn) := HB.out.cell 3
  have c4 : w0.cell? ⟨w.heap.size, 4, none⟩ = some (.string os) := HB.out.cell 4
  clear hua hva humax hvmax h0
  by_cases h3 : ok = 3
  · subst h3
    go_enter Tryz.func258, Tryz.ntmps258
    go_upto_region 1 with (fail)
    rw [← HE.out]
    by_cases hi0 : oi = 0
    · subst hi0
      go_wp2_with fail
      refine (creal_any ovk ovn os w0).mono ?_
      rintro e w1 ⟨b, rfl, hk1⟩
      have HK1 := Lib.hid (HK0.out.then0 hk1)
      have c2 : w1.cell? ⟨w.heap.size, 2, none⟩ = some (.int .i64 ovk) := (HB.out.kept hk1 (fun h => h)).cell 2
      clear hk1
      cases b with
      | false =>
        go_wp2
        go_ret
        exact ⟨_, rfl, HK1.out⟩
      | true =>
        go_wp2
        go_ret
        exact ⟨_, rfl, HK1.out⟩
    · have hib : (oi == 0) = false := by simpa using hi0
      go_wp2
      go_ret
      exact ⟨_, rfl, HK0.out⟩
  have hk3 : (ok == 3) = false := by simpa using h3
  by_cases h2 : ok = 2
  · subst h2
    by_cases hlo : 0 ≤ oi
    · by_cases hhi : oi < (ps.length : Int)
      · obtain ⟨j, rfl⟩ : ∃ j : Nat, oi = (j : Int) := ⟨oi.toNat, by omega⟩
        obtain ⟨g, off, rfl, hgB, hc⟩ := HVA.out (by omega)
        obtain ⟨q, hq⟩ : ∃ q, ps[j]? = some q := ⟨_, List.getElem?_eq_getElem (by omega)⟩
        have cq : w0.cell? ⟨g, off + j, none⟩ = some (.int .i64 q) := (hc.old hgB (HK0.out.old hB (fun _ _ h => h))) j _ (by rw [List.getElem?_map, hq]; rfl)
        have hge : ¬ (ps.length : Int) ≤ (j : Int) := by omega
        have hlo' : ¬ (j : Int) < 0 := by omega
        clear hc hq
        go_enter Tryz.func258, Tryz.ntmps258
        go_upto_region 1 with (fail)
        rw [← HE.out]
        go_wp2
        all_goals
          go_ret
          exact ⟨_, rfl, HK0.out⟩
      · have hge : (ps.length : Int) ≤ oi := by omega
        have hlo' : ¬ oi < 0 := by omega
        go_enter Tryz.func258, Tryz.ntmps258
        go_upto_region 1 with (fail)
        rw [← HE.out]
        go_wp2
        go_ret
        exact ⟨_, rfl, HK0.out⟩
    · have hlo' : oi < 0 := by omega
      go_enter Tryz.func258, Tryz.ntmps258
      go_upto_region 1 with (fail)
      rw [← HE.out]
      go_wp2
      go_ret
      exact ⟨_, rfl, HK0.out⟩
  have hk2 : (ok == 2) = false := by simpa using h2
  by_cases h1 : ok = 1
  · subst h1
    by_cases hlo : 0 ≤ oi
    · by_cases hhi : oi < (ks.length : Int)
      · obtain ⟨j, rfl⟩ : ∃ j : Nat, oi = (j : Int) := ⟨oi.toNat, by omega⟩
        obtain ⟨g, off, rfl, hgB, hc⟩ := HUA.out (by omega)
        obtain ⟨q, hq⟩ : ∃ q, ks[j]? = some q := ⟨_, List.getElem?_eq_getElem (by omega)⟩
        have cq : w0.cell? ⟨g, off + j, none⟩ = some (.int .i64 q) := (hc.old hgB (HK0.out.old hB (fun _ _ h => h))) j _ (by rw [List.getElem?_map, hq]; rfl)
        have hge : ¬ (ks.length : Int) ≤ (j : Int) := by omega
        have hlo' : ¬ (j : Int) < 0 := by omega
        clear hc hq
        go_enter Tryz.func258, Tryz.ntmps258
        go_upto_region 1 with (fail)
        rw [← HE.out]
        go_wp2
        all_goals
          go_ret
          exact ⟨_, rfl, HK0.out⟩
      · have hge : (ks.length : Int) ≤ oi := by omega
        have hlo' : ¬ oi < 0 := by omega
        go_enter Tryz.func258, Tryz.ntmps258
        go_upto_region 1 with (fail)
        rw [← HE.out]
        go_wp2
        go_ret
        exact ⟨_, rfl, HK0.out⟩
    · have hlo' : oi < 0 := by omega
      go_enter Tryz.func258, Tryz.ntmps258
      go_upto_region 1 with (fail)
      rw [← HE.out]
      go_wp2
      go_ret
      exact ⟨_, rfl, HK0.out⟩
  have hk1 : (ok == 1) = false := by simpa using h1
  go_enter Tryz.func258, Tryz.ntmps258
  go_upto_region 1 with (fail)
  rw [← HE.out]
  go_wp2
  go_ret
  exact ⟨_, rfl, HK0.out⟩

end Go.Proofs.YtffdaohmalmkfaaGreat
