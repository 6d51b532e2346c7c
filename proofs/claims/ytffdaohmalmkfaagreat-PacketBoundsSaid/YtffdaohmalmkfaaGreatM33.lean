/-
  Contracts and plain laws that the claim's theorem rests on, some texts in one file.
-/
import Derived.Test.YtffdaohmalmkfaaGreatM32
import Derived.BigQuiet
/-
  Packet's reference: comparisons at the same lists of numbers and predicates. (Printed by gen_pakri.py.)
-/
namespace Go.Proofs.YtffdaohmalmkfaaGreat
open Go.RowKit
set_option linter.unusedVariables false

/-- wpAnyH_take, the temporary named. -/
theorem wpAnyH_takeD {P : Program} {ops : Array Oper} {Q : Exit → Act → World → Prop} {md : Region.Mode} {S : World → Prop} {i d : Nat} {oi : Oper} {v : Value} {fuel : Nat} {listed : Array Bool} {tm : Array Value} {df : List Deferred} {w : World} (hi : ops[i]? = some oi) (hd : oi.dst = some d)
    (hs : Region.noSelect ops = true) (hf : Region.free md ops listed i = true) (hr : (Region.ready md ops listed).contains i = true)
    (hQ : ∀ c a w, Q (.panic c) (a.put oi.dst v) w → Q (.panic c) a w) (hy : YieldsIf P ops S oi v ⟨tm, df⟩) (hS : S w)
    (h : wpAnyH P md ops Q S fuel (listed.setIfInBounds i true) ⟨tm.setIfInBounds d v, df⟩ w) : wpAnyH P md ops Q S (fuel + 1) listed ⟨tm, df⟩ w :=
  wpAnyH_take hi hs hf hr hQ hy hS (by rw [hd]; exact h)

def IdxRel (n : Nat) (w : World) (i : Value) (wr : World) : Prop := ∃ k : Nat, k ≤ n ∧ i = .int .i64 k ∧ Kept Kno w wr

set_option maxRecDepth 100000 in
set_option maxHeartbeats 2000000 in
theorem xsameKinds (u v : Value) (xs : List Int) (B : Nat) (w : World) (hu : SlIn w B 1 u xs.length (xs.map iv)) (hv : SlIn w B 1 v xs.length (xs.map iv)) (hB : B ≤ w.heap.size) :
    Calls Tryz.prog 191 #[u, v] w (RetBool true w) := by
  obtain ⟨A, cap, rfl, hcap, hmax, -, hnil, hlow, hat⟩ := hu
  obtain ⟨A', cap', rfl, hcap', -, -, hnil', hlow', hat'⟩ := hv
  have HAT := Lib.hid hat
  have HAT' := Lib.hid hat'
  have hmax' : cap ≤ 9223372036854775807 := by simpa only [maxLen] using hmax
  clear hat hat' hnil hnil' hlow hlow' hmax
  go_enter Tryz.func191, Tryz.ntmps191
  go_wp2_with fail
  go_loopw [13] (fun i wr => IdxRel xs.length w i wr) (fun i _ => xs.length - (intOf i).toNat)
  case atStart => exact ⟨0, Nat.zero_le _, rfl, Kept.refl _ _⟩
  case round =>
    obtain ⟨k, hk, rfl, hkk⟩ := hrel
    by_cases hlt : k < xs.length
    · obtain ⟨g, o, rfl, hgB, hc⟩ := HAT.out (by omega)
      obtain ⟨g', o', rfl, hgB', hc'⟩ := HAT'.out (by omega)
      have hold : Old B w wr := hkk.old hB (fun _ _ h => h)
      obtain ⟨x, hx⟩ : ∃ x, xs[k]? = some x := ⟨xs[k], List.getElem?_eq_getElem hlt⟩
      have c0 : wr.cell? ⟨g, o + k, none⟩ = some (.int .i64 x) := (hc.old hgB hold) k (iv x) (by rw [List.getElem?_map, hx]; rfl)
      have c1 : wr.cell? ⟨g', o' + k, none⟩ = some (.int .i64 x) := (hc'.old hgB' hold) k (iv x) (by rw [List.getElem?_map, hx]; rfl)
      have hk0 : (0 : Int) ≤ (k : Int) := by omega
      have hk9 : (k : Int) < (xs.length : Int) := by omega
      have HK := Lib.hid hkk
      clear hc hc' hx hold hkk
      go_wp2_with fail
      go_quiet (fail)
      have HK2 := Lib.hid (HK.out.trans ((Kept.refl Kno wr).drewN nq) (fun _ _ h => h))
      go_wp2
      go_roundw
      case rel => exact ⟨k + 1, by omega, by go_num, HK2.out⟩
      case measure => simp [intOf]; omega
    · have hk9 : ¬ (k : Int) < (xs.length : Int) := by omega
      have HX : Hid (RetBool true w (.returned (.bool true)) wr) := Lib.hid ⟨rfl, hkk⟩
      clear hkk
      go_wp2
      go_ret
      exact HX.out

set_option maxRecDepth 100000 in
set_option maxHeartbeats 2000000 in
theorem xsameInts (u v : Value) (xs : List Int) (B : Nat) (w : World) (hu : SlIn w B 1 u xs.length (xs.map iv)) (hv : SlIn w B 1 v xs.length (xs.map iv)) (hB : B ≤ w.heap.size) :
    Calls Tryz.prog 40 #[u, v] w (RetBool true w) := by
  obtain ⟨A, cap, rfl, hcap, hmax, -, hnil, hlow, hat⟩ := hu
  obtain ⟨A', cap', rfl, hcap', -, -, hnil', hlow', hat'⟩ := hv
  have HAT := Lib.hid hat
  have HAT' := Lib.hid hat'
  have hmax' : cap ≤ 9223372036854775807 := by simpa only [maxLen] using hmax
  clear hat hat' hnil hnil' hlow hlow' hmax
  go_enter Tryz.func40, Tryz.ntmps40
  go_wp2_with fail
  go_loopw [13] (fun i wr => IdxRel xs.length w i wr) (fun i _ => xs.length - (intOf i).toNat)
  case atStart => exact ⟨0, Nat.zero_le _, rfl, Kept.refl _ _⟩
  case round =>
    obtain ⟨k, hk, rfl, hkk⟩ := hrel
    by_cases hlt : k < xs.length
    · obtain ⟨g, o, rfl, hgB, hc⟩ := HAT.out (by omega)
      obtain ⟨g', o', rfl, hgB', hc'⟩ := HAT'.out (by omega)
      have hold : Old B w wr := hkk.old hB (fun _ _ h => h)
      obtain ⟨x, hx⟩ : ∃ x, xs[k]? = some x := ⟨xs[k], List.getElem?_eq_getElem hlt⟩
      have c0 : wr.cell? ⟨g, o + k, none⟩ = some (.int .i64 x) := (hc.old hgB hold) k (iv x) (by rw [List.getElem?_map, hx]; rfl)
      have c1 : wr.cell? ⟨g', o' + k, none⟩ = some (.int .i64 x) := (hc'.old hgB' hold) k (iv x) (by rw [List.getElem?_map, hx]; rfl)
      have hk0 : (0 : Int) ≤ (k : Int) := by omega
      have hk9 : (k : Int) < (xs.length : Int) := by omega
      have HK := Lib.hid hkk
      clear hc hc' hx hold hkk
      go_wp2_with fail
      go_quiet (fail)
      have HK2 := Lib.hid (HK.out.trans ((Kept.refl Kno wr).drewN nq) (fun _ _ h => h))
      go_wp2
      go_roundw
      case rel => exact ⟨k + 1, by omega, by go_num, HK2.out⟩
      case measure => simp [intOf]; omega
    · have hk9 : ¬ (k : Int) < (xs.length : Int) := by omega
      have HX : Hid (RetBool true w (.returned (.bool true)) wr) := Lib.hid ⟨rfl, hkk⟩
      clear hkk
      go_wp2
      go_ret
      exact HX.out

set_option maxRecDepth 100000 in
set_option maxHeartbeats 8000000 in
theorem xequalP_n (N : Nat) : ∀ (p : Prd), sizeP p ≤ N → ∀ (B : Nat) (s t : Value) (w : World), PIn w B p s → PIn w B p t → B ≤ w.heap.size →
    Calls Tryz.prog 192 #[p.v s, p.v t] w (RetBool true w) := by
  induction N with
  | zero => intro p hp; have := sizeP_pos p; omega
  | succ N IH =>
    intro p hsz B s t w hp hq hB
    obtain ⟨op, cmp, lo, ro, args⟩ := p
    simp only [sizeP] at hsz
    simp only [PIn] at hp hq
    obtain ⟨p1, p2, p3, p4, A, cap, rfl, hcap, hmax, -, hlow, hat⟩ := hp
    obtain ⟨-, -, -, -, A', cap', rfl, hcap', -, -, hlow', hat'⟩ := hq
    have HAT := Lib.hid hat
    have HAT' := Lib.hid hat'
    have hmax' : cap ≤ 9223372036854775807 := by simpa only [maxLen] using hmax
    have HIH : Hid (∀ (p : Prd), p ∈ args → ∀ (s t : Value) (w : World), PIn w B p s → PIn w B p t → B ≤ w.heap.size → Calls Tryz.prog 192 #[p.v s, p.v t] w (RetBool true w)) := Lib.hid (by
      intro p hpm s t w h1 h2 h3
      exact IH p (by have := sizePs_mem hpm; omega) B s t w h1 h2 h3)
    obtain ⟨lk, li, ⟨la, lb, lc⟩⟩ := lo
    obtain ⟨rk, ri, ⟨ra, rb, rc⟩⟩ := ro
    simp only [Prd.v]
    obtain ⟨wA, hA⟩ : ∃ wA, wA = (w.alloc (.cells #[.int .i64 op, .int .i64 cmp, .int .i64 lk, .int .i64 li, .int .i64 la, .int .i64 lb, .string lc, .int .i64 rk, .int .i64 ri, .int .i64 ra, .int .i64 rb, .string rc, .slice A args.length cap] 54)).alloc (.cells #[.int .i64 op, .int .i64 cmp, .int .i64 lk, .int .i64 li, .int .i64 la, .int .i64 lb, .string lc, .int .i64 rk, .int .i64 ri, .int .i64 ra, .int .i64 rb, .string rc, .slice A' args.length cap'] 54) := ⟨_, rfl⟩
    have hkA : Kept Kno w wA := by rw [hA]; exact ((Kept.refl _ _).alloc _).alloc _
    have hGA : Blk wA w.heap.size 54 #[.int .i64 op, .int .i64 cmp, .int .i64 lk, .int .i64 li, .int .i64 la, .int .i64 lb, .string lc, .int .i64 rk, .int .i64 ri, .int .i64 ra, .int .i64 rb, .string rc, .slice A args.length cap] := by rw [hA]; exact (Blk.new _ _ _).alloc _
    have hGB : Blk wA (w.heap.size + 1) 54 #[.int .i64 op, .int .i64 cmp, .int .i64 lk, .int .i64 li, .int .i64 la, .int .i64 lb, .string lc, .int .i64 rk, .int .i64 ri, .int .i64 ra, .int .i64 rb, .string rc, .slice A' args.length cap'] := by
      have := Blk.new (w.alloc (.cells #[.int .i64 op, .int .i64 cmp, .int .i64 lk, .int .i64 li, .int .i64 la, .int .i64 lb, .string lc, .int .i64 rk, .int .i64 ri, .int .i64 ra, .int .i64 rb, .string rc, .slice A args.length cap] 54)) 54 #[.int .i64 op, .int .i64 cmp, .int .i64 lk, .int .i64 li, .int .i64 la, .int .i64 lb, .string lc, .int .i64 rk, .int .i64 ri, .int .i64 ra, .int .i64 rb, .string rc, .slice A' args.length cap']
      rw [size_alloc'] at this
      rw [hA]; exact this
    have HAe := Lib.hid hA
    have HGA := Lib.hid hGA
    have HGB := Lib.hid hGB
    have HKA := Lib.hid hkA
    clear IH p1 p2 p3 p4 hat hlow hat' hlow' hmax hsz hA hkA hGA hGB
    go_enter Tryz.func192, Tryz.ntmps192
    go_upto_region 1 with (fail)
    rw [← HAe.out]
    have c0 : wA.cell? ⟨w.heap.size, 0, none⟩ = some (.int .i64 op) := HGA.out.cell 0
    have d0 : wA.cell? ⟨w.heap.size + 1, 0, none⟩ = some (.int .i64 op) := HGB.out.cell 0
    have c1 : wA.cell? ⟨w.heap.size, 1, none⟩ = some (.int .i64 cmp) := HGA.out.cell 1
    have d1 : wA.cell? ⟨w.heap.size + 1, 1, none⟩ = some (.int .i64 cmp) := HGB.out.cell 1
    have c2 : wA.cell? ⟨w.heap.size, 2, none⟩ = some (.int .i64 lk) := HGA.out.cell 2
    have d2 : wA.cell? ⟨w.heap.size + 1, 2, none⟩ = some (.int .i64 lk) := HGB.out.cell 2
    have c3 : wA.cell? ⟨w.heap.size, 3, none⟩ = some (.int .i64 li) := HGA.out.cell 3
    have d3 : wA.cell? ⟨w.heap.size + 1, 3, none⟩ = some (.int .i64 li) := HGB.out.cell 3
    have c4 : wA.cell? ⟨w.heap.size, 4, none⟩ = some (.int .i64 la) := HGA.out.cell 4
    have d4 : wA.cell? ⟨w.heap.size + 1, 4, none⟩ = some (.int .i64 la) := HGB.out.cell 4
    have c5 : wA.cell? ⟨w.heap.size, 5, none⟩ = some (.int .i64 lb) := HGA.out.cell 5
    have d5 : wA.cell? ⟨w.heap.size + 1, 5, none⟩ = some (.int .i64 lb) := HGB.out.cell 5
    have c6 : wA.cell? ⟨w.heap.size, 6, none⟩ = some (.string lc) := HGA.out.cell 6
    have d6 : wA.cell? ⟨w.heap.size + 1, 6, none⟩ = some (.string lc) := HGB.out.cell 6
    have c7 : wA.cell? ⟨w.heap.size, 7, none⟩ = some (.int .i64 rk) := HGA.out.cell 7
    have d7 : wA.cell? ⟨w.heap.size + 1, 7, none⟩ = some (.int .i64 rk) := HGB.out.cell 7
    have c8 : wA.cell? ⟨w.heap.size, 8, none⟩ = some (.int .i64 ri) := HGA.out.cell 8
    have d8 : wA.cell? ⟨w.heap.size + 1, 8, none⟩ = some (.int .i64 ri) := HGB.out.cell 8
    have c9 : wA.cell? ⟨w.heap.size, 9, none⟩ = some (.int .i64 ra) := HGA.out.cell 9
    have d9 : wA.cell? ⟨w.heap.size + 1, 9, none⟩ = some (.int .i64 ra) := HGB.out.cell 9
    have c10 : wA.cell? ⟨w.heap.size, 10, none⟩ = some (.int .i64 rb) := HGA.out.cell 10
    have d10 : wA.cell? ⟨w.heap.size + 1, 10, none⟩ = some (.int .i64 rb) := HGB.out.cell 10
    have c11 : wA.cell? ⟨w.heap.size, 11, none⟩ = some (.string rc) := HGA.out.cell 11
    have d11 : wA.cell? ⟨w.heap.size + 1, 11, none⟩ = some (.string rc) := HGB.out.cell 11
    have c12 : wA.cell? ⟨w.heap.size, 12, none⟩ = some (.slice A args.length cap) := HGA.out.cell 12
    have d12 : wA.cell? ⟨w.heap.size + 1, 12, none⟩ = some (.slice A' args.length cap') := HGB.out.cell 12
    go_wp2_with fail
    clear c0 d0 c1 d1 c2 d2 c3 d3 c4 d4 c5 d5 c6 d6 c7 d7 c8 d8 c9 d9 c10 d10 c11 d11
    go_loopw [44] (fun i wr => IdxRel args.length wA i wr) (fun i _ => args.length - (intOf i).toNat)
    case atStart => exact ⟨0, Nat.zero_le _, rfl, Kept.refl _ _⟩
    case round =>
      obtain ⟨k, hk, rfl, hkk⟩ := hrel
      have HKK := Lib.hid (HKA.out.then0 hkk)
      have HGAr := Lib.hid (HGA.out.kept hkk (fun h => h))
      have HGBr := Lib.hid (HGB.out.kept hkk (fun h => h))
      have HKr := Lib.hid hkk
      clear hkk
      by_cases hlt : k < args.length
      · obtain ⟨g, o, rfl, hgB, hc⟩ := HAT.out (by omega)
        obtain ⟨g', o', rfl, hgB', hc'⟩ := HAT'.out (by omega)
        have hold : Old B w wr := HKK.out.old hB (fun _ _ h => h)
        obtain ⟨q, hq⟩ : ∃ q, args[k]? = some q := ⟨_, List.getElem?_eq_getElem hlt⟩
        obtain ⟨sq, hqi, hqc⟩ := hc.get hq
        obtain ⟨tq, hti, htc⟩ := hc'.get hq
        have HQI := Lib.hid (PIn.old hold (Nat.le_refl _) _ _ hqi)
        have HQC := Lib.hid (hqc.old hgB hold)
        have HTI := Lib.hid (PIn.old hold (Nat.le_refl _) _ _ hti)
        have HTC := Lib.hid (htc.old hgB' hold)
        have HMEM := Lib.hid (List.mem_of_getElem? hq)
        have HI : Hid ((Tryz.prog.info? 54).map (·.size) = some (q.cells sq).length) := Lib.hid (by rw [q.cells_length sq]; kernel_rfl)
        have HI' : Hid ((Tryz.prog.info? 54).map (·.size) = some (q.cells tq).length) := Lib.hid (by rw [q.cells_length tq]; kernel_rfl)
        have HQV : Hid (q.v sq = .agg (q.cells sq).toArray) := Lib.hid (q.v_cells sq)
        have HTV : Hid (q.v tq = .agg (q.cells tq).toArray) := Lib.hid (q.v_cells tq)
        have HBR : Hid (B ≤ wr.heap.size) := Lib.hid (Nat.le_trans hB HKK.out.size)
        have HCC : Hid (Calls Tryz.prog 192 #[.agg (q.cells sq).toArray, .agg (q.cells tq).toArray] wr.drew (RetBool true wr.drew)) := Lib.hid (by
          rw [← HQV.out, ← HTV.out]
          have hd : Old B wr wr.drew := ((Kept.refl Kno wr).drew).old HBR.out (fun _ _ h => h)
          exact HIH.out q HMEM.out sq tq wr.drew (PIn.old hd (Nat.le_refl _) _ _ HQI.out) (PIn.old hd (Nat.le_refl _) _ _ HTI.out) HBR.out)
        have hk0 : (0 : Int) ≤ (k : Int) := by omega
        have hk9 : (k : Int) < (args.length : Int) := by omega
        have HH : Hid (wr.cell? ⟨w.heap.size, 12, none⟩ = some (.slice (some ⟨g, o, none⟩) args.length cap) ∧ wr.cell? ⟨w.heap.size + 1, 12, none⟩ = some (.slice (some ⟨g', o', none⟩) args.length cap') ∧ CellsAt wr g (o + k * 13) (q.cells sq) ∧ CellsAt wr g' (o' + k * 13) (q.cells tq)) := Lib.hid ⟨HGAr.out.cell 12, HGBr.out.cell 12, HQC.out, HTC.out⟩
        clear hqc hqi htc hti hq hold hc hc' c12 d12
        go_wp2_with fail
        refine wp_region_held_drew (S := fun w' => w'.cell? ⟨w.heap.size, 12, none⟩ = some (.slice (some ⟨g, o, none⟩) args.length cap) ∧ w'.cell? ⟨w.heap.size + 1, 12, none⟩ = some (.slice (some ⟨g', o', none⟩) args.length cap') ∧ CellsAt w' g (o + k * 13) (q.cells sq) ∧ CellsAt w' g' (o' + k * 13) (q.cells tq)) (by kernel_rfl) HH.out (fun hHeld => ?_)
        refine wpAnyH_takeD (i := 0) (v := .pointer (some ⟨w.heap.size, 12, none⟩)) rfl rfl (by kernel_rfl) (by kernel_rfl) (by kernel_rfl) (fun _ _ _ h => h) (Or.inl ⟨by rfl, fun w1 hw => by go_simp⟩) (by assumption) ?_
        (try simp only [List.setIfInBounds_toArray, List.set_cons_zero, List.set_cons_succ])
        refine wpAnyH_takeD (i := 1) (v := .slice (some ⟨g, o, none⟩) args.length cap) rfl rfl (by kernel_rfl) (by kernel_rfl) (by kernel_rfl) (fun _ _ _ h => h) (Or.inl ⟨by rfl, fun w1 hw => by have c0 := hw.1; clear hw; go_simp⟩) (by assumption) ?_
        (try simp only [List.setIfInBounds_toArray, List.set_cons_zero, List.set_cons_succ])
        refine wpAnyH_takeD (i := 2) (v := .int .i64 k) rfl rfl (by kernel_rfl) (by kernel_rfl) (by kernel_rfl) (fun _ _ _ h => h) (Or.inl ⟨by rfl, fun w1 hw => by go_simp⟩) (by assumption) ?_
        (try simp only [List.setIfInBounds_toArray, List.set_cons_zero, List.set_cons_succ])
        refine wpAnyH_takeD (i := 3) (v := .pointer (some ⟨g, o + k * 13, none⟩)) rfl rfl (by kernel_rfl) (by kernel_rfl) (by kernel_rfl) (fun _ _ _ h => h) (Or.inl ⟨by rfl, fun w1 hw => by go_simp⟩) (by assumption) ?_
        (try simp only [List.setIfInBounds_toArray, List.set_cons_zero, List.set_cons_succ])
        refine wpAnyH_takeD (i := 4) (v := .agg (q.cells sq).toArray) rfl rfl (by kernel_rfl) (by kernel_rfl) (by kernel_rfl) (fun _ _ _ h => h) (yieldsIf_load_at (by rfl) 54 _ rfl g (o + k * 13) rfl (q.cells sq) _ (fun w1 hw => hw.2.2.1) Tryz.underlying54 rfl HI.out) (by assumption) ?_
        (try simp only [List.setIfInBounds_toArray, List.set_cons_zero, List.set_cons_succ])
        refine wpAnyH_takeD (i := 5) (v := .pointer (some ⟨w.heap.size + 1, 12, none⟩)) rfl rfl (by kernel_rfl) (by kernel_rfl) (by kernel_rfl) (fun _ _ _ h => h) (Or.inl ⟨by rfl, fun w1 hw => by go_simp⟩) (by assumption) ?_
        (try simp only [List.setIfInBounds_toArray, List.set_cons_zero, List.set_cons_succ])
        refine wpAnyH_takeD (i := 6) (v := .slice (some ⟨g', o', none⟩) args.length cap') rfl rfl (by kernel_rfl) (by kernel_rfl) (by kernel_rfl) (fun _ _ _ h => h) (Or.inl ⟨by rfl, fun w1 hw => by have c0 := hw.2.1; clear hw; go_simp⟩) (by assumption) ?_
        (try simp only [List.setIfInBounds_toArray, List.set_cons_zero, List.set_cons_succ])
        refine wpAnyH_takeD (i := 7) (v := .int .i64 k) rfl rfl (by kernel_rfl) (by kernel_rfl) (by kernel_rfl) (fun _ _ _ h => h) (Or.inl ⟨by rfl, fun w1 hw => by go_simp⟩) (by assumption) ?_
        (try simp only [List.setIfInBounds_toArray, List.set_cons_zero, List.set_cons_succ])
        refine wpAnyH_takeD (i := 8) (v := .pointer (some ⟨g', o' + k * 13, none⟩)) rfl rfl (by kernel_rfl) (by kernel_rfl) (by kernel_rfl) (fun _ _ _ h => h) (Or.inl ⟨by rfl, fun w1 hw => by go_simp⟩) (by assumption) ?_
        (try simp only [List.setIfInBounds_toArray, List.set_cons_zero, List.set_cons_succ])
        refine wpAnyH_takeD (i := 9) (v := .agg (q.cells tq).toArray) rfl rfl (by kernel_rfl) (by kernel_rfl) (by kernel_rfl) (fun _ _ _ h => h) (yieldsIf_load_at (by rfl) 54 _ rfl g' (o' + k * 13) rfl (q.cells tq) _ (fun w1 hw => hw.2.2.2) Tryz.underlying54 rfl HI'.out) (by assumption) ?_
        (try simp only [List.setIfInBounds_toArray, List.set_cons_zero, List.set_cons_succ])
        refine wpAnyH_ready (rs := [10]) (by kernel_rfl) (by simp) ?_
        refine AllReadyH.cons rfl (fun K hK => ?_) AllReadyH.nil
        go_simp
        go_at_call 192
        refine (HCC.out).mono ?_
        rintro e x1 ⟨rfl, hk1⟩
        have hkx : Kept Kno wr x1 := ((Kept.refl Kno wr).drew).then0 hk1
        have HKX := Lib.hid hkx
        have HX4 : Hid (x1.cell? ⟨w.heap.size, 12, none⟩ = some (.slice (some ⟨g, o, none⟩) args.length cap) ∧ x1.cell? ⟨w.heap.size + 1, 12, none⟩ = some (.slice (some ⟨g', o', none⟩) args.length cap') ∧ CellsAt x1 g (o + k * 13) (q.cells sq) ∧ CellsAt x1 g' (o' + k * 13) (q.cells tq)) := Lib.hid ⟨hkx.cell_some HH.out.1 (fun h => h), hkx.cell_some HH.out.2.1 (fun h => h), HH.out.2.2.1.old hgB (hkx.old HBR.out (fun _ _ h => h)), HH.out.2.2.2.old hgB' (hkx.old HBR.out (fun _ _ h => h))⟩
        clear hk1 hkx
        go_wp2_with fail
        refine hK.out _ _ ?_ (fun hHeld => ?_)
        · exact HX4.out
        clear hK K
        (try simp only [List.setIfInBounds_toArray, List.set_cons_zero, List.set_cons_succ])
        refine wpAnyH_ready (rs := [11]) (by kernel_rfl) (by simp) ?_
        refine AllReadyH.cons rfl (fun K hK => ?_) AllReadyH.nil
        go_simp
        refine hK.out _ _ ?_ (fun hHeld => ?_)
        · exact HX4.out
        clear hK K
        refine wpAnyH_done (by kernel_rfl) ?_ _
        clear hHeld
        have HK9 := Lib.hid (HKr.out.then0 HKX.out)
        go_wp2
        go_roundw
        case rel => exact ⟨k + 1, by omega, by go_num, HK9.out⟩
        case measure => simp [intOf]; omega
      · have hk9 : ¬ (k : Int) < (args.length : Int) := by omega
        have HX : Hid (RetBool true w (.returned (.bool true)) wr) := Lib.hid ⟨rfl, HKK.out⟩
        go_wp2
        go_ret
        exact HX.out

theorem xequalP (p : Prd) (B : Nat) (s t : Value) (w : World) (hs : PIn w B p s) (ht : PIn w B p t) (hB : B ≤ w.heap.size) :
    Calls Tryz.prog 192 #[p.v s, p.v t] w (RetBool true w) := xequalP_n (sizeP p) p (Nat.le_refl _) B s t w hs ht hB

end Go.Proofs.YtffdaohmalmkfaaGreat
