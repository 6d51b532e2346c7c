/-
  Contracts and plain laws that the claim's theorem rests on, some texts in one file.
-/
import Derived.Test.YteoodgcpkgfomaaM13
import Derived.Deep.CutBlock
import Derived.Deep.RegionHeld3
/-
  The reference's disk: Crash.
-/
namespace Go.Proofs.Yteoodgcpkgfomaa
open Go.RowKit
set_option linter.unusedVariables false

def RCrashRel (base B : Nat) (vs0 : List Value) (a : Ab) (ks : List Int) (w : World) (i : Value) (wr : World) : Prop :=
  ∃ k : Nat, k ≤ 8 ∧ i = .int .i64 k ∧ Kept (Kone B) w wr ∧ ∃ vs, RIs wr base B vs ⟨a.room, crashTo k a.fs ks, a.off, a.plan⟩ ∧ VsFrom vs0 vs w.heap.size

theorem rclose_crash {base B k t : Nat} {a : Ab} {w wq wa : World} {ks : List Int} {vs0 vs : List Value} {l : List UInt8} {s : Nat} {A1 : Option Addr} {cap1 : Nat} (h : RIs wq base B vs ⟨a.room, crashTo k a.fs ks, a.off, a.plan⟩) (hK : Kept (Kone B) w wq) (hvf : VsFrom vs0 vs w.heap.size)
    (hp : (crashTo k a.fs ks)[k]? = some (l, s)) (hk : Kept Kno wq wa) (ho : wa.ownsRow wq.heap.size 5 1 (.slice A1 t cap1) t ((l.take t).map bv)) (hl : t = (l.take t).length) (hcn : t = crashN (l, s) ks[k]?) :
    (∃ vs', RIs ((wa.setCell ⟨B, 1 + k, none⟩ (.slice A1 t cap1)).setCell ⟨B, 9 + k, none⟩ (.int .i64 t)) base B vs' ⟨a.room, crashTo (k + 1) a.fs ks, a.off, a.plan⟩ ∧ VsFrom vs0 vs' w.heap.size) ∧ Kept (Kone B) w ((wa.setCell ⟨B, 1 + k, none⟩ (.slice A1 t cap1)).setCell ⟨B, 9 + k, none⟩ (.int .i64 t)) := by
  have h2 : a.fs[k]? = some (l, s) := by
    have h1 := hp
    rw [crashTo_at] at h1
    simp only [Nat.lt_irrefl, if_false, Option.map_id'] at h1
    exact h1
  have e : crashTo (k + 1) a.fs ks = (crashTo k a.fs ks).set k (l.take t, t) := by
    rw [← crashTo_succ k _ ks (l, s) h2, hcn]
    rfl
  rw [e]
  have hfit := h.fits
  have ho2 : OwnB wa base 5 (.slice A1 t cap1) (l.take t) := by
    unfold OwnB
    rw [← hl]
    exact own_rebase ho (fun k e => Nat.le_trans h.base_le (own_base ho e).1)
  have := h.set_both hk hp (.slice A1 t cap1) (l.take t) ho2 (Nat.le_of_eq hl) (by rw [List.length_take]; simp only at hfit ⊢; omega)
  exact ⟨⟨_, this.1, hvf.trans (VsFrom.set _ _ _ (fun k e => (own_base ho e).1)) hK.size⟩, hK.trans this.2 (fun _ _ e => e)⟩

set_option maxRecDepth 100000 in
set_option maxHeartbeats 8000000 in
theorem rcrash_any (keep : Value) (ks : List Int) {w : World} {base B : Nat} {vs : List Value} {a : Ab} (h : RIs w base B vs a) (hks : ∀ w1, Kept (Kone B) w w1 → KeepIn w1 keep ks) :
    Calls Try.prog 49 #[.pointer (some ⟨B, 0, none⟩), keep] w fun e w' => e = .returned (.tuple #[]) ∧ RTurn base B vs (a.crash ks) w w' := by
  obtain ⟨j0, hj, hy0, hy1, hy2⟩ := info_parts info_byte
  have HD := Lib.hid h
  have HK := Lib.hid hks
  obtain ⟨Ak, capk, rfl, hk1, hk2, -⟩ := hks w (Kept.refl _ _)
  have hm4 : ks.length ≤ 9223372036854775807 := by simp only [maxLen] at hk2; omega
  have hm5 : capk ≤ 9223372036854775807 := by simp only [maxLen] at hk2; omega
  clear h hks hk2
  go_enter Try.func49, Try.ntmps49
  go_wp2_with fail
  go_loopw [6] (fun i wr => RCrashRel base B vs a ks w i wr) (fun i _ => 8 - (intOf i).toNat)
  case atStart => exact ⟨0, by omega, rfl, Kept.refl _ _, vs, by rw [crashTo_zero]; exact HD.out, VsFrom.refl _ _⟩
  case round =>
    obtain ⟨k, hk, rfl, hkk, vs1, hd1, hvf0⟩ := hrel
    have HVS := Lib.hid hvf0
    clear hvf0
    have HD1 := Lib.hid hd1
    have HKK := Lib.hid hkk
    clear hkk
    by_cases hlt : k < 8
    · obtain ⟨v, p, hv, hp, -⟩ := hd1.file hlt
      obtain ⟨l, s⟩ := p
      have c1 := hd1.c_file hv
      have c2 := hd1.c_sync hp
      obtain ⟨hown, hsl⟩ := hd1.files k v (l, s) hv hp
      obtain ⟨Af, capf, hvf⟩ := own_form hown
      have hcap := own_cap hown hvf
      have HVF := Lib.hid hvf
      have HV := Lib.hid hv
      have HP := Lib.hid hp
      rw [hvf] at c1
      simp only at c1 c2 hsl hcap
      have hu : l.length ≤ 16777216 := by
        have h1 := used_file hp
        have h2 := hd1.room1
        have h3 := hd1.fits
        simp only at h1 h2 h3
        omega
      have hk0 : (0 : Int) ≤ (k : Int) := by omega
      have hk8 : (k : Int) < 8 := by omega
      have hcl : capf ≤ 9223372036854775807 := by have := hcap.2; simp only [maxLen] at this; omega
      have hcl2 := hcap.1
      clear hd1 hv hp hown hcap hvf
      have hn0 : (s : Int) ≤ l.length := by omega
      have hn1 : (s : Int) ≤ capf := by omega
      have hn2 : s ≤ capf := by omega
      by_cases hkl : k < ks.length
      · obtain ⟨x, hx⟩ : ∃ x, ks[k]? = some x := ⟨ks[k], List.getElem?_eq_getElem hkl⟩
        obtain ⟨Ak', capk', hkv, -, -, hkc⟩ := HK.out wr HKK.out
        injection hkv with e1 e2 e3
        subst e1 e3
        obtain ⟨g, o, rfl, hcell⟩ := hkc (by omega)
        have c3 := hcell k x hx
        have HX := Lib.hid hx
        have hkl2 : (k : Int) < (ks.length : Int) := by omega
        clear hkc hcell hx e2
        have hd1 : IntKind.i64.wrap ((l.length : Int) - s) = (l.length : Int) - s := IntWalk.i64_in _ (by omega)
        have hd0 : ¬ ((l.length : Int) - s < 0) := by omega
        by_cases hx0 : x < 0
        · have HCN : Hid (s = crashN (l, s) ks[k]?) := Lib.hid (by
            rw [HX.out]
            have : x.toNat = 0 := by omega
            simp [crashN, this])
          go_wp2_with fail
          go_quiet (fail)
          clear hd1 c3 c1 c2
          have hq := HD1.out.kept0 ((Kept.refl Kno wr).drewN nq)
          have HKQ : Hid (Kept (Kone B) w (wr.drewN nq)) := Lib.hid (HKK.out.drewN nq)
          generalize wr.drewN nq = wq at hq HKQ ⊢
          obtain ⟨t, ht⟩ : ∃ t : Nat, t = s := ⟨_, rfl⟩
          obtain rfl := ht
          have htl : t ≤ l.length := hsl
          have hs1 : IntKind.i64.wrap (t : Int) = (t : Int) := IntWalk.i64_in _ (by omega)
          have hs2 : (0 : Int) ≤ (t : Int) := by omega
          clear HD1 HKK
          have c1 := hq.c_file HV.out
          rw [HVF.out] at c1
          have c2 := hq.c_sync HP.out
          have ff := hq.blk.frozen (1 + k)
          have fs := hq.blk.frozen (9 + k)
          have lB := hq.blk.lt
          have hown := (hq.files k v (l, t) HV.out HP.out).1
          have kc := own_cap hown HVF.out
          have hcut : Bs wq (.slice Af t capf) (l.take t) := by
            have h9 := OwnB.bs hown
            rw [HVF.out] at h9
            exact Bs.cut h9 htl
          have HL : Hid (t = (l.take t).length) := Lib.hid (by rw [List.length_take]; omega)
          have HCUT : Hid (Rd wq 1 (.slice Af t capf) t ((l.take t).map bv)) := Lib.hid (by unfold Bs at hcut; rw [← HL.out] at hcut; exact hcut)
          have M0 := Lib.hid (World.ownsRow_made (base := wq.heap.size) (e := 5) (size := 1) wq #[] 0 (Nat.le_refl _) (by decide) rfl)
          have m1 : 0 + t ≤ maxLen := by simp only [maxLen]; omega
          have HQ := Lib.hid hq
          clear hq hown hcut kc
          simp only at c1 c2
          go_wp2_with fail
          go_region_law ((refine step_append_rd _ (by rfl) _ _ 30 (by rfl) wq.heap.size 5 j0 _ 1 1 Try.underlying30 hj hy0 hy1 hy2 rfl (by omega) (.slice (some ⟨wq.heap.size, 0, none⟩) 0 0) 0 [] (by rfl) M0.out _ t ((l.take t).map bv) (by rfl) (Rd.alloc HCUT.out _) (bvs_one _) m1 (by omega) (by simp) ?_
                          intro A1 cap1 wa hown1 hg1 hat1
                          have hka : Kept Kno wq wa := (Kept.drew (Kept.alloc (Kept.refl _ wq) _)).grown hg1 (fun k hk e => by cases e; exact absurd hk (Nat.lt_irrefl _))
                          have q : wa.cell? ⟨B, 1 + k, none⟩ = some (.slice Af l.length capf) := hka.cell_some c1 (fun h => h)
                          have q' : wa.frozen? ⟨B, 1 + k, none⟩ = false := hka.frozen_no ff lB (fun h => h)
                          have r : wa.cell? ⟨B, 9 + k, none⟩ = some (.int .i64 (t : Nat)) := hka.cell_some c2 (fun h => h)
                          have r' : wa.frozen? ⟨B, 9 + k, none⟩ = false := hka.frozen_no fs lB (fun h => h)
                          simp only [Nat.zero_add, List.nil_append] at hown1
                          rw [Nat.zero_add]))
          all_goals
            have r2 : (wa.setCell ⟨B, 1 + k, none⟩ (.slice A1 t cap1)).cell? ⟨B, 9 + k, none⟩ = some (.int .i64 (t : Nat)) := (cell_apart _ B _ _ _ (by omega)).trans r
            have r3 : (wa.setCell ⟨B, 1 + k, none⟩ (.slice A1 t cap1)).cell? ⟨B, 1 + k, none⟩ = some (.slice A1 t cap1) := cell_same _ _ _ q
            have r4 : (wa.setCell ⟨B, 1 + k, none⟩ (.slice A1 t cap1)).frozen? ⟨B, 9 + k, none⟩ = false := by go_simp
            have HC := Lib.hid (rclose_crash HQ.out HKQ.out HVS.out HP.out hka hown1 HL.out HCN.out)
            generalize wa.setCell ⟨B, 1 + k, none⟩ (.slice A1 t cap1) = wb at r2 r3 r4 HC ⊢
            clear q q' r r' hka hown1 hg1 hat1 c1 c2 ff fs lB HCUT M0 HQ
            go_wp2_with fail
            go_region_law (fail)
            all_goals
              go_wp2
              refine ⟨⟨k + 1, by omega, by go_num, HC.out.2.then0 ((Kept.refl _ _).drewN _), ?_⟩, by simp [intOf]; omega⟩
              obtain ⟨⟨vs9, h9, h8⟩, -⟩ := HC.out
              exact ⟨vs9, h9.kept0 ((Kept.refl _ _).drewN _), h8⟩
        · obtain ⟨y, rfl⟩ : ∃ y : Nat, x = (y : Int) := ⟨x.toNat, by omega⟩
          obtain ⟨d, hd⟩ : ∃ d : Nat, l.length = s + d := ⟨l.length - s, by omega⟩
          have hcn : s + min y d = crashN (l, s) ks[k]? := by
            have : l.length - s = d := by omega
            rw [HX.out]
            simp [crashN, this]
          have hsub : (l.length : Int) - s = (d : Int) := by omega
          rw [hsub] at hd1 hd0
          by_cases hyd : y ≤ d
          · rw [Nat.min_eq_left hyd] at hcn
            have hyd1 : ¬ (d : Int) < (y : Int) := by omega
            have hyd2 : (y : Int) ≤ (d : Int) := by omega
            obtain ⟨t, ht⟩ : ∃ t : Nat, t = s + y := ⟨_, rfl⟩
            rw [← ht] at hcn
            have HCN := Lib.hid hcn
            have htl : t ≤ l.length := by omega
            have hn3 : (t : Int) ≤ l.length := by omega
            have hn4 : (t : Int) ≤ capf := by omega
            have hn5 : t ≤ capf := by omega
            have hs1 : IntKind.i64.wrap ((s : Int) + y) = (t : Int) := by rw [IntWalk.i64_in _ (by omega)]; omega
            clear hd ht hcn
            go_wp2_with fail
            go_quiet (fail)
            clear hd1 c3 c1 c2
            have hq := HD1.out.kept0 ((Kept.refl Kno wr).drewN nq)
            have HKQ : Hid (Kept (Kone B) w (wr.drewN nq)) := Lib.hid (HKK.out.drewN nq)
            generalize wr.drewN nq = wq at hq HKQ ⊢
            clear HD1 HKK
            have c1 := hq.c_file HV.out
            rw [HVF.out] at c1
            have c2 := hq.c_sync HP.out
            have ff := hq.blk.frozen (1 + k)
            have fs := hq.blk.frozen (9 + k)
            have lB := hq.blk.lt
            have hown := (hq.files k v (l, s) HV.out HP.out).1
            have kc := own_cap hown HVF.out
            have hcut : Bs wq (.slice Af t capf) (l.take t) := by
              have h9 := OwnB.bs hown
              rw [HVF.out] at h9
              exact Bs.cut h9 htl
            have HL : Hid (t = (l.take t).length) := Lib.hid (by rw [List.length_take]; omega)
            have HCUT : Hid (Rd wq 1 (.slice Af t capf) t ((l.take t).map bv)) := Lib.hid (by unfold Bs at hcut; rw [← HL.out] at hcut; exact hcut)
            have M0 := Lib.hid (World.ownsRow_made (base := wq.heap.size) (e := 5) (size := 1) wq #[] 0 (Nat.le_refl _) (by decide) rfl)
            have m1 : 0 + t ≤ maxLen := by simp only [maxLen]; omega
            have HQ := Lib.hid hq
            clear hq hown hcut kc
            simp only at c1 c2
            go_wp2_with fail
            go_region_law ((refine step_append_rd _ (by rfl) _ _ 30 (by rfl) wq.heap.size 5 j0 _ 1 1 Try.underlying30 hj hy0 hy1 hy2 rfl (by omega) (.slice (some ⟨wq.heap.size, 0, none⟩) 0 0) 0 [] (by rfl) M0.out _ t ((l.take t).map bv) (by rfl) (Rd.alloc HCUT.out _) (bvs_one _) m1 (by omega) (by simp) ?_
                            intro A1 cap1 wa hown1 hg1 hat1
                            have hka : Kept Kno wq wa := (Kept.drew (Kept.alloc (Kept.refl _ wq) _)).grown hg1 (fun k hk e => by cases e; exact absurd hk (Nat.lt_irrefl _))
                            have q : wa.cell? ⟨B, 1 + k, none⟩ = some (.slice Af l.length capf) := hka.cell_some c1 (fun h => h)
                            have q' : wa.frozen? ⟨B, 1 + k, none⟩ = false := hka.frozen_no ff lB (fun h => h)
                            have r : wa.cell? ⟨B, 9 + k, none⟩ = some (.int .i64 s) := hka.cell_some c2 (fun h => h)
                            have r' : wa.frozen? ⟨B, 9 + k, none⟩ = false := hka.frozen_no fs lB (fun h => h)
                            simp only [Nat.zero_add, List.nil_append] at hown1
                            rw [Nat.zero_add]))
            all_goals
              have r2 : (wa.setCell ⟨B, 1 + k, none⟩ (.slice A1 t cap1)).cell? ⟨B, 9 + k, none⟩ = some (.int .i64 s) := (cell_apart _ B _ _ _ (by omega)).trans r
              have r3 : (wa.setCell ⟨B, 1 + k, none⟩ (.slice A1 t cap1)).cell? ⟨B, 1 + k, none⟩ = some (.slice A1 t cap1) := cell_same _ _ _ q
              have r4 : (wa.setCell ⟨B, 1 + k, none⟩ (.slice A1 t cap1)).frozen? ⟨B, 9 + k, none⟩ = false := by go_simp
              have HC := Lib.hid (rclose_crash HQ.out HKQ.out HVS.out HP.out hka hown1 HL.out HCN.out)
              generalize wa.setCell ⟨B, 1 + k, none⟩ (.slice A1 t cap1) = wb at r2 r3 r4 HC ⊢
              clear q q' r r' hka hown1 hg1 hat1 c1 c2 ff fs lB HCUT M0 HQ
              go_wp2_with fail
              go_region_law (fail)
              all_goals
                go_wp2
                refine ⟨⟨k + 1, by omega, by go_num, HC.out.2.then0 ((Kept.refl _ _).drewN _), ?_⟩, by simp [intOf]; omega⟩
                obtain ⟨⟨vs9, h9, h8⟩, -⟩ := HC.out
                exact ⟨vs9, h9.kept0 ((Kept.refl _ _).drewN _), h8⟩
          · rw [Nat.min_eq_right (by omega)] at hcn
            have hyd1 : (d : Int) < (y : Int) := by omega
            have hyd2 : ¬ (y : Int) ≤ (d : Int) := by omega
            obtain ⟨t, ht⟩ : ∃ t : Nat, t = s + d := ⟨_, rfl⟩
            rw [← ht] at hcn
            have HCN := Lib.hid hcn
            have htl : t ≤ l.length := by omega
            have hn3 : (t : Int) ≤ l.length := by omega
            have hn4 : (t : Int) ≤ capf := by omega
            have hn5 : t ≤ capf := by omega
            have hs1 : IntKind.i64.wrap ((s : Int) + d) = (t : Int) := by rw [IntWalk.i64_in _ (by omega)]; omega
            clear hd ht hcn
            go_wp2_with fail
            go_quiet (fail)
            clear hd1 c3 c1 c2
            have hq := HD1.out.kept0 ((Kept.refl Kno wr).drewN nq)
            have HKQ : Hid (Kept (Kone B) w (wr.drewN nq)) := Lib.hid (HKK.out.drewN nq)
            generalize wr.drewN nq = wq at hq HKQ ⊢
            clear HD1 HKK
            have c1 := hq.c_file HV.out
            rw [HVF.out] at c1
            have c2 := hq.c_sync HP.out
            have ff := hq.blk.frozen (1 + k)
            have fs := hq.blk.frozen (9 + k)
            have lB := hq.blk.lt
            have hown := (hq.files k v (l, s) HV.out HP.out).1
            have kc := own_cap hown HVF.out
            have hcut : Bs wq (.slice Af t capf) (l.take t) := by
              have h9 := OwnB.bs hown
              rw [HVF.out] at h9
              exact Bs.cut h9 htl
            have HL : Hid (t = (l.take t).length) := Lib.hid (by rw [List.length_take]; omega)
            have HCUT : Hid (Rd wq 1 (.slice Af t capf) t ((l.take t).map bv)) := Lib.hid (by unfold Bs at hcut; rw [← HL.out] at hcut; exact hcut)
            have M0 := Lib.hid (World.ownsRow_made (base := wq.heap.size) (e := 5) (size := 1) wq #[] 0 (Nat.le_refl _) (by decide) rfl)
            have m1 : 0 + t ≤ maxLen := by simp only [maxLen]; omega
            have HQ := Lib.hid hq
            clear hq hown hcut kc
            simp only at c1 c2
            go_wp2_with fail
            go_region_law ((refine step_append_rd _ (by rfl) _ _ 30 (by rfl) wq.heap.size 5 j0 _ 1 1 Try.underlying30 hj hy0 hy1 hy2 rfl (by omega) (.slice (some ⟨wq.heap.size, 0, none⟩) 0 0) 0 [] (by rfl) M0.out _ t ((l.take t).map bv) (by rfl) (Rd.alloc HCUT.out _) (bvs_one _) m1 (by omega) (by simp) ?_
                            intro A1 cap1 wa hown1 hg1 hat1
                            have hka : Kept Kno wq wa := (Kept.drew (Kept.alloc (Kept.refl _ wq) _)).grown hg1 (fun k hk e => by cases e; exact absurd hk (Nat.lt_irrefl _))
                            have q : wa.cell? ⟨B, 1 + k, none⟩ = some (.slice Af l.length capf) := hka.cell_some c1 (fun h => h)
                            have q' : wa.frozen? ⟨B, 1 + k, none⟩ = false := hka.frozen_no ff lB (fun h => h)
                            have r : wa.cell? ⟨B, 9 + k, none⟩ = some (.int .i64 s) := hka.cell_some c2 (fun h => h)
                            have r' : wa.frozen? ⟨B, 9 + k, none⟩ = false := hka.frozen_no fs lB (fun h => h)
                            simp only [Nat.zero_add, List.nil_append] at hown1
                            rw [Nat.zero_add]))
            all_goals
              have r2 : (wa.setCell ⟨B, 1 + k, none⟩ (.slice A1 t cap1)).cell? ⟨B, 9 + k, none⟩ = some (.int .i64 s) := (cell_apart _ B _ _ _ (by omega)).trans r
              have r3 : (wa.setCell ⟨B, 1 + k, none⟩ (.slice A1 t cap1)).cell? ⟨B, 1 + k, none⟩ = some (.slice A1 t cap1) := cell_same _ _ _ q
              have r4 : (wa.setCell ⟨B, 1 + k, none⟩ (.slice A1 t cap1)).frozen? ⟨B, 9 + k, none⟩ = false := by go_simp
              have HC := Lib.hid (rclose_crash HQ.out HKQ.out HVS.out HP.out hka hown1 HL.out HCN.out)
              generalize wa.setCell ⟨B, 1 + k, none⟩ (.slice A1 t cap1) = wb at r2 r3 r4 HC ⊢
              clear q q' r r' hka hown1 hg1 hat1 c1 c2 ff fs lB HCUT M0 HQ
              go_wp2_with fail
              go_region_law (fail)
              all_goals
                go_wp2
                refine ⟨⟨k + 1, by omega, by go_num, HC.out.2.then0 ((Kept.refl _ _).drewN _), ?_⟩, by simp [intOf]; omega⟩
                obtain ⟨⟨vs9, h9, h8⟩, -⟩ := HC.out
                exact ⟨vs9, h9.kept0 ((Kept.refl _ _).drewN _), h8⟩
      · have hkl2 : ¬ (k : Int) < (ks.length : Int) := by omega
        have HCN : Hid (s = crashN (l, s) ks[k]?) := Lib.hid (by rw [List.getElem?_eq_none (by omega)]; rfl)
        obtain ⟨t, ht⟩ : ∃ t : Nat, t = s := ⟨_, rfl⟩
        obtain rfl := ht
        have htl : t ≤ l.length := hsl
        have hs1 : IntKind.i64.wrap (t : Int) = (t : Int) := IntWalk.i64_in _ (by omega)
        have hs2 : (0 : Int) ≤ (t : Int) := by omega
        have hq := HD1.out
        have HKQ := Lib.hid HKK.out
        clear c1 c2
        obtain ⟨wq, rfl⟩ : ∃ wq : World, wq = wr := ⟨_, rfl⟩
        clear HD1 HKK
        have c1 := hq.c_file HV.out
        rw [HVF.out] at c1
        have c2 := hq.c_sync HP.out
        have ff := hq.blk.frozen (1 + k)
        have fs := hq.blk.frozen (9 + k)
        have lB := hq.blk.lt
        have hown := (hq.files k v (l, t) HV.out HP.out).1
        have kc := own_cap hown HVF.out
        have hcut : Bs wq (.slice Af t capf) (l.take t) := by
          have h9 := OwnB.bs hown
          rw [HVF.out] at h9
          exact Bs.cut h9 htl
        have HL : Hid (t = (l.take t).length) := Lib.hid (by rw [List.length_take]; omega)
        have HCUT : Hid (Rd wq 1 (.slice Af t capf) t ((l.take t).map bv)) := Lib.hid (by unfold Bs at hcut; rw [← HL.out] at hcut; exact hcut)
        have M0 := Lib.hid (World.ownsRow_made (base := wq.heap.size) (e := 5) (size := 1) wq #[] 0 (Nat.le_refl _) (by decide) rfl)
        have m1 : 0 + t ≤ maxLen := by simp only [maxLen]; omega
        have HQ := Lib.hid hq
        clear hq hown hcut kc
        simp only at c1 c2
        go_wp2_with fail
        go_region_law ((refine step_append_rd _ (by rfl) _ _ 30 (by rfl) wq.heap.size 5 j0 _ 1 1 Try.underlying30 hj hy0 hy1 hy2 rfl (by omega) (.slice (some ⟨wq.heap.size, 0, none⟩) 0 0) 0 [] (by rfl) M0.out _ t ((l.take t).map bv) (by rfl) (Rd.alloc HCUT.out _) (bvs_one _) m1 (by omega) (by simp) ?_
                        intro A1 cap1 wa hown1 hg1 hat1
                        have hka : Kept Kno wq wa := (Kept.drew (Kept.alloc (Kept.refl _ wq) _)).grown hg1 (fun k hk e => by cases e; exact absurd hk (Nat.lt_irrefl _))
                        have q : wa.cell? ⟨B, 1 + k, none⟩ = some (.slice Af l.length capf) := hka.cell_some c1 (fun h => h)
                        have q' : wa.frozen? ⟨B, 1 + k, none⟩ = false := hka.frozen_no ff lB (fun h => h)
                        have r : wa.cell? ⟨B, 9 + k, none⟩ = some (.int .i64 (t : Nat)) := hka.cell_some c2 (fun h => h)
                        have r' : wa.frozen? ⟨B, 9 + k, none⟩ = false := hka.frozen_no fs lB (fun h => h)
                        simp only [Nat.zero_add, List.nil_append] at hown1
                        rw [Nat.zero_add]))
        all_goals
          have r2 : (wa.setCell ⟨B, 1 + k, none⟩ (.slice A1 t cap1)).cell? ⟨B, 9 + k, none⟩ = some (.int .i64 (t : Nat)) := (cell_apart _ B _ _ _ (by omega)).trans r
          have r3 : (wa.setCell ⟨B, 1 + k, none⟩ (.slice A1 t cap1)).cell? ⟨B, 1 + k, none⟩ = some (.slice A1 t cap1) := cell_same _ _ _ q
          have r4 : (wa.setCell ⟨B, 1 + k, none⟩ (.slice A1 t cap1)).frozen? ⟨B, 9 + k, none⟩ = false := by go_simp
          have HC := Lib.hid (rclose_crash HQ.out HKQ.out HVS.out HP.out hka hown1 HL.out HCN.out)
          generalize wa.setCell ⟨B, 1 + k, none⟩ (.slice A1 t cap1) = wb at r2 r3 r4 HC ⊢
          clear q q' r r' hka hown1 hg1 hat1 c1 c2 ff fs lB HCUT M0 HQ
          go_wp2_with fail
          go_region_law (fail)
          all_goals
            go_wp2
            refine ⟨⟨k + 1, by omega, by go_num, HC.out.2.then0 ((Kept.refl _ _).drewN _), ?_⟩, by simp [intOf]; omega⟩
            obtain ⟨⟨vs9, h9, h8⟩, -⟩ := HC.out
            exact ⟨vs9, h9.kept0 ((Kept.refl _ _).drewN _), h8⟩
    · have hk8 : ¬ (k : Int) < 8 := by omega
      obtain rfl : k = 8 := by omega
      have c1 := hd1.c_plan
      have c2 := hd1.c_down
      have f1 := hd1.blk.frozen 17
      have f2 := hd1.blk.frozen 18
      have hs := hd1.set_pd 0 false (by omega) (by omega)
      have HT : Hid (RTurn base B vs (a.crash ks) w ((wr.setCell ⟨B, 17, none⟩ (.int .i64 0)).setCell ⟨B, 18, none⟩ (.bool false))) := Lib.hid ⟨⟨vs1, hs, HVS.out⟩, Kept.setIn (S := Kone B) (Kept.setIn (S := Kone B) HKK.out (p := ⟨B, 17, none⟩) (Eq.refl B) _) (p := ⟨B, 18, none⟩) (Eq.refl B) _⟩
      clear hs hd1
      simp only at c1 c2
      go_wp2
      go_end0
      exact ⟨rfl, HT.out⟩

end Go.Proofs.Yteoodgcpkgfomaa
/-
  Journal: the program's side and the reference's side lie apart.
-/
namespace Go.Proofs.Yteoodgcpkgfomaa
open Go.RowKit
set_option linter.unusedVariables false

set_option maxHeartbeats 400000 in
theorem knew_any (room : Int) (w : World) (h1 : 0 ≤ room) (h2 : room ≤ 16777216) :
    Calls Try.prog 12 #[.int .i64 room] w fun e w' =>
      e = .returned (.tuple #[.pointer (some ⟨w.heap.size, 0, none⟩), .int .i64 0]) ∧ w' = w.alloc (.cells (rCells room (List.replicate 8 (Value.slice none 0 0)) (List.replicate 8 0) 0 false).toArray 79) := by
  go_enter Try.func12, Try.ntmps12
  go_wp2
  go_ret2
  exact ⟨rfl, rfl⟩
theorem kris_new (w : World) (base : Nat) (room : Int) (hb : base ≤ w.heap.size) (h0 : 0 ≤ room) (h1 : room ≤ 16777216) :
    RIs (w.alloc (.cells (rCells room (List.replicate 8 (Value.slice none 0 0)) (List.replicate 8 0) 0 false).toArray 79)) base w.heap.size (List.replicate 8 (Value.slice none 0 0)) (ab0 room) := by
  refine ⟨hb, Blk.new _ _ _, rfl, rfl, fun i v p hv hp => ?_, by simp [ab0, Ab.used]; exact h0, h0, h1, by simp [ab0], by simp [ab0]⟩
  rw [List.getElem?_replicate] at hv
  simp only [ab0] at hp
  rw [List.getElem?_replicate] at hp
  split at hv
  · rw [if_pos ‹_›] at hp
    cases hv
    cases hp
    exact ⟨World.ownsRow_nil _ _ _ _, Nat.le_refl _⟩
  · cases hv


/-- Two sides: what the one owns the other does not; both are new since W. -/
structure Sides (W w : World) (P Q : Nat → Prop) : Prop where
  ap : ∀ k, P k → ¬ Q k
  pl : ∀ k, P k → W.heap.size ≤ k ∧ k < w.heap.size
  ql : ∀ k, Q k → W.heap.size ≤ k ∧ k < w.heap.size
  k : Kept Kno W w
section
variable {W w w' : World} {P Q P' Q' : Nat → Prop}
theorem Sides.kept0 (h : Sides W w P Q) (hk : Kept Kno w w') : Sides W w' P Q :=
  ⟨h.ap, fun k e => ⟨(h.pl k e).1, Nat.lt_of_lt_of_le (h.pl k e).2 hk.size⟩, fun k e => ⟨(h.ql k e).1, Nat.lt_of_lt_of_le (h.ql k e).2 hk.size⟩, h.k.then0 hk⟩
theorem Sides.swap (h : Sides W w P Q) : Sides W w Q P := ⟨fun k h1 h2 => h.ap k h2 h1, h.ql, h.pl, h.k⟩
/-- The first side moves. -/
theorem Sides.move {S : Nat → Prop} (h : Sides W w P Q) (hk : Kept S w w') (hS : ∀ k, S k → P k) (hP : ∀ k, P' k → P k ∨ w.heap.size ≤ k) (hl : ∀ k, P' k → k < w'.heap.size) : Sides W w' P' Q := by
  have hs := hk.size
  have hW := h.k.size
  refine ⟨fun k e e' => ?_, fun k e => ⟨?_, hl k e⟩, fun k e => ⟨(h.ql k e).1, Nat.lt_of_lt_of_le (h.ql k e).2 hs⟩, h.k.trans hk (fun i hi e => by have := (h.pl i (hS i e)).1; omega)⟩
  · rcases hP k e with h1 | h1
    · exact h.ap k h1 e'
    · have := (h.ql k e').2; omega
  · rcases hP k e with h1 | h1
    · exact (h.pl k h1).1
    · omega
theorem Sides.mono (h : Sides W w P Q) (hP : ∀ k, P' k → P k) (hQ : ∀ k, Q' k → Q k) : Sides W w P' Q' :=
  ⟨fun k e e' => h.ap k (hP k e) (hQ k e'), fun k e => h.pl k (hP k e), fun k e => h.ql k (hQ k e), h.k⟩
end

end Go.Proofs.Yteoodgcpkgfomaa
/-
  The reference's journal: Append.
-/
namespace Go.Proofs.Yteoodgcpkgfomaa
open Go.RowKit
set_option linter.unusedVariables false

section
variable {w w' w2 : World} {base K B : Nat} {file : Int} {rv : Value} {us vs : List Value} {rs : List (List UInt8)} {dead : Bool} {a : Ab}
/-- Only the journal's own blocks have changed. -/
theorem kturn_own {rv' : Value} {us' : List Value} {rs' : List (List UInt8)} {dead' : Bool} (hi : RIs w base B vs a) (ha : KApart K B vs rv us) (hk : Kept (KOwn K rv us) w w') (hj : RJ w' base K B file rv' us' rs' dead') (ho : ∀ k, KOwn K rv' us' k → KOwn K rv us k ∨ w.heap.size ≤ k) :
    KTurn base K B file vs rv us ⟨a, rs', dead'⟩ w w' := by
  refine ⟨vs, rv', us', ris_far hi hk (fun k e => ha k e), hj, fun k e e' => ?_, hk.mono (fun _ _ h => .inl h), fun k h => .inl h, ho⟩
  rcases ho k e with h | h
  · exact ha k h e'
  · have := (ris_low hi e').2; omega
/-- The reference's journal when its disk has answered. -/
def KMid (base K B : Nat) (file : Int) (vs : List Value) (rv : Value) (us : List Value) (a' : Ab) (rs : List (List UInt8)) (c : Int) (w wx : World) : Prop :=
  ∃ vs', RIs wx base B vs' a' ∧ RJ wx base K B file rv us rs (decide (c = 220)) ∧ KApart K B vs' rv us ∧ Kept (fun k => KOwn K rv us k ∨ RK B vs k) w wx ∧ (∀ k, RK B vs' k → RK B vs k ∨ w.heap.size ≤ k)
theorem KMid.before {a' : Ab} {c : Int} {wx : World} (hk : Kept Kno w w') (h : KMid base K B file vs rv us a' rs c w' wx) : KMid base K B file vs rv us a' rs c w wx := by
  obtain ⟨vs', h1, h2, h3, h4, h5⟩ := h
  have hs := hk.size
  exact ⟨vs', h1, h2, h3, (hk.mono (T := fun k => KOwn K rv us k ∨ RK B vs k) (fun _ _ h => h.elim)).trans h4 (fun _ _ h => h), fun k h => (h5 k h).imp_right (fun h => by omega)⟩
theorem KMid.turn {a' : Ab} {c : Int} {wx : World} (h : KMid base K B file vs rv us a' rs c w wx) : KTurn base K B file vs rv us ⟨a', rs, decide (c = 220)⟩ w wx := by
  obtain ⟨vs', h1, h2, h3, h4, h5⟩ := h
  exact ⟨vs', rv, us, h1, h2, h3, h4, h5, fun k h => .inl h⟩
/-- The records grow by one. -/
theorem RJ.grow (h : RJ w base K B file rv us rs dead) {wA wB : World} {rv' x : Value} {b : List UInt8} (hA : Kept Kno w wA) (hx : RecIn wA base x b) (hxn : ∀ k, x.ownBlock = some k → w.heap.size ≤ k) (hg : wA.grownBy wB rv.ownBlock) (hown : wB.ownsRow base 30 1 rv' (rs.length + 1) (us ++ [x]))
    (hat : rv'.ownBlock = rv.ownBlock ∨ rv'.ownBlock = some wA.heap.size) (hfit : (frames (rs ++ [b])).length ≤ 10000000) :
    RJ (wB.setCell ⟨K, 2, none⟩ rv') base K B file rv' (us ++ [x]) (rs ++ [b]) dead ∧ Kept (KOwn K rv us) w (wB.setCell ⟨K, 2, none⟩ rv') ∧ (∀ k, KOwn K rv' (us ++ [x]) k → KOwn K rv us k ∨ w.heap.size ≤ k) := by
  have hA' := h.kept0 hA
  have hk1 : Kept (Kown rv) wA wB := (Kept.refl (Kown rv) wA).grown hg (fun k _ e => e)
  have hk2 : Kept (Kone K) wB (wB.setCell ⟨K, 2, none⟩ rv') := Kept.setIn (S := Kone K) (Kept.refl _ _) (p := ⟨K, 2, none⟩) (Eq.refl K) _
  have hs := hA.size
  have hK : rv'.ownBlock ≠ some K := fun e => by
    rcases hat with h1 | h1
    · exact hA'.K_rv (h1 ▸ e)
    · rw [h1] at e; injection e with e; have := h.blk.lt; omega
  have hKx : x.ownBlock ≠ some K := fun e => by have := hxn K e; have := h.blk.lt; omega
  have hbB : Blk wB K 64 (kCells B file rv dead) := hA'.blk.kept hk1 (fun e => hA'.K_rv e)
  have hrrB : RR wB base rv' (us ++ [x]) (rs ++ [b]) := hA'.rr.grow hx hg hown
  refine ⟨⟨h.low, hbB.set_ 2 rv', hrrB.kept hk2 (fun k e e' => by unfold Kone at e'; subst e'; exact hK e) (fun u hu k e e' => ?_), hfit⟩, ?_, ?_⟩
  · unfold Kone at e'; subst e'
    rcases List.mem_append.1 hu with hu | hu
    · exact hA'.K_u hu e
    · rw [List.mem_singleton.1 hu] at e; exact hKx e
  · exact ((hA.mono (T := KOwn K rv us) (fun _ _ h => h.elim)).trans hk1 (fun k _ e => .inr (.inl e))).trans hk2 (fun k _ e => .inl e)
  · rintro k (e | e | ⟨u, hu, e⟩)
    · exact .inl (.inl e)
    · rcases hat with h1 | h1
      · exact .inl (.inr (.inl (h1 ▸ e)))
      · rw [h1] at e; injection e with e; exact .inr (by omega)
    · rcases List.mem_append.1 hu with hu | hu
      · exact .inl (.inr (.inr ⟨u, hu, e⟩))
      · rw [List.mem_singleton.1 hu] at e; exact .inr (hxn k e)
end

theorem refAppendText_nil (b : List UInt8) (w : World) (hb : b.length ≤ 16000000) : Calls Try.prog 74 #[.slice none 0 0, strOf b] w (RetB (frame b) w) := by
  have h := refAppendText_any (.slice none 0 0) [] ⟨b.toArray⟩ w (nil_bs w) (by show 0 + b.length ≤ 16000000; omega)
  have e : ([] : List UInt8) ++ (leb (⟨b.toArray⟩ : ByteArray).size ++ sbytes ⟨b.toArray⟩) = frame b := by
    simp only [List.nil_append, frame, sbytes]
    rfl
  rw [e] at h
  exact h

set_option maxRecDepth 100000 in
set_option maxHeartbeats 1000000 in
theorem kappend_no {w : World} {base K B : Nat} {file : Int} {rv : Value} {us vs : List Value} (s : JA) (v : Value) (b : List UInt8) (hj : RJ w base K B file rv us s.rs s.off) (hi : RIs w base B vs s.a) (ha : KApart K B vs rv us) (hb : Bs w v b)
    (hno : s.off = true ∨ 1048576 < b.length) :
    Calls Try.prog 44 #[.pointer (some ⟨K, 0, none⟩), v] w (KRet base K B file vs rv us (s.append file b) w) := by
  obtain ⟨a, rs, off⟩ := s
  simp only at hj hi hno
  have c4 := hj.c_dead
  have HT := Lib.hid (kturn0 hj hi ha (Kept.refl Kno w))
  obtain ⟨A, cap, rfl, -⟩ := hb
  clear hj hi ha
  unfold JA.append
  cases off with
  | true =>
    simp only [if_true]
    go_enter Try.func44, Try.ntmps44
    go_wp2
    go_ret
    exact ⟨rfl, HT.out⟩
  | false =>
    have hlen : 1048576 < b.length := by simpa using hno
    simp only [Bool.false_eq_true, if_false, if_pos hlen]
    have hl2 : (1048576 : Int) < (b.length : Int) := by omega
    go_enter Try.func44, Try.ntmps44
    go_wp2
    go_ret
    exact ⟨rfl, HT.out⟩

set_option maxRecDepth 100000 in
set_option maxHeartbeats 4000000 in
theorem kappend_yes {w : World} {base K B : Nat} {file : Int} {rv : Value} {us vs : List Value} (a : Ab) (rs : List (List UInt8)) (v : Value) (b : List UInt8) (hj : RJ w base K B file rv us rs false) (hi : RIs w base B vs a) (ha : KApart K B vs rv us) (hb : Bs w v b)
    (hbJ : ∀ w1, Kept (fun k => KOwn K rv us k ∨ RK B vs k) w w1 → Bs w1 v b) (hlen : b.length ≤ 1048576) (hfit : (a.append file (frame b)).2 = 0 → (frames (rs ++ [b])).length ≤ 10000000) (hbase : base ≤ w.heap.size) :
    Calls Try.prog 44 #[.pointer (some ⟨K, 0, none⟩), v] w (KRet base K B file vs rv us ((⟨a, rs, false⟩ : JA).done (a.append file (frame b)) (rs ++ [b])) w) := by
  obtain ⟨i0, hi0, hz0, hz1, hz2⟩ := info_parts info_byte
  obtain ⟨j0, hj0, hy0, hy1, hy2⟩ := info_parts info_recs
  have c0 := hj.c_disk
  have c1 := hj.c_file
  have c4 := hj.c_dead
  have HJ := Lib.hid hj
  have HI := Lib.hid hi
  have HA := Lib.hid ha
  have HB := Lib.hid hb
  have HBJ := Lib.hid hbJ
  have HF := Lib.hid hfit
  have t1 := run_string_bs (P := Try.prog) (w := w.drew) 30 9 5 (Rd.drew hb) Try.underlying30 Try.underlying5 Try.underlying9
  obtain ⟨A, cap, rfl, -⟩ := hb
  obtain ⟨⟨a', c⟩, hp⟩ : ∃ p, p = a.append file (frame b) := ⟨_, rfl⟩
  have HP := Lib.hid hp
  have hl2 : ¬ (1048576 : Int) < (b.length : Int) := by omega
  have hlf : (frame b).length ≤ 1048590 := by have := (leb_length b.length).2; rw [frame_length]; omega
  have HLF := Lib.hid hlf
  rw [← hp]
  clear hj hi ha hbJ hfit hp hlf
  have hat := refAppendText_nil b w.drew (by omega)
  simp only [strOf] at hat
  have HAT := Lib.hid hat
  have hkd : Kept Kno w w.drew := Kept.drew (Kept.refl Kno w)
  have HKD := Lib.hid hkd
  clear hat hkd
  go_enter Try.func44, Try.ntmps44
  go_wp2_with fail
  go_cut [5] (fun e wx => e = .int .i64 c ∧ KMid base K B file vs rv us a' rs c w wx)
  case first =>
    go_region_with (first
      | (go_at_call 74
         refine HAT.out.mono ?_
         rintro e w1 ⟨A1, cap1, rfl, hown1, hk1⟩
         have HK1 := Lib.hid (HKD.out.then0 hk1)
         have HJ1 := Lib.hid (HJ.out.kept0 HK1.out)
         have HI1 := Lib.hid (HI.out.kept0 HK1.out)
         have HO1 := Lib.hid hown1
         have e0 := hk1.cell_some c0 (fun h => h)
         have e1 := hk1.cell_some c1 (fun h => h)
         clear hown1 hk1)
      | (go_at_call 55
         refine (rappend_any file _ (frame b) HI1.out (OwnB.bs HO1.out) (by have := HLF.out; omega)).mono ?_
         rw [← HP.out]
         rintro e w2 ⟨rfl, ht⟩
         have HTN := Lib.hid (kturn_note c HJ1.out HI1.out HA.out ht).2
         have d4 := (rj_turn HJ1.out HA.out ht).c_dead
         have g4 := (rj_turn HJ1.out HA.out ht).blk.frozen 3
         clear ht)
      | (go_at_call 73
         refine (rnote_any K _ w2 d4 g4).mono ?_
         rintro e w3 ⟨rfl, hw3⟩
         rw [← hw3] at HTN
         clear hw3))
    all_goals
      go_wp2_with fail
      go_meet
      exact ⟨rfl, KMid.before HK1.out HTN.out⟩
  case rest =>
    obtain ⟨rfl, hmid⟩ := hcut
    have HMID := Lib.hid hmid
    clear c0 c1 c4 t1 hmid
    by_cases hc : c = 0
    · subst hc
      obtain ⟨vsq, hiq, hjq, haq, hkq, hdq⟩ := HMID.out
      rw [decide_eq_false (show ¬ (0 : Int) = 220 by decide)] at hjq
      have HIQ := Lib.hid hiq
      have HJQ := Lib.hid hjq
      have HAQ := Lib.hid haq
      have HKQ := Lib.hid hkq
      have HDQ := Lib.hid hdq
      have HBQ := Lib.hid (HBJ.out wc hkq)
      have hcn := hjq.rl
      have c2 := hjq.c_recs
      have f2 := hjq.blk.frozen 2
      have lK := hjq.blk.lt
      have hwb : base ≤ wc.heap.size := Nat.le_trans hbase hkq.size
      obtain ⟨Ar, cr, hrv⟩ := own_form hjq.rr.row
      have HRV := Lib.hid hrv
      have HFIT : Hid ((frames (rs ++ [b])).length ≤ 10000000) := Lib.hid (HF.out (by rw [← HP.out]))
      rw [hrv] at c2
      have M0 := Lib.hid (World.ownsRow_made (base := wc.heap.size) (e := 5) (size := 1) wc #[] 0 (Nat.le_refl _) (by decide) rfl)
      have m1 : 0 + b.length ≤ maxLen := by simp only [maxLen]; omega
      have m2 : rs.length + 1 ≤ maxLen := by simp only [maxLen]; omega
      clear hiq hjq haq hkq hdq hrv HMID
      go_wp2_with fail
      go_region_law (first
        | (refine step_append_rd _ (by rfl) (.tmp 34) (.tmp 35) 30 (by rfl) wc.heap.size 5 i0 _ 1 1 Try.underlying30 hi0 hz0 hz1 hz2 rfl (by omega) (.slice (some ⟨wc.heap.size, 0, none⟩) 0 0) 0 [] (by rfl) M0.out _ b.length (b.map bv) (by rfl) (Rd.alloc HBQ.out _) (bvs_one b) m1 (by omega) (by simp) ?_
           intro A7 cap7 w7 hown7 hg7 hat7
           have hk7 : Kept Kno wc w7 := (Kept.drew (Kept.alloc (Kept.refl _ wc) _)).grown hg7 (fun k hk e => by cases e; exact absurd hk (Nat.lt_irrefl _))
           have q : w7.cell? ⟨K, 2, none⟩ = some (.slice Ar rs.length cr) := hk7.cell_some c2 (fun h => h)
           have q7 : ∀ o, (w7.alloc o).cell? ⟨K, 2, none⟩ = some (.slice Ar rs.length cr) := fun o => Kept.cell_some (hk7.alloc o) c2 (fun h => h)
           simp only [Nat.zero_add, List.nil_append] at hown7
           have HO7 : Hid (OwnB w7 wc.heap.size 5 (.slice A7 b.length cap7) b) := Lib.hid hown7
           rw [Nat.zero_add])
        | (refine step_append_rd _ (by rfl) (.tmp 33) (.tmp 37) 45 (by rfl) base 30 j0 _ 1 24 Try.underlying45 hj0 hy0 hy1 hy2 rfl (by omega) (.slice Ar rs.length cr) rs.length us (by rfl) (by have h9 := HJQ.out.rr.row; rw [HRV.out] at h9; exact World.ownsRow.alloc (own_kept h9 hk7 (fun _ _ h => h)) _) _ 1 [.slice A7 b.length cap7] (by rfl) (Rd.one _ _ _ rfl) (by simp [Value.oneCell']) m2 (by omega) (by have := hk7.size; simp; omega) ?_
           intro A9 cap9 w9 hown9 hg9 hat9
           have hk9 : Kept (Kown (.slice Ar rs.length cr)) wc w9 := ((hk7.mono (T := Kown (.slice Ar rs.length cr)) (fun _ _ h => h.elim)).alloc _).grown hg9 (fun k _ e => e)
           have hKr : ¬ Kown (.slice Ar rs.length cr) K := by have h9 := HJQ.out.K_rv; rw [HRV.out] at h9; exact h9
           have q2 := hk9.cell_some c2 hKr
           have q2' := hk9.frozen_no f2 lK hKr
           have hO := own_kept HO7.out ((Kept.refl Kno w7).alloc (.cells #[.slice A7 b.length cap7] 30)) (fun _ _ h => h)
           have HG := Lib.hid (HJQ.out.grow (b := b) (hk7.alloc _) ((RecIn.own hO).rebase hwb) (fun k e => (own_base hO e).1) (by rw [HRV.out]; exact hg9) hown9 (by rw [HRV.out]; exact hat9) HFIT.out)))
      all_goals
        go_wp2
        go_ret
        refine ⟨rfl, ?_⟩
        have h9 := kturn_after HKQ.out HDQ.out (kturn_own HIQ.out HAQ.out HG.out.2.1 HG.out.1 HG.out.2.2)
        simpa [JA.done] using h9
    · go_wp2
      go_ret
      refine ⟨rfl, ?_⟩
      have h9 := HMID.out.turn
      simpa [JA.done, hc] using h9

theorem kappend_any {w : World} {base K B : Nat} {file : Int} {rv : Value} {us vs : List Value} (s : JA) (v : Value) (b : List UInt8) (hj : RJ w base K B file rv us s.rs s.off) (hi : RIs w base B vs s.a) (ha : KApart K B vs rv us) (hb : Bs w v b)
    (hbJ : ∀ w1, Kept (fun k => KOwn K rv us k ∨ RK B vs k) w w1 → Bs w1 v b) (hfit : s.off = false → b.length ≤ 1048576 → (s.a.append file (frame b)).2 = 0 → (frames (s.rs ++ [b])).length ≤ 10000000) (hbase : base ≤ w.heap.size) :
    Calls Try.prog 44 #[.pointer (some ⟨K, 0, none⟩), v] w (KRet base K B file vs rv us (s.append file b) w) := by
  by_cases hno : s.off = true ∨ 1048576 < b.length
  · exact kappend_no s v b hj hi ha hb hno
  · obtain ⟨a, rs, off⟩ := s
    simp only [not_or, Bool.not_eq_true] at hno
    obtain ⟨h1, h2⟩ := hno
    subst h1
    simp only [JA.append, Bool.false_eq_true, if_false, if_neg h2]
    exact kappend_yes a rs v b hj hi ha hb hbJ (by omega) (hfit rfl (by omega)) hbase

end Go.Proofs.Yteoodgcpkgfomaa
/-
  The reference's journal: Truncate.
-/
namespace Go.Proofs.Yteoodgcpkgfomaa
open Go.RowKit
set_option linter.unusedVariables false

theorem own_cutr {w : World} {base m n : Nat} {e : TypeId} {A : Option Addr} {cap : Nat} {xs : List Value} (h : w.ownsRow base e 1 (.slice A n cap) n xs) (hm : m ≤ n) : w.ownsRow base e 1 (.slice A m cap) m (xs.take m) := by
  obtain ⟨h1, h2⟩ := h
  refine ⟨by rw [List.length_take]; omega, ?_⟩
  rcases h2 with ⟨hv, hn⟩ | ⟨g, cap', cur, hv, hb, hh, hnc, hcm, hs, ht⟩
  · injection hv with e1 e2 e3
    subst e1 e3
    exact .inl ⟨by rw [show m = 0 by omega], by omega⟩
  · injection hv with e1 e2 e3
    subst e1 e3
    refine .inr ⟨g, cap, cur, rfl, hb, hh, by omega, hcm, hs, ?_⟩
    rw [← ht, List.take_take, Nat.min_eq_left (by omega), Nat.mul_one]

theorem RJ.cut {w : World} {base K B : Nat} {file : Int} {A : Option Addr} {cap m : Nat} {us : List Value} {rs : List (List UInt8)} {dead : Bool} (h : RJ w base K B file (.slice A rs.length cap) us rs dead) (hm : m ≤ rs.length) :
    RJ (w.setCell ⟨K, 2, none⟩ (.slice A m cap)) base K B file (.slice A m cap) (us.take m) (rs.take m) dead ∧ Kept (KOwn K (.slice A rs.length cap) us) w (w.setCell ⟨K, 2, none⟩ (.slice A m cap)) ∧ (∀ k, KOwn K (.slice A m cap) (us.take m) k → KOwn K (.slice A rs.length cap) us k ∨ w.heap.size ≤ k) := by
  have hk2 : Kept (Kone K) w (w.setCell ⟨K, 2, none⟩ (.slice A m cap)) := Kept.setIn (S := Kone K) (Kept.refl _ _) (p := ⟨K, 2, none⟩) (Eq.refl K) _
  have htl : (rs.take m).length = m := by rw [List.length_take]; omega
  have hob : (Value.slice A m cap).ownBlock = (Value.slice A rs.length cap).ownBlock := by cases A <;> rfl
  have hrr : RR w base (.slice A m cap) (us.take m) (rs.take m) := ⟨by rw [htl]; exact own_cutr h.rr.row hm, fun i x b hx hb => by
    rw [List.getElem?_take] at hx hb
    split at hx
    · rw [if_pos ‹_›] at hb
      exact h.rr.recs i x b hx hb
    · cases hx⟩
  refine ⟨⟨h.low, h.blk.set_ 2 _, hrr.kept hk2 (fun k e e' => ?_) (fun u hu k e e' => ?_), Nat.le_trans (frames_take_le rs m) h.cnt⟩, hk2.mono (fun k _ e => .inl e), ?_⟩
  · unfold Kone at e'; subst e'; rw [hob] at e; exact h.K_rv e
  · unfold Kone at e'; subst e'; exact h.K_u (List.mem_of_mem_take hu) e
  · rintro k (e | e | ⟨u, hu, e⟩)
    · exact .inl (.inl e)
    · rw [hob] at e; exact .inl (.inr (.inl e))
    · exact .inl (.inr (.inr ⟨u, List.mem_of_mem_take hu, e⟩))

set_option maxRecDepth 100000 in
set_option maxHeartbeats 4000000 in
theorem ktrunc_any {w : World} {base K B : Nat} {file : Int} {rv : Value} {us vs : List Value} (s : JA) (n : Int) (hj : RJ w base K B file rv us s.rs s.off) (hi : RIs w base B vs s.a) (ha : KApart K B vs rv us) :
    Calls Try.prog 46 #[.pointer (some ⟨K, 0, none⟩), .int .i64 n] w (KRet base K B file vs rv us (s.trunc file n) w) := by
  obtain ⟨a, rs, off⟩ := s
  simp only at hj hi
  have c4 := hj.c_dead
  have HJ := Lib.hid hj
  have HI := Lib.hid hi
  have HA := Lib.hid ha
  have HT := Lib.hid (kturn0 hj hi ha (Kept.refl Kno w))
  unfold JA.trunc
  cases off with
  | true =>
    simp only [if_true]
    clear hj hi ha
    go_enter Try.func46, Try.ntmps46
    go_wp2
    go_ret
    exact ⟨rfl, HT.out⟩
  | false =>
    simp only [Bool.false_eq_true, if_false]
    have c0 := hj.c_disk
    have c1 := hj.c_file
    have c2 := hj.c_recs
    have hcn := hj.rl
    have hcr0 := hj.rr.r.form
    obtain ⟨Ar, cr, hrv⟩ := own_form hj.rr.row
    subst hrv
    have HLS := Lib.hid hj.rr.r
    have hcr : rs.length ≤ cr := by obtain ⟨A', c', e, h9⟩ := hcr0; injection e with _ _ e; omega
    clear hj hi ha hcr0
    by_cases hn : n < 0 ∨ (rs.length : Int) < n
    · rw [if_pos hn]
      rcases (show n < 0 ∨ 0 ≤ n by omega) with h1 | h1
      · clear hn
        go_enter Try.func46, Try.ntmps46
        go_wp2
        go_ret
        exact ⟨rfl, HT.out⟩
      · have h2 : (rs.length : Int) < n := by omega
        have h3 : ¬ n < 0 := by omega
        clear hn
        go_enter Try.func46, Try.ntmps46
        go_wp2
        go_ret
        exact ⟨rfl, HT.out⟩
    · rw [if_neg hn]
      obtain ⟨m, rfl⟩ : ∃ m : Nat, n = m := ⟨n.toNat, by omega⟩
      rw [Int.toNat_natCast]
      have hm : m ≤ rs.length := by omega
      have h1 : ¬ (m : Int) < 0 := by omega
      have h1' : (0 : Int) ≤ (m : Int) := by omega
      have h2 : ¬ (rs.length : Int) < (m : Int) := by omega
      have p1 : m ≤ cr := by omega
      have p2 : (m : Int) ≤ (cr : Int) := by omega
      have HM := Lib.hid hm
      clear hn hm hcr
      obtain ⟨⟨a', c⟩, hp⟩ : ∃ p, p = a.trunc file ((frames (rs.take m)).length : Nat) := ⟨_, rfl⟩
      rw [← hp]
      have HP := Lib.hid hp
      clear hp
      have HKD : Hid (Kept Kno w w.drew) := Lib.hid (Kept.drew (Kept.refl Kno w))
      have hfrm := rframes_any (.slice Ar m cr) (us.take m) (rs.take m) w.drew ((HLS.out.kept0 HKD.out).cut2 HM.out) (Nat.le_trans (frames_take_le rs m) HJ.out.cnt)
      have HFR := Lib.hid hfrm
      clear hfrm
      go_enter Try.func46, Try.ntmps46
      go_wp2_with fail
      go_cut [5] (fun e wx => e = .int .i64 c ∧ KMid base K B file vs (.slice Ar rs.length cr) us a' rs c w wx)
      case first =>
        go_region_held3 (fun w' => w'.cell? ⟨K, 0, none⟩ = some (.pointer (some ⟨B, 0, none⟩)) ∧ w'.cell? ⟨K, 1, none⟩ = some (.int .i64 file) ∧ w'.cell? ⟨K, 2, none⟩ = some (.slice Ar rs.length cr)) (first | go_keep | exact ⟨e0, e1, e2⟩ | exact ⟨y0, y1, y2⟩ | exact ⟨x0, x1, x2⟩)
          (first
          | (go_at_call 75
             refine HFR.out.mono ?_
             rintro e w1 ⟨A1, cap1, rfl, hown1, hk1⟩
             have HK1 := Lib.hid (HKD.out.then0 hk1)
             have HJ1 := Lib.hid (HJ.out.kept0 HK1.out)
             have HI1 := Lib.hid (HI.out.kept0 HK1.out)
             have e0 := hk1.cell_some c0 (fun h => h)
             have e1 := hk1.cell_some c1 (fun h => h)
             have e2 := hk1.cell_some c2 (fun h => h)
             clear hown1 hk1)
          | (go_at_call 56
             refine (rtrunc_any file ((frames (rs.take m)).length : Nat) HI1.out).mono ?_
             rw [← HP.out]
             rintro e w2 ⟨rfl, ht⟩
             have HTN := Lib.hid (kturn_note c HJ1.out HI1.out HA.out ht).2
             have d4 := (rj_turn HJ1.out HA.out ht).c_dead
             have g4 := (rj_turn HJ1.out HA.out ht).blk.frozen 3
             have y0 := (rj_turn HJ1.out HA.out ht).c_disk
             have y1 := (rj_turn HJ1.out HA.out ht).c_file
             have y2 := (rj_turn HJ1.out HA.out ht).c_recs
             clear ht)
          | (go_at_call 73
             refine (rnote_any K _ w2 d4 g4).mono ?_
             rintro e w3 ⟨rfl, hw3⟩
             rw [← hw3] at HTN
             obtain ⟨x0, x1, x2⟩ : w3.cell? ⟨K, 0, none⟩ = some (.pointer (some ⟨B, 0, none⟩)) ∧ w3.cell? ⟨K, 1, none⟩ = some (.int .i64 file) ∧ w3.cell? ⟨K, 2, none⟩ = some (.slice Ar rs.length cr) := by
               obtain ⟨vs', -, hjx, -⟩ := HTN.out
               exact ⟨hjx.c_disk, hjx.c_file, hjx.c_recs⟩
             clear hw3))
        all_goals
          go_wp2_with fail
          go_meet
          exact ⟨rfl, KMid.before HK1.out HTN.out⟩
      case rest =>
        obtain ⟨rfl, hmid⟩ := hcut
        have HMID := Lib.hid hmid
        clear c0 c1 c2 c4 hmid
        by_cases hc : c = 0
        · subst hc
          obtain ⟨vsq, hiq, hjq, haq, hkq, hdq⟩ := HMID.out
          rw [decide_eq_false (show ¬ (0 : Int) = 220 by decide)] at hjq
          have HIQ := Lib.hid hiq
          have HAQ := Lib.hid haq
          have HKQ := Lib.hid hkq
          have HDQ := Lib.hid hdq
          have c2 := hjq.c_recs
          have f2 := hjq.blk.frozen 2
          have HG := Lib.hid (hjq.cut HM.out)
          clear hiq hjq haq hkq hdq HMID
          go_wp2
          go_ret
          refine ⟨rfl, ?_⟩
          have h9 := kturn_after HKQ.out HDQ.out (kturn_own HIQ.out HAQ.out HG.out.2.1 HG.out.1 HG.out.2.2)
          simpa [JA.done] using h9
        · go_wp2
          go_ret
          refine ⟨rfl, ?_⟩
          have h9 := HMID.out.turn
          simpa [JA.done, hc] using h9

end Go.Proofs.Yteoodgcpkgfomaa
