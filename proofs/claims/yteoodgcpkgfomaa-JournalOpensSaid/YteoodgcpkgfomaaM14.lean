/-
  Contracts and plain laws that the claim's theorem rests on, some texts in one file.
-/
import Derived.Test.YteoodgcpkgfomaaM13
/-
  The reference's disk: Crash.
-/
namespace Go.Proofs.Yteoodgcpkgfomaa
open Go.RowKit
set_option linter.unusedVariables false

def RCrashRel (base B : Nat) (vs0 : List Value) (a : Ab) (ks : List Int) (w : World) (i : Value) (wr : World) : Prop :=
  ∃ k : Nat, k ≤ 8 ∧ i = .int .i64 k ∧ Kept (Kone B) w wr ∧ ∃ vs, RIs wr base B vs ⟨a.room, crashTo k a.fs ks, a.off, a.plan⟩ ∧ VsFrom vs0 vs w.heap.size

theorem rclose_crash {base B k t : Nat} {a : Ab} {w wq wa : World} {ks : List Int} {vs0 vs : List Value} {l : List UInt8} {s : Nat} {A1 : Option Addr} {cap1 : Nat} (h : RIs wq base B vs ⟨a.room, crashTo k a.fs ks, a.off, a.plan⟩) (hK : Kept (Kone B) w wq) (hvf : VsFrom vs0 vs w.heap.size)
    (hp : (crashTo k a.fs ks)[k]? = some (l, s)) (hk : Kept Kno wq wa) (ho : wa.ownsRow wq.heap.size 5 1 (.slice A1 t cap1) t ((l.take t).map bv)) (hl : t = (l.take t).length) (hcn : t = crashN (l, s) ks[k]?) :
    (∃ vs', RIs ((wa.setCell ⟨B, 1 + k, none⟩ (.slice A1 t cap1)).setCell ⟨B, 9 + k, none⟩ (.int .i64 t)) base B vs' ⟨a.room, crashTo (k + 1) a.fs ks, a.off, a.plan⟩ ∧ VsFrom vs0 vs' w.heap.size) ∧ Kept (Kone B) w ((wa.setCell ⟨B, 1 + k, none⟩ (.slice A1 t cap1)).setCell ⟨B, 9 + k, none⟩ (.int .i64 t)) := by
  have h2 : a.fs[k]? = some (l, s) := by
    have h1 := hp
    rw [crashTo_at] at h1
    simp only [Nat.lt_irrefl, if_false, Option.map_id'] at h1
    exact h1
  have e : crashTo (k + 1) a.fs ks = (crashTo k a.fs ks).set k (l.take t, t) := by
    rw [← crashTo_succ k _ ks (l, s) h2, hcn]
    rfl
  rw [e]
  have hfit := h.fits
  have ho2 : OwnB wa base 5 (.slice A1 t cap1) (l.take t) := by
    unfold OwnB
    rw [← hl]
    exact own_rebase ho (fun k e => Nat.le_trans h.base_le (own_base ho e).1)
  have := h.set_both hk hp (.slice A1 t cap1) (l.take t) ho2 (Nat.le_of_eq hl) (by rw [List.length_take]; simp only at hfit ⊢; omega)
  exact ⟨⟨_, this.1, hvf.trans (VsFrom.set _ _ _ (fun k e => (own_base ho e).1)) hK.size⟩, hK.trans this.2 (fun _ _ e => e)⟩

set_option maxRecDepth 100000 in
set_option maxHeartbeats 8000000 in
theorem rcrash_any (keep : Value) (ks : List Int) {w : World} {base B : Nat} {vs : List Value} {a : Ab} (h : RIs w base B vs a) (hks : ∀ w1, Kept (Kone B) w w1 → KeepIn w1 keep ks) :
    Calls Try.prog 49 #[.pointer (some ⟨B, 0, none⟩), keep] w fun e w' => e = .returned (.tuple #[]) ∧ RTurn base B vs (a.crash ks) w w' := by
  obtain ⟨j0, hj, hy0, hy1, hy2⟩ := info_parts info_byte
  have HD := Lib.hid h
  have HK := Lib.hid hks
  obtain ⟨Ak, capk, rfl, hk1, hk2, -⟩ := hks w (Kept.refl _ _)
  have hm4 : ks.length ≤ 9223372036854775807 := by simp only [maxLen] at hk2; omega
  have hm5 : capk ≤ 9223372036854775807 := by simp only [maxLen] at hk2; omega
  clear h hks hk2
  go_enter Try.func49, Try.ntmps49
  go_wp2_with fail
  go_loopw [6] (fun i wr => RCrashRel base B vs a ks w i wr) (fun i _ => 8 - (intOf i).toNat)
  case atStart => exact ⟨0, by omega, rfl, Kept.refl _ _, vs, by rw [crashTo_zero]; exact HD.out, VsFrom.refl _ _⟩
  case round =>
    obtain ⟨k, hk, rfl, hkk, vs1, hd1, hvf0⟩ := hrel
    have HVS := Lib.hid hvf0
    clear hvf0
    have HD1 := Lib.hid hd1
    have HKK := Lib.hid hkk
    clear hkk
    by_cases hlt : k < 8
    · obtain ⟨v, p, hv, hp, -⟩ := hd1.file hlt
      obtain ⟨l, s⟩ := p
      have c1 := hd1.c_file hv
      have c2 := hd1.c_sync hp
      obtain ⟨hown, hsl⟩ := hd1.files k v (l, s) hv hp
      obtain ⟨Af, capf, hvf⟩ := own_form hown
      have hcap := own_cap hown hvf
      have HVF := Lib.hid hvf
      have HV := Lib.hid hv
      have HP := Lib.hid hp
      rw [hvf] at c1
      simp only at c1 c2 hsl hcap
      have hu : l.length ≤ 16777216 := by
        have h1 := used_file hp
        have h2 := hd1.room1
        have h3 := hd1.fits
        simp only at h1 h2 h3
        omega
      have hk0 : (0 : Int) ≤ (k : Int) := by omega
      have hk8 : (k : Int) < 8 := by omega
      have hcl : capf ≤ 9223372036854775807 := by have := hcap.2; simp only [maxLen] at this; omega
      have hcl2 := hcap.1
      clear hd1 hv hp hown hcap hvf
      have hn0 : (s : Int) ≤ l.length := by omega
      have hn1 : (s : Int) ≤ capf := by omega
      have hn2 : s ≤ capf := by omega
      by_cases hkl : k < ks.length
      · obtain ⟨x, hx⟩ : ∃ x, ks[k]? = some x := ⟨ks[k], List.getElem?_eq_getElem hkl⟩
        obtain ⟨Ak', capk', hkv, -, -, hkc⟩ := HK.out wr HKK.out
        injection hkv with e1 e2 e3
        subst e1 e3
        obtain ⟨g, o, rfl, hcell⟩ := hkc (by omega)
        have c3 := hcell k x hx
        have HX := Lib.hid hx
        have hkl2 : (k : Int) < (ks.length : Int) := by omega
        clear hkc hcell hx e2
        have hd1 : IntKind.i64.wrap ((l.length : Int) - s) = (l.length : Int) - s := IntWalk.i64_in _ (by omega)
        have hd0 : ¬ ((l.length : Int) - s < 0) := by omega
        by_cases hx0 : x < 0
        · have HCN : Hid (s = crashN (l, s) ks[k]?) := Lib.hid (by
            rw [HX.out]
            have : x.toNat = 0 := by omega
            simp [crashN, this])
          go_wp2_with fail
          go_quiet (fail)
          clear hd1 c3 c1 c2
          have hq := HD1.out.kept0 ((Kept.refl Kno wr).drewN nq)
          have HKQ : Hid (Kept (Kone B) w (wr.drewN nq)) := Lib.hid (HKK.out.drewN nq)
          generalize wr.drewN nq = wq at hq HKQ ⊢
          obtain ⟨t, ht⟩ : ∃ t : Nat, t = s := ⟨_, rfl⟩
          obtain rfl := ht
          have htl : t ≤ l.length := hsl
          have hs1 : IntKind.i64.wrap (t : Int) = (t : Int) := IntWalk.i64_in _ (by omega)
          have hs2 : (0 : Int) ≤ (t : Int) := by omega
          clear HD1 HKK
          have c1 := hq.c_file HV.out
          rw [HVF.out] at c1
          have c2 := hq.c_sync HP.out
          have ff := hq.blk.frozen (1 + k)
          have fs := hq.blk.frozen (9 + k)
          have lB := hq.blk.lt
          have hown := (hq.files k v (l, t) HV.out HP.out).1
          have kc := own_cap hown HVF.out
          have hcut : Bs wq (.slice Af t capf) (l.take t) := by
            have h9 := OwnB.bs hown
            rw [HVF.out] at h9
            exact Bs.cut h9 htl
          have HL : Hid (t = (l.take t).length) := Lib.hid (by rw [List.length_take]; omega)
          have HCUT : Hid (Rd wq 1 (.slice Af t capf) t ((l.take t).map bv)) := Lib.hid (by unfold Bs at hcut; rw [← HL.out] at hcut; exact hcut)
          have M0 := Lib.hid (World.ownsRow_made (base := wq.heap.size) (e := 5) (size := 1) wq #[] 0 (Nat.le_refl _) (by decide) rfl)
          have m1 : 0 + t ≤ maxLen := by simp only [maxLen]; omega
          have HQ := Lib.hid hq
          clear hq hown hcut kc
          simp only at c1 c2
          go_wp2_with fail
          go_region_law ((refine step_append_rd _ (by rfl) _ _ 30 (by rfl) wq.heap.size 5 j0 _ 1 1 Try.underlying30 hj hy0 hy1 hy2 rfl (by omega) (.slice (some ⟨wq.heap.size, 0, none⟩) 0 0) 0 [] (by rfl) M0.out _ t ((l.take t).map bv) (by rfl) (Rd.alloc HCUT.out _) (bvs_one _) m1 (by omega) (by simp) ?_
                          intro A1 cap1 wa hown1 hg1 hat1
                          have hka : Kept Kno wq wa := (Kept.drew (Kept.alloc (Kept.refl _ wq) _)).grown hg1 (fun k hk e => by cases e; exact absurd hk (Nat.lt_irrefl _))
                          have q : wa.cell? ⟨B, 1 + k, none⟩ = some (.slice Af l.length capf) := hka.cell_some c1 (fun h => h)
                          have q' : wa.frozen? ⟨B, 1 + k, none⟩ = false := hka.frozen_no ff lB (fun h => h)
                          have r : wa.cell? ⟨B, 9 + k, none⟩ = some (.int .i64 (t : Nat)) := hka.cell_some c2 (fun h => h)
                          have r' : wa.frozen? ⟨B, 9 + k, none⟩ = false := hka.frozen_no fs lB (fun h => h)
                          simp only [Nat.zero_add, List.nil_append] at hown1
                          rw [Nat.zero_add]))
          all_goals
            have r2 : (wa.setCell ⟨B, 1 + k, none⟩ (.slice A1 t cap1)).cell? ⟨B, 9 + k, none⟩ = some (.int .i64 (t : Nat)) := (cell_apart _ B _ _ _ (by omega)).trans r
            have r3 : (wa.setCell ⟨B, 1 + k, none⟩ (.slice A1 t cap1)).cell? ⟨B, 1 + k, none⟩ = some (.slice A1 t cap1) := cell_same _ _ _ q
            have r4 : (wa.setCell ⟨B, 1 + k, none⟩ (.slice A1 t cap1)).frozen? ⟨B, 9 + k, none⟩ = false := by go_simp
            have HC := Lib.hid (rclose_crash HQ.out HKQ.out HVS.out HP.out hka hown1 HL.out HCN.out)
            generalize wa.setCell ⟨B, 1 + k, none⟩ (.slice A1 t cap1) = wb at r2 r3 r4 HC ⊢
            clear q q' r r' hka hown1 hg1 hat1 c1 c2 ff fs lB HCUT M0 HQ
            go_wp2_with fail
            go_region_law (fail)
            all_goals
              go_wp2
              refine ⟨⟨k + 1, by omega, by go_num, HC.out.2.then0 ((Kept.refl _ _).drewN _), ?_⟩, by simp [intOf]; omega⟩
              obtain ⟨⟨vs9, h9, h8⟩, -⟩ := HC.out
              exact ⟨vs9, h9.kept0 ((Kept.refl _ _).drewN _), h8⟩
        · obtain ⟨y, rfl⟩ : ∃ y : Nat, x = (y : Int) := ⟨x.toNat, by omega⟩
          obtain ⟨d, hd⟩ : ∃ d : Nat, l.length = s + d := ⟨l.length - s, by omega⟩
          have hcn : s + min y d = crashN (l, s) ks[k]? := by
            have : l.length - s = d := by omega
            rw [HX.out]
            simp [crashN, this]
          have hsub : (l.length : Int) - s = (d : Int) := by omega
          rw [hsub] at hd1 hd0
          by_cases hyd : y ≤ d
          · rw [Nat.min_eq_left hyd] at hcn
            have hyd1 : ¬ (d : Int) < (y : Int) := by omega
            have hyd2 : (y : Int) ≤ (d : Int) := by omega
            obtain ⟨t, ht⟩ : ∃ t : Nat, t = s + y := ⟨_, rfl⟩
            rw [← ht] at hcn
            have HCN := Lib.hid hcn
            have htl : t ≤ l.length := by omega
            have hn3 : (t : Int) ≤ l.length := by omega
            have hn4 : (t : Int) ≤ capf := by omega
            have hn5 : t ≤ capf := by omega
            have hs1 : IntKind.i64.wrap ((s : Int) + y) = (t : Int) := by rw [IntWalk.i64_in _ (by omega)]; omega
            clear hd ht hcn
            go_wp2_with fail
            go_quiet (fail)
            clear hd1 c3 c1 c2
            have hq := HD1.out.kept0 ((Kept.refl Kno wr).drewN nq)
            have HKQ : Hid (Kept (Kone B) w (wr.drewN nq)) := Lib.hid (HKK.out.drewN nq)
            generalize wr.drewN nq = wq at hq HKQ ⊢
            clear HD1 HKK
            have c1 := hq.c_file HV.out
            rw [HVF.out] at c1
            have c2 := hq.c_sync HP.out
            have ff := hq.blk.frozen (1 + k)
            have fs := hq.blk.frozen (9 + k)
            have lB := hq.blk.lt
            have hown := (hq.files k v (l, s) HV.out HP.out).1
            have kc := own_cap hown HVF.out
            have hcut : Bs wq (.slice Af t capf) (l.take t) := by
              have h9 := OwnB.bs hown
              rw [HVF.out] at h9
              exact Bs.cut h9 htl
            have HL : Hid (t = (l.take t).length) := Lib.hid (by rw [List.length_take]; omega)
            have HCUT : Hid (Rd wq 1 (.slice Af t capf) t ((l.take t).map bv)) := Lib.hid (by unfold Bs at hcut; rw [← HL.out] at hcut; exact hcut)
            have M0 := Lib.hid (World.ownsRow_made (base := wq.heap.size) (e := 5) (size := 1) wq #[] 0 (Nat.le_refl _) (by decide) rfl)
            have m1 : 0 + t ≤ maxLen := by simp only [maxLen]; omega
            have HQ := Lib.hid hq
            clear hq hown hcut kc
            simp only at c1 c2
            go_wp2_with fail
            go_region_law ((refine step_append_rd _ (by rfl) _ _ 30 (by rfl) wq.heap.size 5 j0 _ 1 1 Try.underlying30 hj hy0 hy1 hy2 rfl (by omega) (.slice (some ⟨wq.heap.size, 0, none⟩) 0 0) 0 [] (by rfl) M0.out _ t ((l.take t).map bv) (by rfl) (Rd.alloc HCUT.out _) (bvs_one _) m1 (by omega) (by simp) ?_
                            intro A1 cap1 wa hown1 hg1 hat1
                            have hka : Kept Kno wq wa := (Kept.drew (Kept.alloc (Kept.refl _ wq) _)).grown hg1 (fun k hk e => by cases e; exact absurd hk (Nat.lt_irrefl _))
                            have q : wa.cell? ⟨B, 1 + k, none⟩ = some (.slice Af l.length capf) := hka.cell_some c1 (fun h => h)
                            have q' : wa.frozen? ⟨B, 1 + k, none⟩ = false := hka.frozen_no ff lB (fun h => h)
                            have r : wa.cell? ⟨B, 9 + k, none⟩ = some (.int .i64 s) := hka.cell_some c2 (fun h => h)
                            have r' : wa.frozen? ⟨B, 9 + k, none⟩ = false := hka.frozen_no fs lB (fun h => h)
                            simp only [Nat.zero_add, List.nil_append] at hown1
                            rw [Nat.zero_add]))
            all_goals
              have r2 : (wa.setCell ⟨B, 1 + k, none⟩ (.slice A1 t cap1)).cell? ⟨B, 9 + k, none⟩ = some (.int .i64 s) := (cell_apart _ B _ _ _ (by omega)).trans r
              have r3 : (wa.setCell ⟨B, 1 + k, none⟩ (.slice A1 t cap1)).cell? ⟨B, 1 + k, none⟩ = some (.slice A1 t cap1) := cell_same _ _ _ q
              have r4 : (wa.setCell ⟨B, 1 + k, none⟩ (.slice A1 t cap1)).frozen? ⟨B, 9 + k, none⟩ = false := by go_simp
              have HC := Lib.hid (rclose_crash HQ.out HKQ.out HVS.out HP.out hka hown1 HL.out HCN.out)
              generalize wa.setCell ⟨B, 1 + k, none⟩ (.slice A1 t cap1) = wb at r2 r3 r4 HC ⊢
              clear q q' r r' hka hown1 hg1 hat1 c1 c2 ff fs lB HCUT M0 HQ
              go_wp2_with fail
              go_region_law (fail)
              all_goals
                go_wp2
                refine ⟨⟨k + 1, by omega, by go_num, HC.out.2.then0 ((Kept.refl _ _).drewN _), ?_⟩, by simp [intOf]; omega⟩
                obtain ⟨⟨vs9, h9, h8⟩, -⟩ := HC.out
                exact ⟨vs9, h9.kept0 ((Kept.refl _ _).drewN _), h8⟩
          · rw [Nat.min_eq_right (by omega)] at hcn
            have hyd1 : (d : Int) < (y : Int) := by omega
            have hyd2 : ¬ (y : Int) ≤ (d : Int) := by omega
            obtain ⟨t, ht⟩ : ∃ t : Nat, t = s + d := ⟨_, rfl⟩
            rw [← ht] at hcn
            have HCN := Lib.hid hcn
            have htl : t ≤ l.length := by omega
            have hn3 : (t : Int) ≤ l.length := by omega
            have hn4 : (t : Int) ≤ capf := by omega
            have hn5 : t ≤ capf := by omega
            have hs1 : IntKind.i64.wrap ((s : Int) + d) = (t : Int) := by rw [IntWalk.i64_in _ (by omega)]; omega
            clear hd ht hcn
            go_wp2_with fail
            go_quiet (fail)
            clear hd1 c3 c1 c2
            have hq := HD1.out.kept0 ((Kept.refl Kno wr).drewN nq)
            have HKQ : Hid (Kept (Kone B) w (wr.drewN nq)) := Lib.hid (HKK.out.drewN nq)
            generalize wr.drewN nq = wq at hq HKQ ⊢
            clear HD1 HKK
            have c1 := hq.c_file HV.out
            rw [HVF.out] at c1
            have c2 := hq.c_sync HP.out
            have ff := hq.blk.frozen (1 + k)
            have fs := hq.blk.frozen (9 + k)
            have lB := hq.blk.lt
            have hown := (hq.files k v (l, s) HV.out HP.out).1
            have kc := own_cap hown HVF.out
            have hcut : Bs wq (.slice Af t capf) (l.take t) := by
              have h9 := OwnB.bs hown
              rw [HVF.out] at h9
              exact Bs.cut h9 htl
            have HL : Hid (t = (l.take t).length) := Lib.hid (by rw [List.length_take]; omega)
            have HCUT : Hid (Rd wq 1 (.slice Af t capf) t ((l.take t).map bv)) := Lib.hid (by unfold Bs at hcut; rw [← HL.out] at hcut; exact hcut)
            have M0 := Lib.hid (World.ownsRow_made (base := wq.heap.size) (e := 5) (size := 1) wq #[] 0 (Nat.le_refl _) (by decide) rfl)
            have m1 : 0 + t ≤ maxLen := by simp only [maxLen]; omega
            have HQ := Lib.hid hq
            clear hq hown hcut kc
            simp only at c1 c2
            go_wp2_with fail
            go_region_law ((refine step_append_rd _ (by rfl) _ _ 30 (by rfl) wq.heap.size 5 j0 _ 1 1 Try.underlying30 hj hy0 hy1 hy2 rfl (by omega) (.slice (some ⟨wq.heap.size, 0, none⟩) 0 0) 0 [] (by rfl) M0.out _ t ((l.take t).map bv) (by rfl) (Rd.alloc HCUT.out _) (bvs_one _) m1 (by omega) (by simp) ?_
                            intro A1 cap1 wa hown1 hg1 hat1
                            have hka : Kept Kno wq wa := (Kept.drew (Kept.alloc (Kept.refl _ wq) _)).grown hg1 (fun k hk e => by cases e; exact absurd hk (Nat.lt_irrefl _))
                            have q : wa.cell? ⟨B, 1 + k, none⟩ = some (.slice Af l.length capf) := hka.cell_some c1 (fun h => h)
                            have q' : wa.frozen? ⟨B, 1 + k, none⟩ = false := hka.frozen_no ff lB (fun h => h)
                            have r : wa.cell? ⟨B, 9 + k, none⟩ = some (.int .i64 s) := hka.cell_some c2 (fun h => h)
                            have r' : wa.frozen? ⟨B, 9 + k, none⟩ = false := hka.frozen_no fs lB (fun h => h)
                            simp only [Nat.zero_add, List.nil_append] at hown1
                            rw [Nat.zero_add]))
            all_goals
              have r2 : (wa.setCell ⟨B, 1 + k, none⟩ (.slice A1 t cap1)).cell? ⟨B, 9 + k, none⟩ = some (.int .i64 s) := (cell_apart _ B _ _ _ (by omega)).trans r
              have r3 : (wa.setCell ⟨B, 1 + k, none⟩ (.slice A1 t cap1)).cell? ⟨B, 1 + k, none⟩ = some (.slice A1 t cap1) := cell_same _ _ _ q
              have r4 : (wa.setCell ⟨B, 1 + k, none⟩ (.slice A1 t cap1)).frozen? ⟨B, 9 + k, none⟩ = false := by go_simp
              have HC := Lib.hid (rclose_crash HQ.out HKQ.out HVS.out HP.out hka hown1 HL.out HCN.out)
              generalize wa.setCell ⟨B, 1 + k, none⟩ (.slice A1 t cap1) = wb at r2 r3 r4 HC ⊢
              clear q q' r r' hka hown1 hg1 hat1 c1 c2 ff fs lB HCUT M0 HQ
              go_wp2_with fail
              go_region_law (fail)
              all_goals
                go_wp2
                refine ⟨⟨k + 1, by omega, by go_num, HC.out.2.then0 ((Kept.refl _ _).drewN _), ?_⟩, by simp [intOf]; omega⟩
                obtain ⟨⟨vs9, h9, h8⟩, -⟩ := HC.out
                exact ⟨vs9, h9.kept0 ((Kept.refl _ _).drewN _), h8⟩
      · have hkl2 : ¬ (k : Int) < (ks.length : Int) := by omega
        have HCN : Hid (s = crashN (l, s) ks[k]?) := Lib.hid (by rw [List.getElem?_eq_none (by omega)]; rfl)
        obtain ⟨t, ht⟩ : ∃ t : Nat, t = s := ⟨_, rfl⟩
        obtain rfl := ht
        have htl : t ≤ l.length := hsl
        have hs1 : IntKind.i64.wrap (t : Int) = (t : Int) := IntWalk.i64_in _ (by omega)
        have hs2 : (0 : Int) ≤ (t : Int) := by omega
        have hq := HD1.out
        have HKQ := Lib.hid HKK.out
        clear c1 c2
        obtain ⟨wq, rfl⟩ : ∃ wq : World, wq = wr := ⟨_, rfl⟩
        clear HD1 HKK
        have c1 := hq.c_file HV.out
        rw [HVF.out] at c1
        have c2 := hq.c_sync HP.out
        have ff := hq.blk.frozen (1 + k)
        have fs := hq.blk.frozen (9 + k)
        have lB := hq.blk.lt
        have hown := (hq.files k v (l, t) HV.out HP.out).1
        have kc := own_cap hown HVF.out
        have hcut : Bs wq (.slice Af t capf) (l.take t) := by
          have h9 := OwnB.bs hown
          rw [HVF.out] at h9
          exact Bs.cut h9 htl
        have HL : Hid (t = (l.take t).length) := Lib.hid (by rw [List.length_take]; omega)
        have HCUT : Hid (Rd wq 1 (.slice Af t capf) t ((l.take t).map bv)) := Lib.hid (by unfold Bs at hcut; rw [← HL.out] at hcut; exact hcut)
        have M0 := Lib.hid (World.ownsRow_made (base := wq.heap.size) (e := 5) (size := 1) wq #[] 0 (Nat.le_refl _) (by decide) rfl)
        have m1 : 0 + t ≤ maxLen := by simp only [maxLen]; omega
        have HQ := Lib.hid hq
        clear hq hown hcut kc
        simp only at c1 c2
        go_wp2_with fail
        go_region_law ((refine step_append_rd _ (by rfl) _ _ 30 (by rfl) wq.heap.size 5 j0 _ 1 1 Try.underlying30 hj hy0 hy1 hy2 rfl (by omega) (.slice (some ⟨wq.heap.size, 0, none⟩) 0 0) 0 [] (by rfl) M0.out _ t ((l.take t).map bv) (by rfl) (Rd.alloc HCUT.out _) (bvs_one _) m1 (by omega) (by simp) ?_
                        intro A1 cap1 wa hown1 hg1 hat1
                        have hka : Kept Kno wq wa := (Kept.drew (Kept.alloc (Kept.refl _ wq) _)).grown hg1 (fun k hk e => by cases e; exact absurd hk (Nat.lt_irrefl _))
                        have q : wa.cell? ⟨B, 1 + k, none⟩ = some (.slice Af l.length capf) := hka.cell_some c1 (fun h => h)
                        have q' : wa.frozen? ⟨B, 1 + k, none⟩ = false := hka.frozen_no ff lB (fun h => h)
                        have r : wa.cell? ⟨B, 9 + k, none⟩ = some (.int .i64 (t : Nat)) := hka.cell_some c2 (fun h => h)
                        have r' : wa.frozen? ⟨B, 9 + k, none⟩ = false := hka.frozen_no fs lB (fun h => h)
                        simp only [Nat.zero_add, List.nil_append] at hown1
                        rw [Nat.zero_add]))
        all_goals
          have r2 : (wa.setCell ⟨B, 1 + k, none⟩ (.slice A1 t cap1)).cell? ⟨B, 9 + k, none⟩ = some (.int .i64 (t : Nat)) := (cell_apart _ B _ _ _ (by omega)).trans r
          have r3 : (wa.setCell ⟨B, 1 + k, none⟩ (.slice A1 t cap1)).cell? ⟨B, 1 + k, none⟩ = some (.slice A1 t cap1) := cell_same _ _ _ q
          have r4 : (wa.setCell ⟨B, 1 + k, none⟩ (.slice A1 t cap1)).frozen? ⟨B, 9 + k, none⟩ = false := by go_simp
          have HC := Lib.hid (rclose_crash HQ.out HKQ.out HVS.out HP.out hka hown1 HL.out HCN.out)
          generalize wa.setCell ⟨B, 1 + k, none⟩ (.slice A1 t cap1) = wb at r2 r3 r4 HC ⊢
          clear q q' r r' hka hown1 hg1 hat1 c1 c2 ff fs lB HCUT M0 HQ
          go_wp2_with fail
          go_region_law (fail)
          all_goals
            go_wp2
            refine ⟨⟨k + 1, by omega, by go_num, HC.out.2.then0 ((Kept.refl _ _).drewN _), ?_⟩, by simp [intOf]; omega⟩
            obtain ⟨⟨vs9, h9, h8⟩, -⟩ := HC.out
            exact ⟨vs9, h9.kept0 ((Kept.refl _ _).drewN _), h8⟩
    · have hk8 : ¬ (k : Int) < 8 := by omega
      obtain rfl : k = 8 := by omega
      have c1 := hd1.c_plan
      have c2 := hd1.c_down
      have f1 := hd1.blk.frozen 17
      have f2 := hd1.blk.frozen 18
      have hs := hd1.set_pd 0 false (by omega) (by omega)
      have HT : Hid (RTurn base B vs (a.crash ks) w ((wr.setCell ⟨B, 17, none⟩ (.int .i64 0)).setCell ⟨B, 18, none⟩ (.bool false))) := Lib.hid ⟨⟨vs1, hs, HVS.out⟩, Kept.setIn (S := Kone B) (Kept.setIn (S := Kone B) HKK.out (p := ⟨B, 17, none⟩) (Eq.refl B) _) (p := ⟨B, 18, none⟩) (Eq.refl B) _⟩
      clear hs hd1
      simp only at c1 c2
      go_wp2
      go_end0
      exact ⟨rfl, HT.out⟩

end Go.Proofs.Yteoodgcpkgfomaa
/-
  Journal: the program's side and the reference's side lie apart.
-/
namespace Go.Proofs.Yteoodgcpkgfomaa
open Go.RowKit
set_option linter.unusedVariables false

set_option maxHeartbeats 400000 in
theorem knew_any (room : Int) (w : World) (h1 : 0 ≤ room) (h2 : room ≤ 16777216) :
    Calls Try.prog 12 #[.int .i64 room] w fun e w' =>
      e = .returned (.tuple #[.pointer (some ⟨w.heap.size, 0, none⟩), .int .i64 0]) ∧ w' = w.alloc (.cells (rCells room (List.replicate 8 (Value.slice none 0 0)) (List.replicate 8 0) 0 false).toArray 79) := by
  go_enter Try.func12, Try.ntmps12
  go_wp2
  go_ret2
  exact ⟨rfl, rfl⟩
theorem kris_new (w : World) (base : Nat) (room : Int) (hb : base ≤ w.heap.size) (h0 : 0 ≤ room) (h1 : room ≤ 16777216) :
    RIs (w.alloc (.cells (rCells room (List.replicate 8 (Value.slice none 0 0)) (List.replicate 8 0) 0 false).toArray 79)) base w.heap.size (List.replicate 8 (Value.slice none 0 0)) (ab0 room) := by
  refine ⟨hb, Blk.new _ _ _, rfl, rfl, fun i v p hv hp => ?_, by simp [ab0, Ab.used]; exact h0, h0, h1, by simp [ab0], by simp [ab0]⟩
  rw [List.getElem?_replicate] at hv
  simp only [ab0] at hp
  rw [List.getElem?_replicate] at hp
  split at hv
  · rw [if_pos ‹_›] at hp
    cases hv
    cases hp
    exact ⟨World.ownsRow_nil _ _ _ _, Nat.le_refl _⟩
  · cases hv


/-- Two sides: what the one owns the other does not; both are new since W. -/
structure Sides (W w : World) (P Q : Nat → Prop) : Prop where
  ap : ∀ k, P k → ¬ Q k
  pl : ∀ k, P k → W.heap.size ≤ k ∧ k < w.heap.size
  ql : ∀ k, Q k → W.heap.size ≤ k ∧ k < w.heap.size
  k : Kept Kno W w
section
variable {W w w' : World} {P Q P' Q' : Nat → Prop}
theorem Sides.kept0 (h : Sides W w P Q) (hk : Kept Kno w w') : Sides W w' P Q :=
  ⟨h.ap, fun k e => ⟨(h.pl k e).1, Nat.lt_of_lt_of_le (h.pl k e).2 hk.size⟩, fun k e => ⟨(h.ql k e).1, Nat.lt_of_lt_of_le (h.ql k e).2 hk.size⟩, h.k.then0 hk⟩
theorem Sides.swap (h : Sides W w P Q) : Sides W w Q P := ⟨fun k h1 h2 => h.ap k h2 h1, h.ql, h.pl, h.k⟩
/-- The first side moves. -/
theorem Sides.move {S : Nat → Prop} (h : Sides W w P Q) (hk : Kept S w w') (hS : ∀ k, S k → P k) (hP : ∀ k, P' k → P k ∨ w.heap.size ≤ k) (hl : ∀ k, P' k → k < w'.heap.size) : Sides W w' P' Q := by
  have hs := hk.size
  have hW := h.k.size
  refine ⟨fun k e e' => ?_, fun k e => ⟨?_, hl k e⟩, fun k e => ⟨(h.ql k e).1, Nat.lt_of_lt_of_le (h.ql k e).2 hs⟩, h.k.trans hk (fun i hi e => by have := (h.pl i (hS i e)).1; omega)⟩
  · rcases hP k e with h1 | h1
    · exact h.ap k h1 e'
    · have := (h.ql k e').2; omega
  · rcases hP k e with h1 | h1
    · exact (h.pl k h1).1
    · omega
theorem Sides.mono (h : Sides W w P Q) (hP : ∀ k, P' k → P k) (hQ : ∀ k, Q' k → Q k) : Sides W w P' Q' :=
  ⟨fun k e e' => h.ap k (hP k e) (hQ k e'), fun k e => h.pl k (hP k e), fun k e => h.ql k (hQ k e), h.k⟩
end

end Go.Proofs.Yteoodgcpkgfomaa
