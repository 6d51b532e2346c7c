/-
  The reference's disk: Read, Replace, Truncate.
-/
import Derived.Test.YteoodgcpkgfomaaDiskR6
namespace Go.Proofs.Yteoodgcpkgfomaa
open Go.RowKit
set_option linter.unusedVariables false

theorem cell_apart (w : World) (B i j : Nat) (u : Value) (h : i ≠ j) : (w.setCell ⟨B, i, none⟩ u).cell? ⟨B, j, none⟩ = w.cell? ⟨B, j, none⟩ :=
  World.cell?_setCell_other _ _ _ _ (fun e => h (by injection e))
theorem cell_same (w : World) (a : Addr) (v : Value) {u : Value} (h : w.cell? a = some u) : (w.setCell a v).cell? a = some v := World.cell?_setCell_same _ _ _ h

set_option maxRecDepth 100000 in
set_option maxHeartbeats 1600000 in
theorem rread_yes (i : Nat) {w : World} {base B : Nat} {vs : List Value} {a : Ab} (h : RIs w base B vs a) (hoff : a.off = false) (hi : i < 8) {v : Value} {p : List UInt8 × Nat} (hv : vs[i]? = some v) (hp : a.fs[i]? = some p) :
    Calls Try.prog 20 #[.pointer (some ⟨B, 0, none⟩), .int .i64 i] w (RetRead p.1 0 w) := by
  obtain ⟨j0, hj, hy0, hy1, hy2⟩ := info_parts info_byte
  have HD := Lib.hid h
  have HC := Lib.hid (checkOf_ok hi)
  have HO := Lib.hid hoff
  have hi1 : (i : Int) < 8 := by omega
  have lB := h.blk.lt
  have h1 := h.room1
  have h2 := h.fits
  have hle := used_file hp
  have hown := (h.files i v p hv hp).1
  have cf := h.c_file hv
  obtain ⟨Af, capf, hvf⟩ := own_form hown
  have HOB : Hid (Rd w 1 (.slice Af p.1.length capf) p.1.length (p.1.map bv)) := Lib.hid (by have := OwnB.bs hown; rw [hvf] at this; exact this)
  rw [hvf] at cf
  have M0 := Lib.hid (World.ownsRow_made (base := w.heap.size) (e := 5) (size := 1) w #[] 0 (Nat.le_refl _) (by decide) rfl)
  have m1 : 0 + p.1.length ≤ maxLen := by simp only [maxLen]; omega
  have m3 : (0 + p.1.length) * 1 ≤ 140737488355328 := by omega
  clear h hoff hp hv hvf hown hle h1 h2
  go_enter Try.func20, Try.ntmps20
  go_wp2_with fail
  refine (rbegin_any i HD.out).mono ?_
  rintro e w1 ⟨rfl, rfl⟩
  rw [HO.out, HC.out]
  go_wp2_with (at_builtin; go_must (refine wpList_append_rd _ rfl _ _ 30 rfl w.heap.size 5 j0 _ 1 1 Try.underlying30 hj hy0 hy1 hy2 rfl (by decide) (.slice (some ⟨w.heap.size, 0, none⟩) 0 0) 0 [] rfl M0.out _ p.1.length (p.1.map bv) rfl (Rd.alloc HOB.out _) (bvs_one p.1) m1 m3 (by simp) ?_); intro A1 cap1 wa hown1 hg1 hat1)
  go_ret2
  simp only [Nat.zero_add, List.nil_append] at hown1
  exact ⟨A1, cap1, rfl, hown1, (Kept.alloc (Kept.refl _ w) _).grown hg1 (fun k hk e => by cases e; exact absurd hk (Nat.lt_irrefl _))⟩

theorem rread_any (i : Int) {w : World} {base B : Nat} {vs : List Value} {a : Ab} (h : RIs w base B vs a) :
    Calls Try.prog 20 #[.pointer (some ⟨B, 0, none⟩), .int .i64 i] w (RetRead (a.read i).1 (a.read i).2 w) := by
  unfold Ab.read
  by_cases hc : checkOf a.off i ≠ 0
  · rw [if_pos hc]
    exact (rread_no i _ h rfl hc).mono fun e w' ⟨x, y⟩ => ⟨none, 0, x, World.ownsRow_nil _ _ _ _, y ▸ Kept.refl _ _⟩
  · rw [if_neg hc]
    obtain ⟨h1, h2, h3⟩ := check_range hc
    obtain ⟨n, rfl⟩ : ∃ n : Nat, i = n := ⟨i.toNat, by omega⟩
    obtain ⟨v, p, hv, hp, haf⟩ := h.file (i := n) (by omega)
    rw [Int.toNat_natCast, haf]
    exact rread_yes n h h1 (by omega) hv hp

set_option maxHeartbeats 800000 in
theorem rreplace_full (i : Nat) (A : Option Addr) (n cap : Nat) {w : World} {base B : Nat} {vs : List Value} {a : Ab} (h : RIs w base B vs a) (hoff : a.off = false) (hi : i < 8) {v : Value} {p : List UInt8 × Nat} (hv : vs[i]? = some v) (hp : a.fs[i]? = some p) (hn : a.room - ((a.used : Int) - p.1.length) < n) (hm : n ≤ 9223372036854775807 - 16777216) :
    Calls Try.prog 35 #[.pointer (some ⟨B, 0, none⟩), .int .i64 i, .slice A n cap] w fun e w' => e = .returned (.int .i64 221) ∧ Kept Kno w w' := by
  have HD := Lib.hid h
  have HC := Lib.hid (checkOf_ok hi)
  have HO := Lib.hid hoff
  have h0 := h.room0
  have h1 := h.room1
  have h2 := h.fits
  have c1 := h.c_room
  have hi1 : (i : Int) < 8 := by omega
  have hle := used_file hp
  have cf := h.c_file hv
  obtain ⟨Af, capf, hvf⟩ := own_form (h.files i v p hv hp).1
  rw [hvf] at cf
  have HU := Lib.hid (rused_quiet h)
  generalize a.room = room at h0 h1 h2 c1 hn
  generalize a.used = U at h2 hn HU hle
  generalize p.1.length = np at hle hn cf
  have hw : IntKind.i64.wrap ((U : Int) - (np : Int)) = (U : Int) - (np : Int) := IntWalk.i64_in _ (by omega)
  have hw2 : IntKind.i64.wrap ((U : Int) - (np : Int) + (n : Int)) = (U : Int) - (np : Int) + (n : Int) := IntWalk.i64_in _ (by omega)
  have hd : decide (room < (U : Int) - (np : Int) + (n : Int)) = true := by simp; omega
  clear h hoff hv hp hvf
  go_enter Try.func35, Try.ntmps35
  go_wp2_with fail
  refine (rbegin_any i HD.out).mono ?_
  rintro e w1 ⟨rfl, rfl⟩
  rw [HO.out, HC.out]
  go_wp2_with fail
  go_quiet ((go_at_call 18; exact Calls.quiet_of_same (HU.out _)))
  go_wp2
  go_ret
  exact ⟨rfl, (Kept.refl _ w).drewN _⟩

set_option maxRecDepth 100000 in
set_option maxHeartbeats 1600000 in
theorem rreplace_yes (i : Nat) (Ax : Option Addr) (lb : List UInt8) (capx : Nat) {w : World} {base B : Nat} {vs : List Value} {a : Ab} (h : RIs w base B vs a) (hoff : a.off = false) (hi : i < 8) {v : Value} {p : List UInt8 × Nat} (hv : vs[i]? = some v) (hp : a.fs[i]? = some p)
    (hfit : (a.used : Int) - p.1.length + lb.length ≤ a.room) (hb : Bs w (.slice Ax lb.length capx) lb) :
    Calls Try.prog 35 #[.pointer (some ⟨B, 0, none⟩), .int .i64 i, .slice Ax lb.length capx] w (RRet base B vs (gateOf a false i (lb, lb.length)) w) := by
  obtain ⟨j0, hj, hy0, hy1, hy2⟩ := info_parts info_byte
  have HD := Lib.hid h
  have HC := Lib.hid (checkOf_ok hi)
  have HO := Lib.hid hoff
  have HP := Lib.hid hp
  have HV := Lib.hid hv
  have HBS := Lib.hid (h.bs hb)
  have HFIT := Lib.hid hfit
  have HPL : Hid (0 ≤ a.plan) := Lib.hid h.plan0
  have HF := Lib.hid (fun (n : Nat) => rfails_any (h.kept0 (Kept.drewN (Kept.refl _ w) n)) hoff)
  have h0 := h.room0
  have h1 := h.room1
  have h2 := h.fits
  have c1 := h.c_room
  have hle := used_file hp
  have hi1 : (i : Int) < 8 := by omega
  have cf := h.c_file hv
  obtain ⟨Af, capf, hvf⟩ := own_form (h.files i v p hv hp).1
  rw [hvf] at cf
  have HU := Lib.hid (rused_quiet h)
  have hpl : lb.length ≤ 16777216 := by omega
  generalize a.room = room at h0 h1 h2 c1 hfit
  generalize a.used = U at h2 hfit HU hle
  generalize hnp : p.1.length = np at hle hfit cf
  have hw : IntKind.i64.wrap ((U : Int) - (np : Int)) = (U : Int) - (np : Int) := IntWalk.i64_in _ (by omega)
  have hw2 : IntKind.i64.wrap ((U : Int) - (np : Int) + (lb.length : Int)) = (U : Int) - (np : Int) + (lb.length : Int) := IntWalk.i64_in _ (by omega)
  have hd : decide (room < (U : Int) - (np : Int) + (lb.length : Int)) = false := by simp; omega
  clear h hoff hp hv hb hnp hvf
  by_cases hfl : a.plan = 1
  · have HFL := Lib.hid hfl
    have e1 : decide (a.plan = 1) = true := by simp [hfl]
    rw [e1] at HF
    clear e1 hfl
    go_enter Try.func35, Try.ntmps35
    go_wp2_with fail
    refine (rbegin_any i HD.out).mono ?_
    rintro e w1 ⟨rfl, rfl⟩
    rw [HO.out, HC.out]
    go_wp2_with fail
    go_quiet ((go_at_call 18; exact Calls.quiet_of_same (HU.out _)))
    clear hw hd hw2 h2 c1 hfit h0 h1
    go_wp2_with fail
    refine (HF.out _).mono ?_
    rintro e wf ⟨rfl, hR, hK⟩
    have HR := Lib.hid hR
    have HK : Hid (Kept (Kone B) w wf) := Lib.hid ((Kept.drewN (Kept.refl _ w) nq).trans hK (fun _ _ e => e))
    clear hR hK
    go_wp2
    go_ret
    exact rclose_off HO.out HPL.out HR.out HK.out HFL.out _ _
  · have HFL := Lib.hid hfl
    have e1 : decide (a.plan = 1) = false := by simp [hfl]
    rw [e1] at HF
    clear e1 hfl
    go_enter Try.func35, Try.ntmps35
    go_wp2_with fail
    refine (rbegin_any i HD.out).mono ?_
    rintro e w1 ⟨rfl, rfl⟩
    rw [HO.out, HC.out]
    go_wp2_with fail
    go_quiet ((go_at_call 18; exact Calls.quiet_of_same (HU.out _)))
    clear hw hd hw2 h2 c1 hfit h0 h1 cf
    go_wp2_with fail
    refine (HF.out _).mono ?_
    rintro e wf ⟨rfl, hR, hK⟩
    have hK0 : Kept (Kone B) w wf := (Kept.drewN (Kept.refl _ w) nq).trans hK (fun _ _ e => e)
    have HP2 : Hid ((failsTo a).fs[i]? = some p) := Lib.hid (by rw [(fails_fs a).1]; exact HP.out)
    have HX := Lib.hid (HBS.out wf hK0)
    have cf := hR.c_file HV.out
    have ff := hR.blk.frozen (1 + i)
    have cs := hR.c_sync HP2.out
    have fs := hR.blk.frozen (9 + i)
    have lB := hR.blk.lt
    have M0 := Lib.hid (World.ownsRow_made (base := wf.heap.size) (e := 5) (size := 1) wf #[] 0 (Nat.le_refl _) (by decide) rfl)
    have m1 : 0 + lb.length ≤ maxLen := by simp only [maxLen]; omega
    have HR := Lib.hid hR
    have HK0 := Lib.hid hK0
    clear hR hK hK0
    go_wp2_with fail
    go_region_law ((refine step_append_rd _ (by rfl) _ _ 30 (by rfl) wf.heap.size 5 j0 _ 1 1 Try.underlying30 hj hy0 hy1 hy2 rfl (by omega) (.slice (some ⟨wf.heap.size, 0, none⟩) 0 0) 0 [] (by rfl) M0.out _ lb.length (lb.map bv) (by rfl) (Rd.alloc HX.out _) (bvs_one lb) m1 (by omega) (by simp) ?_
                    intro A1 cap1 wa hown1 hg1 hat1
                    have hka : Kept Kno wf wa := (Kept.drew (Kept.alloc (Kept.refl _ wf) _)).grown hg1 (fun k hk e => by cases e; exact absurd hk (Nat.lt_irrefl _))
                    have q : wa.cell? ⟨B, 1 + i, none⟩ = some v := hka.cell_some cf (fun h => h)
                    have q' : wa.frozen? ⟨B, 1 + i, none⟩ = false := hka.frozen_no ff lB (fun h => h)
                    have r : wa.cell? ⟨B, 9 + i, none⟩ = some (.int .i64 p.2) := hka.cell_some cs (fun h => h)
                    have r' : wa.frozen? ⟨B, 9 + i, none⟩ = false := hka.frozen_no fs lB (fun h => h)
                    simp only [Nat.zero_add, List.nil_append] at hown1
                    rw [Nat.zero_add]))
    all_goals
      have r2 : (wa.setCell ⟨B, 1 + i, none⟩ (.slice A1 lb.length cap1)).cell? ⟨B, 9 + i, none⟩ = some (.int .i64 p.2) := (cell_apart _ B _ _ _ (by omega)).trans r
      go_wp2
      go_ret
      exact rclose_both HO.out HPL.out HR.out HK0.out HP.out hka HFL.out lb rfl hown1 (Nat.le_refl _) (by have := HFIT.out; omega)

theorem rreplace_any (i : Int) (v : Value) (lb : List UInt8) {w : World} {base B : Nat} {vs : List Value} {a : Ab} (h : RIs w base B vs a) (hb : Bs w v lb) (hm : lb.length ≤ 9223372036854775807 - 16777216) :
    Calls Try.prog 35 #[.pointer (some ⟨B, 0, none⟩), .int .i64 i, v] w (RRet base B vs (a.replace i lb) w) := by
  have hb0 := hb
  obtain ⟨A, cap, rfl, -⟩ := hb
  unfold Ab.replace
  by_cases hc : checkOf a.off i ≠ 0
  · rw [if_pos hc]
    exact (rreplace_no i _ A lb.length cap h rfl hc).mono fun e w' ⟨x, y⟩ => ⟨x, y ▸ h.turn0 (Kept.refl _ _)⟩
  · rw [if_neg hc]
    obtain ⟨h1, h2, h3⟩ := check_range hc
    obtain ⟨n, rfl⟩ : ∃ n : Nat, i = n := ⟨i.toNat, by omega⟩
    obtain ⟨v, p, hv, hp, haf⟩ := h.file (i := n) (by omega)
    rw [Int.toNat_natCast, haf]
    by_cases hn : a.room - ((a.used : Int) - p.1.length) < lb.length
    · rw [if_pos hn]
      exact (rreplace_full n A lb.length cap h h1 (by omega) hv hp hn hm).mono fun e w' ⟨x, y⟩ => ⟨x, h.turn0 y⟩
    · rw [if_neg hn]
      exact rreplace_yes n A lb cap h h1 (by omega) hv hp (by omega) hb0

set_option maxHeartbeats 800000 in
theorem rtrunc_bad (i : Nat) (n : Int) {w : World} {base B : Nat} {vs : List Value} {a : Ab} (h : RIs w base B vs a) (hoff : a.off = false) (hi : i < 8) {v : Value} {p : List UInt8 × Nat} (hv : vs[i]? = some v) (hp : a.fs[i]? = some p) (hn : n < 0 ∨ (p.1.length : Int) < n) :
    Calls Try.prog 56 #[.pointer (some ⟨B, 0, none⟩), .int .i64 i, .int .i64 n] w fun e w' => e = .returned (.int .i64 1) ∧ w = w' := by
  have HD := Lib.hid h
  have HC := Lib.hid (checkOf_ok hi)
  have HO := Lib.hid hoff
  have hi1 : (i : Int) < 8 := by omega
  have cf := h.c_file hv
  obtain ⟨Af, capf, hvf⟩ := own_form (h.files i v p hv hp).1
  rw [hvf] at cf
  generalize p.1.length = np at cf hn
  clear h hoff hp hv hvf
  by_cases h0 : n < 0
  · clear hn
    go_enter Try.func56, Try.ntmps56
    go_wp2_with fail
    refine (rbegin_any i HD.out).mono ?_
    rintro e w1 ⟨rfl, rfl⟩
    rw [HO.out, HC.out]
    go_wp2
    go_ret
    exact ⟨rfl, rfl⟩
  · have h1 : (np : Int) < n := by omega
    have h2 : 0 ≤ n := by omega
    clear hn
    go_enter Try.func56, Try.ntmps56
    go_wp2_with fail
    refine (rbegin_any i HD.out).mono ?_
    rintro e w1 ⟨rfl, rfl⟩
    rw [HO.out, HC.out]
    go_wp2
    go_ret
    exact ⟨rfl, rfl⟩

set_option maxRecDepth 100000 in
set_option maxHeartbeats 1600000 in
theorem rtrunc_yes (i n : Nat) {w : World} {base B : Nat} {vs : List Value} {a : Ab} (h : RIs w base B vs a) (hoff : a.off = false) (hi : i < 8) {v : Value} {p : List UInt8 × Nat} (hv : vs[i]? = some v) (hp : a.fs[i]? = some p) (hn : n ≤ p.1.length) :
    Calls Try.prog 56 #[.pointer (some ⟨B, 0, none⟩), .int .i64 i, .int .i64 n] w (RRet base B vs (gateOf a false i (p.1.take n, n)) w) := by
  obtain ⟨j0, hj, hy0, hy1, hy2⟩ := info_parts info_byte
  have HD := Lib.hid h
  have HC := Lib.hid (checkOf_ok hi)
  have HO := Lib.hid hoff
  have HP := Lib.hid hp
  have HV := Lib.hid hv
  have HPL : Hid (0 ≤ a.plan) := Lib.hid h.plan0
  have HF := Lib.hid (rfails_any h hoff)
  have HFIT : Hid ((a.used : Int) + (p.1.take n).length - p.1.length ≤ a.room) := Lib.hid (by have := h.fits; rw [List.length_take]; omega)
  have HL : Hid (n = (p.1.take n).length) := Lib.hid (by rw [List.length_take]; omega)
  have h1 := h.room1
  have h2 := h.fits
  have hle := used_file hp
  have hi1 : (i : Int) < 8 := by omega
  have cf := h.c_file hv
  obtain ⟨Af, capf, hvf⟩ := own_form (h.files i v p hv hp).1
  rw [hvf] at cf
  have hpl : p.1.length ≤ 16777216 := by omega
  have k1 : (0 : Int) ≤ (n : Int) := by omega
  have k2 : (n : Int) ≤ (p.1.length : Int) := by omega
  have k3 : ¬ (p.1.length : Int) < (n : Int) := by omega
  have k4 : ¬ (n : Int) < 0 := by omega
  clear h hoff hp hv h1 h2 hle
  by_cases hfl : a.plan = 1
  · have HFL := Lib.hid hfl
    have e1 : decide (a.plan = 1) = true := by simp [hfl]
    rw [e1] at HF
    clear e1 hfl hvf
    go_enter Try.func56, Try.ntmps56
    go_wp2_with fail
    refine (rbegin_any i HD.out).mono ?_
    rintro e w1 ⟨rfl, rfl⟩
    rw [HO.out, HC.out]
    go_wp2_with fail
    refine HF.out.mono ?_
    rintro e wf ⟨rfl, hR, hK⟩
    have HR := Lib.hid hR
    have HK := Lib.hid hK
    clear hR hK
    go_wp2
    go_ret
    exact rclose_off HO.out HPL.out HR.out HK.out HFL.out _ _
  · have HFL := Lib.hid hfl
    have HVF := Lib.hid hvf
    have e1 : decide (a.plan = 1) = false := by simp [hfl]
    rw [e1] at HF
    clear e1 hfl hvf
    go_enter Try.func56, Try.ntmps56
    go_wp2_with fail
    refine (rbegin_any i HD.out).mono ?_
    rintro e w1 ⟨rfl, rfl⟩
    rw [HO.out, HC.out]
    go_wp2_with fail
    refine HF.out.mono ?_
    rintro e wf ⟨rfl, hR, hK⟩
    have HP2 : Hid ((failsTo a).fs[i]? = some p) := Lib.hid (by rw [(fails_fs a).1]; exact HP.out)
    clear cf
    have cf := hR.c_file HV.out
    rw [HVF.out] at cf
    have ff := hR.blk.frozen (1 + i)
    have cs := hR.c_sync HP2.out
    have fs := hR.blk.frozen (9 + i)
    have lB := hR.blk.lt
    have hown := (hR.files i v p HV.out HP2.out).1
    have kc := own_cap hown HVF.out
    have hcut : Bs wf (.slice Af n capf) (p.1.take n) := by
      have h9 := OwnB.bs hown
      rw [HVF.out] at h9
      exact Bs.cut h9 hn
    have HCUT : Hid (Rd wf 1 (.slice Af n capf) n ((p.1.take n).map bv)) := Lib.hid (by unfold Bs at hcut; rw [← HL.out] at hcut; exact hcut)
    have M0 := Lib.hid (World.ownsRow_made (base := wf.heap.size) (e := 5) (size := 1) wf #[] 0 (Nat.le_refl _) (by decide) rfl)
    have m1 : 0 + n ≤ maxLen := by simp only [maxLen]; omega
    have k5 : n ≤ capf := by omega
    have k6 : capf ≤ 9223372036854775807 := by have := kc.2; simp only [maxLen] at this; omega
    have k7 : (n : Int) ≤ (capf : Int) := by omega
    have HR := Lib.hid hR
    have HK0 := Lib.hid hK
    clear hR hK hown hcut kc
    go_wp2_with fail
    go_region_law ((refine step_append_rd _ (by rfl) _ _ 30 (by rfl) wf.heap.size 5 j0 _ 1 1 Try.underlying30 hj hy0 hy1 hy2 rfl (by omega) (.slice (some ⟨wf.heap.size, 0, none⟩) 0 0) 0 [] (by rfl) M0.out _ n ((p.1.take n).map bv) (by rfl) (Rd.alloc HCUT.out _) (bvs_one _) m1 (by omega) (by simp) ?_
                    intro A1 cap1 wa hown1 hg1 hat1
                    have hka : Kept Kno wf wa := (Kept.drew (Kept.alloc (Kept.refl _ wf) _)).grown hg1 (fun k hk e => by cases e; exact absurd hk (Nat.lt_irrefl _))
                    have q : wa.cell? ⟨B, 1 + i, none⟩ = some (.slice Af p.1.length capf) := hka.cell_some cf (fun h => h)
                    have q' : wa.frozen? ⟨B, 1 + i, none⟩ = false := hka.frozen_no ff lB (fun h => h)
                    have r : wa.cell? ⟨B, 9 + i, none⟩ = some (.int .i64 p.2) := hka.cell_some cs (fun h => h)
                    have r' : wa.frozen? ⟨B, 9 + i, none⟩ = false := hka.frozen_no fs lB (fun h => h)
                    simp only [Nat.zero_add, List.nil_append] at hown1
                    rw [Nat.zero_add]))
    all_goals
      have r2 : (wa.setCell ⟨B, 1 + i, none⟩ (.slice A1 n cap1)).cell? ⟨B, 9 + i, none⟩ = some (.int .i64 p.2) := (cell_apart _ B _ _ _ (by omega)).trans r
      go_wp2
      go_ret
      exact rclose_both HO.out HPL.out HR.out HK0.out HP.out hka HFL.out (p.1.take n) HL.out hown1 (Nat.le_of_eq HL.out) HFIT.out

theorem rtrunc_any (i n : Int) {w : World} {base B : Nat} {vs : List Value} {a : Ab} (h : RIs w base B vs a) :
    Calls Try.prog 56 #[.pointer (some ⟨B, 0, none⟩), .int .i64 i, .int .i64 n] w (RRet base B vs (a.trunc i n) w) := by
  unfold Ab.trunc
  by_cases hc : checkOf a.off i ≠ 0
  · rw [if_pos hc]
    exact (rtrunc_no i _ n h rfl hc).mono fun e w' ⟨x, y⟩ => ⟨x, y ▸ h.turn0 (Kept.refl _ _)⟩
  · rw [if_neg hc]
    obtain ⟨h1, h2, h3⟩ := check_range hc
    obtain ⟨m, rfl⟩ : ∃ n : Nat, i = n := ⟨i.toNat, by omega⟩
    obtain ⟨v, p, hv, hp, haf⟩ := h.file (i := m) (by omega)
    rw [Int.toNat_natCast, haf]
    by_cases hn : n < 0 ∨ (p.1.length : Int) < n
    · rw [if_pos hn]
      exact (rtrunc_bad m n h h1 (by omega) hv hp hn).mono fun e w' ⟨x, y⟩ => ⟨x, y ▸ h.turn0 (Kept.refl _ _)⟩
    · rw [if_neg hn]
      obtain ⟨k, rfl⟩ : ∃ k : Nat, n = k := ⟨n.toNat, by omega⟩
      rw [Int.toNat_natCast]
      exact rtrunc_yes m k h h1 (by omega) hv hp (by omega)

end Go.Proofs.Yteoodgcpkgfomaa
