/-
  The reference's disk: Append.
-/
import Derived.Test.YteoodgcpkgfomaaDiskR4
namespace Go.Proofs.Yteoodgcpkgfomaa
open Go.RowKit
set_option linter.unusedVariables false

/-- What a call of the reference that returns a code leaves. -/
def RRet (base B : Nat) (vs : List Value) (p : Ab × Int) (w : World) (e : Ending) (w' : World) : Prop := e = .returned (.int .i64 p.2) ∧ RTurn base B vs p.1 w w'

theorem gate_true (a : Ab) (hoff : a.off = false) (hp : 0 ≤ a.plan) (i : Nat) (f : List UInt8 × Nat) : gateOf a true i f = (⟨(failsTo a).room, (failsTo a).fs.set i f, (failsTo a).off, (failsTo a).plan⟩, if a.plan = 1 then 220 else 0) := by
  obtain ⟨room, fs, off, plan⟩ := a
  simp only at hoff hp
  subst hoff
  unfold gateOf failsTo
  by_cases h0 : plan = 0
  · subst h0; simp
  · by_cases h1 : plan = 1
    · subst h1; simp
    · simp [h0, h1]
theorem gate_false (a : Ab) (hoff : a.off = false) (hp : 0 ≤ a.plan) (i : Nat) (f : List UInt8 × Nat) : gateOf a false i f = if a.plan = 1 then (failsTo a, 220) else (⟨(failsTo a).room, (failsTo a).fs.set i f, (failsTo a).off, (failsTo a).plan⟩, 0) := by
  obtain ⟨room, fs, off, plan⟩ := a
  simp only at hoff hp
  subst hoff
  unfold gateOf failsTo
  by_cases h0 : plan = 0
  · subst h0; simp
  · by_cases h1 : plan = 1
    · subst h1; simp
    · simp [h0, h1]
theorem fails_fs (a : Ab) : (failsTo a).fs = a.fs ∧ (failsTo a).room = a.room ∧ (failsTo a).used = a.used := by
  unfold failsTo Ab.used; split <;> exact ⟨rfl, rfl, rfl⟩

section
variable {w w' : World} {base B : Nat} {vs : List Value} {a : Ab}
theorem RIs.base_le (h : RIs w base B vs a) : base ≤ w.heap.size := Nat.le_trans h.low (Nat.le_of_lt h.blk.lt)
theorem RIs.file (h : RIs w base B vs a) {i : Nat} (hi : i < 8) : ∃ v p, vs[i]? = some v ∧ a.fs[i]? = some p ∧ a.file i = p := by
  have hl := h.vlen
  have hl2 := h.len
  refine ⟨vs[i]'(by omega), a.fs[i]'(by omega), List.getElem?_eq_getElem (by omega), List.getElem?_eq_getElem (by omega), ?_⟩
  simp only [Ab.file, List.getD, List.getElem?_eq_getElem (show i < a.fs.length by omega), Option.getD_some]
theorem RIs.turn0 (h : RIs w base B vs a) (hk : Kept Kno w w') : RTurn base B vs a w w' := ⟨⟨vs, h.kept0 hk, VsFrom.refl _ _⟩, hk.mono (fun _ _ e => e.elim)⟩
theorem rused_quiet (h : RIs w base B vs a) (n : Nat) :
    Calls Try.prog 18 #[.pointer (some ⟨B, 0, none⟩)] (w.drewN n) fun e w' => e = .returned (.int .i64 a.used) ∧ w' = w.drewN n :=
  (rused_any (h.kept0 (Kept.drewN (Kept.refl _ w) n))).mono fun _ _ ⟨a, b⟩ => ⟨a, b.symm⟩
theorem used_file {a : Ab} {i : Nat} {p : List UInt8 × Nat} (hp : a.fs[i]? = some p) : p.1.length ≤ a.used := by
  have h := List.mem_of_getElem? hp
  unfold Ab.used
  generalize a.fs = fs at h
  clear hp
  induction fs with
  | nil => cases h
  | cons x l ih =>
    simp only [List.map_cons, List.sum_cons]
    rcases List.mem_cons.1 h with rfl | h
    · omega
    · have := ih h; omega
end

set_option maxHeartbeats 800000 in
theorem rappend_no (i c : Int) (A : Option Addr) (n cap : Nat) {w : World} {base B : Nat} {vs : List Value} {a : Ab} (h : RIs w base B vs a) (hc : checkOf a.off i = c) (hc0 : c ≠ 0) :
    Calls Try.prog 55 #[.pointer (some ⟨B, 0, none⟩), .int .i64 i, .slice A n cap] w fun e w' => e = .returned (.int .i64 c) ∧ w = w' := by
  have HD := Lib.hid h
  have HC := Lib.hid hc
  clear h hc
  go_enter Try.func55, Try.ntmps55
  go_wp2_with fail
  refine (rbegin_any i HD.out).mono ?_
  rintro e w1 ⟨rfl, rfl⟩
  rw [HC.out]
  go_wp2
  go_ret
  exact ⟨rfl, rfl⟩

set_option maxHeartbeats 800000 in
theorem rappend_full (i : Nat) (A : Option Addr) (n cap : Nat) {w : World} {base B : Nat} {vs : List Value} {a : Ab} (h : RIs w base B vs a) (hoff : a.off = false) (hi : i < 8) (hn : a.room - (a.used : Int) < n) (hm : n ≤ 9223372036854775807 - 16777216) :
    Calls Try.prog 55 #[.pointer (some ⟨B, 0, none⟩), .int .i64 i, .slice A n cap] w fun e w' => e = .returned (.int .i64 221) ∧ Kept Kno w w' := by
  have HD := Lib.hid h
  have HC := Lib.hid (checkOf_ok hi)
  have HO := Lib.hid hoff
  have h0 := h.room0
  have h1 := h.room1
  have h2 := h.fits
  have c1 := h.c_room
  have HU := Lib.hid (rused_quiet h)
  generalize a.room = room at h0 h1 h2 c1 hn
  generalize a.used = U at h2 hn HU
  have hw : IntKind.i64.wrap ((U : Int) + (n : Int)) = (U : Int) + (n : Int) := IntWalk.i64_in _ (by omega)
  have hd : decide (room < (U : Int) + (n : Int)) = true := by simp; omega
  clear h hoff
  go_enter Try.func55, Try.ntmps55
  go_wp2_with fail
  refine (rbegin_any i HD.out).mono ?_
  rintro e w1 ⟨rfl, rfl⟩
  rw [HO.out, HC.out]
  go_wp2_with fail
  go_quiet ((go_at_call 18; exact Calls.quiet_of_same (HU.out _)))
  go_wp2
  go_ret
  exact ⟨rfl, (Kept.refl _ w).drewN _⟩

/-- A row made anew, and a file set to it. -/
theorem rclose_file {w w1 : World} {base B i : Nat} {vs : List Value} {a : Ab} {A1 : Option Addr} {cap1 : Nat} (h : RIs w base B vs a) {p : List UInt8 × Nat} (hp : a.fs[i]? = some p) (hk : Kept Kno w w1) (l : List UInt8) {n : Nat} (hn : n = l.length)
    (ho : w1.ownsRow w.heap.size 5 1 (.slice A1 n cap1) n (l.map bv)) (hs : p.2 ≤ l.length) (hfit : (a.used : Int) + l.length - p.1.length ≤ a.room) :
    (∃ vs', RIs (w1.setCell ⟨B, 1 + i, none⟩ (.slice A1 n cap1)) base B vs' ⟨a.room, a.fs.set i (l, p.2), a.off, a.plan⟩ ∧ VsFrom vs vs' w.heap.size) ∧ Kept (Kone B) w (w1.setCell ⟨B, 1 + i, none⟩ (.slice A1 n cap1)) := by
  subst hn
  have := h.set_file hk hp _ l (own_rebase ho (fun k e => Nat.le_trans h.base_le (own_base ho e).1)) hs hfit
  exact ⟨⟨_, this.1, VsFrom.set _ _ _ (fun k e => (own_base ho e).1)⟩, this.2⟩

theorem rclose_append {w wf w2 : World} {base B i : Nat} {vs : List Value} {a : Ab} {A1 : Option Addr} {cap1 : Nat} (hoff : a.off = false) (hp0 : 0 ≤ a.plan) (hR : RIs wf base B vs (failsTo a)) (hK : Kept (Kone B) w wf) {p : List UInt8 × Nat} (hp : a.fs[i]? = some p) (hk : Kept Kno wf w2) (lb : List UInt8)
    (ho : w2.ownsRow wf.heap.size 5 1 (.slice A1 (p.1.length + lb.length) cap1) (p.1.length + lb.length) (p.1.map bv ++ lb.map bv)) (hfit : (a.used : Int) + lb.length ≤ a.room) (c : Int) (hc : (if a.plan = 1 then 220 else 0) = c) :
    RRet base B vs (gateOf a true i (p.1 ++ lb, p.2)) w (.returned (.int .i64 c)) (w2.setCell ⟨B, 1 + i, none⟩ (.slice A1 (p.1.length + lb.length) cap1)) := by
  obtain ⟨f1, f2, f3⟩ := fails_fs a
  rw [gate_true a hoff hp0, hc]
  have hp' : (failsTo a).fs[i]? = some p := by rw [f1]; exact hp
  have hl := hR.vlen
  have hl2 := hR.len
  have hi : i < (failsTo a).fs.length := (List.getElem?_eq_some_iff.1 hp').1
  have hs := (hR.files i (vs[i]'(by omega)) p (List.getElem?_eq_getElem (by omega)) hp').2
  have := rclose_file hR hp' hk (p.1 ++ lb) (n := p.1.length + lb.length) (by simp) (by rw [List.map_append]; exact ho) (by rw [List.length_append]; omega) (by rw [f3, f2, List.length_append]; omega)
  obtain ⟨⟨vs', h1, h2⟩, h3⟩ := this
  exact ⟨rfl, ⟨vs', h1, h2.low hK.size⟩, hK.trans h3 (fun _ _ e => e)⟩

set_option maxRecDepth 100000 in
set_option maxHeartbeats 1600000 in
theorem rappend_yes (i : Nat) (Ax : Option Addr) (lb : List UInt8) (capx : Nat) {w : World} {base B : Nat} {vs : List Value} {a : Ab} (h : RIs w base B vs a) (hoff : a.off = false) (hi : i < 8) {v : Value} {p : List UInt8 × Nat} (hv : vs[i]? = some v) (hp : a.fs[i]? = some p)
    (hfit : (a.used : Int) + lb.length ≤ a.room) (hb : Bs w (.slice Ax lb.length capx) lb) :
    Calls Try.prog 55 #[.pointer (some ⟨B, 0, none⟩), .int .i64 i, .slice Ax lb.length capx] w (RRet base B vs (gateOf a true i (p.1 ++ lb, p.2)) w) := by
  obtain ⟨j0, hj, hy0, hy1, hy2⟩ := info_parts info_byte
  have HD := Lib.hid h
  have HC := Lib.hid (checkOf_ok hi)
  have HO := Lib.hid hoff
  have HP := Lib.hid hp
  have HV := Lib.hid hv
  have HBS := Lib.hid (h.bs hb)
  have HFIT := Lib.hid hfit
  have HF := Lib.hid (fun (n : Nat) => rfails_any (h.kept0 (Kept.drewN (Kept.refl _ w) n)) hoff)
  have h0 := h.room0
  have h1 := h.room1
  have h2 := h.fits
  have c1 := h.c_room
  have hle := used_file hp
  have HU := Lib.hid (rused_quiet h)
  have hpl : p.1.length + lb.length ≤ 16777216 := by omega
  generalize a.room = room at h0 h1 h2 c1 hfit
  generalize a.used = U at h2 hfit HU
  have hw : IntKind.i64.wrap ((U : Int) + (lb.length : Int)) = (U : Int) + (lb.length : Int) := IntWalk.i64_in _ (by omega)
  have hd : decide (room < (U : Int) + (lb.length : Int)) = false := by simp; omega
  clear h hoff hp hv hb hle
  go_enter Try.func55, Try.ntmps55
  go_wp2_with fail
  refine (rbegin_any i HD.out).mono ?_
  rintro e w1 ⟨rfl, rfl⟩
  rw [HO.out, HC.out]
  go_wp2_with fail
  go_quiet ((go_at_call 18; exact Calls.quiet_of_same (HU.out _)))
  clear hw hd h2 c1 hfit h0 h1
  go_wp2_with fail
  refine (HF.out _).mono ?_
  rintro e wf ⟨rfl, hR, hK⟩
  have hK0 : Kept (Kone B) w wf := (Kept.drewN (Kept.refl _ w) nq).trans hK (fun _ _ e => e)
  have HP2 : Hid ((failsTo a).fs[i]? = some p) := Lib.hid (by rw [(fails_fs a).1]; exact HP.out)
  have HR := Lib.hid hR
  have HK0 := Lib.hid hK0
  have HX := Lib.hid (HBS.out wf hK0)
  have hown := (hR.files i v p HV.out HP2.out).1
  have cf := hR.c_file HV.out
  have ff := hR.blk.frozen (1 + i)
  have lB := hR.blk.lt
  obtain ⟨Af, capf, hvf⟩ := own_form hown
  have HOB : Hid (Rd wf 1 (.slice Af p.1.length capf) p.1.length (p.1.map bv)) := Lib.hid (by have := OwnB.bs hown; rw [hvf] at this; exact this)
  rw [hvf] at cf
  have M0 := Lib.hid (World.ownsRow_made (base := wf.heap.size) (e := 5) (size := 1) wf #[] 0 (Nat.le_refl _) (by decide) rfl)
  have m1 : 0 + p.1.length ≤ maxLen := by simp only [maxLen]; omega
  have m2 : p.1.length + lb.length ≤ maxLen := by simp only [maxLen]; omega
  have hi1 : (i : Int) < 8 := by omega
  clear hR hK hK0 hown hvf
  have HPL : Hid (0 ≤ a.plan) := Lib.hid HD.out.plan0
  by_cases hfl : a.plan = 1
  · have HFL : Hid ((if a.plan = 1 then (220 : Int) else 0) = 220) := Lib.hid (by rw [if_pos hfl])
    have e1 : decide (a.plan = 1) = true := by simp [hfl]
    rw [e1]
    clear e1 hfl
    go_wp2_with fail
    go_region_law (first
     | (refine step_append_rd _ (by rfl) (.tmp 29) (.tmp 35) 30 (by rfl) wf.heap.size 5 j0 _ 1 1 Try.underlying30 hj hy0 hy1 hy2 rfl (by omega) (.slice (some ⟨wf.heap.size, 0, none⟩) 0 0) 0 [] (by rfl) M0.out _ p.1.length (p.1.map bv) (by rfl) (Rd.alloc HOB.out _) (bvs_one p.1) m1 (by omega) (by simp) ?_
        intro A1 cap1 wa hown1 hg1 hat1
        have hka : Kept Kno wf wa := (Kept.drew (Kept.alloc (Kept.refl _ wf) _)).grown hg1 (fun k hk e => by cases e; exact absurd hk (Nat.lt_irrefl _))
        have q : wa.cell? ⟨B, 1 + i, none⟩ = some (.slice Af p.1.length capf) := hka.cell_some cf (fun h => h)
        have q' : wa.frozen? ⟨B, 1 + i, none⟩ = false := hka.frozen_no ff lB (fun h => h)
        simp only [Nat.zero_add, List.nil_append] at hown1
        rw [Nat.zero_add])
     | (refine step_append_rd _ (by rfl) (.tmp 36) (.tmp 37) 30 (by rfl) wf.heap.size 5 j0 _ 1 1 Try.underlying30 hj hy0 hy1 hy2 rfl (by omega) (.slice A1 p.1.length cap1) p.1.length _ (by rfl) hown1 _ lb.length (lb.map bv) (by rfl) (Rd.kept0 HX.out hka) (bvs_one lb) m2 (by omega) hka.size ?_
        intro A2 cap2 wb hown2 hg2 hat2
        have hkb : Kept Kno wf wb := hka.grown hg2 (fun k hk e => by have := (own_base hown1 e).1; omega)
        have q0 : wb.cell? ⟨B, 1 + i, none⟩ = some (.slice Af p.1.length capf) := hkb.cell_some cf (fun h => h)
        have q1 : wb.frozen? ⟨B, 1 + i, none⟩ = false := hkb.frozen_no ff lB (fun h => h)))
    all_goals
      go_wp2
      go_ret
      exact rclose_append HO.out HPL.out HR.out HK0.out HP.out hkb lb hown2 HFIT.out _ HFL.out
  · have HFL : Hid ((if a.plan = 1 then (220 : Int) else 0) = 0) := Lib.hid (by rw [if_neg hfl])
    have e1 : decide (a.plan = 1) = false := by simp [hfl]
    rw [e1]
    clear e1 hfl
    go_wp2_with fail
    go_region_law (first
     | (refine step_append_rd _ (by rfl) (.tmp 29) (.tmp 35) 30 (by rfl) wf.heap.size 5 j0 _ 1 1 Try.underlying30 hj hy0 hy1 hy2 rfl (by omega) (.slice (some ⟨wf.heap.size, 0, none⟩) 0 0) 0 [] (by rfl) M0.out _ p.1.length (p.1.map bv) (by rfl) (Rd.alloc HOB.out _) (bvs_one p.1) m1 (by omega) (by simp) ?_
        intro A1 cap1 wa hown1 hg1 hat1
        have hka : Kept Kno wf wa := (Kept.drew (Kept.alloc (Kept.refl _ wf) _)).grown hg1 (fun k hk e => by cases e; exact absurd hk (Nat.lt_irrefl _))
        have q : wa.cell? ⟨B, 1 + i, none⟩ = some (.slice Af p.1.length capf) := hka.cell_some cf (fun h => h)
        have q' : wa.frozen? ⟨B, 1 + i, none⟩ = false := hka.frozen_no ff lB (fun h => h)
        simp only [Nat.zero_add, List.nil_append] at hown1
        rw [Nat.zero_add])
     | (refine step_append_rd _ (by rfl) (.tmp 36) (.tmp 37) 30 (by rfl) wf.heap.size 5 j0 _ 1 1 Try.underlying30 hj hy0 hy1 hy2 rfl (by omega) (.slice A1 p.1.length cap1) p.1.length _ (by rfl) hown1 _ lb.length (lb.map bv) (by rfl) (Rd.kept0 HX.out hka) (bvs_one lb) m2 (by omega) hka.size ?_
        intro A2 cap2 wb hown2 hg2 hat2
        have hkb : Kept Kno wf wb := hka.grown hg2 (fun k hk e => by have := (own_base hown1 e).1; omega)
        have q0 : wb.cell? ⟨B, 1 + i, none⟩ = some (.slice Af p.1.length capf) := hkb.cell_some cf (fun h => h)
        have q1 : wb.frozen? ⟨B, 1 + i, none⟩ = false := hkb.frozen_no ff lB (fun h => h)))
    all_goals
      go_wp2
      go_ret
      exact rclose_append HO.out HPL.out HR.out HK0.out HP.out hkb lb hown2 HFIT.out _ HFL.out
theorem rappend_any (i : Int) (v : Value) (lb : List UInt8) {w : World} {base B : Nat} {vs : List Value} {a : Ab} (h : RIs w base B vs a) (hb : Bs w v lb) (hm : lb.length ≤ 9223372036854775807 - 16777216) :
    Calls Try.prog 55 #[.pointer (some ⟨B, 0, none⟩), .int .i64 i, v] w (RRet base B vs (a.append i lb) w) := by
  have hb0 := hb
  obtain ⟨A, cap, rfl, -⟩ := hb
  unfold Ab.append
  by_cases hc : checkOf a.off i ≠ 0
  · rw [if_pos hc]
    exact (rappend_no i _ A lb.length cap h rfl hc).mono fun e w' ⟨x, y⟩ => ⟨x, y ▸ h.turn0 (Kept.refl _ _)⟩
  · rw [if_neg hc]
    obtain ⟨h1, h2, h3⟩ := check_range hc
    obtain ⟨n, rfl⟩ : ∃ n : Nat, i = n := ⟨i.toNat, by omega⟩
    obtain ⟨v, p, hv, hp, haf⟩ := h.file (i := n) (by omega)
    by_cases hn : a.room - (a.used : Int) < lb.length
    · rw [if_pos hn]
      exact (rappend_full n A lb.length cap h h1 (by omega) hn hm).mono fun e w' ⟨x, y⟩ => ⟨x, h.turn0 y⟩
    · rw [if_neg hn, Int.toNat_natCast, haf]
      exact rappend_yes n A lb cap h h1 (by omega) hv hp (by omega) hb0

end Go.Proofs.Yteoodgcpkgfomaa
