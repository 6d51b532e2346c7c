/-
  The reference's disk: Sync, Read, Size, Replace, Truncate.
-/
import Derived.Test.YteoodgcpkgfomaaDiskR5
namespace Go.Proofs.Yteoodgcpkgfomaa
open Go.RowKit
set_option linter.unusedVariables false

section
variable {w w' : World} {base B : Nat} {vs : List Value} {a : Ab}
theorem set_sync_cells (room plan : Int) (down : Bool) (vs : List Value) (fs : List (List UInt8 × Nat)) (i s : Nat) (l : List UInt8) (hl : vs.length = 8) (hi : i < fs.length) (h8 : fs.length = 8) :
    (rCells room vs (fs.map (·.2)) plan down).toArray.setIfInBounds (9 + i) (.int .i64 s) = (rCells room vs ((fs.set i (l, s)).map (·.2)) plan down).toArray := by
  rw [List.setIfInBounds_toArray, show 9 + i = (8 + i) + 1 from by omega]
  congr 1
  simp only [rCells, List.set_cons_succ]
  rw [List.set_append_right _ _ (by omega), hl, show 8 + i - 8 = i by omega, List.set_append_left _ _ (by simp; omega), List.map_map, List.map_map]
  congr 3
  rw [List.map_set]
  rfl
/-- How much of a file is synced set anew. -/
theorem RIs.set_sync (h : RIs w base B vs a) {w1 : World} (hk : Kept Kno w w1) {i s : Nat} {p : List UInt8 × Nat} (hp : a.fs[i]? = some p) (hs : s ≤ p.1.length) :
    RIs (w1.setCell ⟨B, 9 + i, none⟩ (.int .i64 s)) base B vs ⟨a.room, a.fs.set i (p.1, s), a.off, a.plan⟩ ∧ Kept (Kone B) w (w1.setCell ⟨B, 9 + i, none⟩ (.int .i64 s)) := by
  have hl := h.vlen
  have hl2 := h.len
  have hi : i < 8 := by have := (List.getElem?_eq_some_iff.1 hp).1; omega
  have h1 := h.kept0 hk
  have hk2 : Kept (Kone B) w1 (w1.setCell ⟨B, 9 + i, none⟩ (.int .i64 s)) := Kept.setIn (S := Kone B) (Kept.refl _ _) (p := ⟨B, 9 + i, none⟩) (Eq.refl _) _
  refine ⟨⟨h.low, ?_, hl, by simp only [List.length_set]; exact hl2, fun j u q hu hq => ?_, ?_, h.room0, h.room1, h.plan0, h.plan1⟩, (hk.mono (T := Kone B) (fun _ _ e => e.elim)).trans hk2 (fun _ _ e => e)⟩
  · have h2 := h1.blk.set_ (9 + i) (.int .i64 s)
    rw [set_sync_cells _ _ _ _ _ i s p.1 hl (by omega) hl2] at h2
    exact h2
  · simp only at hq
    rw [List.getElem?_set] at hq
    by_cases hj : i = j
    · subst hj
      rw [if_pos rfl, if_pos (by omega)] at hq
      cases hq
      have h9 := h1.files i u p hu hp
      exact ⟨own_kept h9.1 hk2 (fun k hk' e => by unfold Kone at e; subst e; exact h1.own_B (List.mem_of_getElem? hu) hk'), hs⟩
    · rw [if_neg hj] at hq
      have h9 := h1.files j u q hu hq
      exact ⟨own_kept h9.1 hk2 (fun k hk' e => by unfold Kone at e; subst e; exact h1.own_B (List.mem_of_getElem? hu) hk'), h9.2⟩
  · have := sum_set_le a.fs i p (p.1, s) hp
    have hf := h.fits
    simp only [Ab.used] at hf this ⊢
    omega
/-- A file's slice and how much of it is synced set anew. -/
theorem RIs.set_both (h : RIs w base B vs a) {w1 : World} (hk : Kept Kno w w1) {i s : Nat} {p : List UInt8 × Nat} (hp : a.fs[i]? = some p) (v : Value) (l : List UInt8) (ho : OwnB w1 base 5 v l) (hs : s ≤ l.length)
    (hfit : (a.used : Int) + l.length - p.1.length ≤ a.room) : RIs ((w1.setCell ⟨B, 1 + i, none⟩ v).setCell ⟨B, 9 + i, none⟩ (.int .i64 s)) base B (vs.set i v) ⟨a.room, a.fs.set i (l, s), a.off, a.plan⟩ ∧ Kept (Kone B) w ((w1.setCell ⟨B, 1 + i, none⟩ v).setCell ⟨B, 9 + i, none⟩ (.int .i64 s)) := by
  have hl := h.vlen
  have hl2 := h.len
  have hi : i < 8 := by have := (List.getElem?_eq_some_iff.1 hp).1; omega
  have h1 := h.kept0 hk
  have hk2 : Kept (Kone B) w1 ((w1.setCell ⟨B, 1 + i, none⟩ v).setCell ⟨B, 9 + i, none⟩ (.int .i64 s)) := Kept.setIn (S := Kone B) (Kept.setIn (S := Kone B) (Kept.refl _ _) (p := ⟨B, 1 + i, none⟩) (Eq.refl _) _) (p := ⟨B, 9 + i, none⟩) (Eq.refl _) _
  refine ⟨⟨h.low, ?_, by rw [List.length_set]; exact hl, by simp only [List.length_set]; exact hl2, fun j u q hu hq => ?_, ?_, h.room0, h.room1, h.plan0, h.plan1⟩, (hk.mono (T := Kone B) (fun _ _ e => e.elim)).trans hk2 (fun _ _ e => e)⟩
  · have h2 := (h1.blk.set_ (1 + i) v).set_ (9 + i) (.int .i64 s)
    have e : (rCells a.room vs (a.fs.map (·.2)) a.plan a.off).toArray.setIfInBounds (1 + i) v = (rCells a.room (vs.set i v) (a.fs.map (·.2)) a.plan a.off).toArray := by
      rw [List.setIfInBounds_toArray, show 1 + i = i + 1 from by omega]
      congr 1
      simp only [rCells, List.set_cons_succ]
      rw [List.set_append_left _ _ (by omega)]
    rw [e, set_sync_cells _ _ _ _ _ i s l (by rw [List.length_set]; exact hl) (by omega) hl2] at h2
    exact h2
  · rw [List.getElem?_set] at hu
    simp only at hq
    rw [List.getElem?_set] at hq
    by_cases hj : i = j
    · subst hj
      rw [if_pos rfl, if_pos (by omega)] at hu hq
      cases hu
      cases hq
      exact ⟨own_kept ho hk2 (fun k hk' e => by unfold Kone at e; subst e; exact own_blk_ne ho h1.blk (by decide) hk'), hs⟩
    · rw [if_neg hj] at hu hq
      have h9 := h1.files j u q hu hq
      exact ⟨own_kept h9.1 hk2 (fun k hk' e => by unfold Kone at e; subst e; exact h1.own_B (List.mem_of_getElem? hu) hk'), h9.2⟩
  · have := sum_set_le a.fs i p (l, s) hp
    simp only [Ab.used] at hfit this ⊢
    omega

/-- The power fails at a change that leaves nothing. -/
theorem rclose_off {wf : World} (hoff : a.off = false) (hp0 : 0 ≤ a.plan) (hR : RIs wf base B vs (failsTo a)) (hK : Kept (Kone B) w wf) (h1 : a.plan = 1) (i : Nat) (f : List UInt8 × Nat) :
    RRet base B vs (gateOf a false i f) w (.returned (.int .i64 220)) wf := by
  rw [gate_false a hoff hp0, if_pos h1]
  exact ⟨rfl, ⟨vs, hR, VsFrom.refl _ _⟩, hK⟩
theorem rclose_sync {wf w2 : World} {i : Nat} (hoff : a.off = false) (hp0 : 0 ≤ a.plan) (hR : RIs wf base B vs (failsTo a)) (hK : Kept (Kone B) w wf) {p : List UInt8 × Nat} (hp : a.fs[i]? = some p) (hk : Kept Kno wf w2) (h1 : a.plan ≠ 1) :
    RRet base B vs (gateOf a false i (p.1, p.1.length)) w (.returned (.int .i64 0)) (w2.setCell ⟨B, 9 + i, none⟩ (.int .i64 p.1.length)) := by
  obtain ⟨f1, f2, f3⟩ := fails_fs a
  rw [gate_false a hoff hp0, if_neg h1]
  have hp' : (failsTo a).fs[i]? = some p := by rw [f1]; exact hp
  have := hR.set_sync hk hp' (s := p.1.length) (Nat.le_refl _)
  exact ⟨rfl, ⟨vs, this.1, VsFrom.refl _ _⟩, hK.trans this.2 (fun _ _ e => e)⟩
theorem rclose_both {wf w2 : World} {i s n : Nat} {A1 : Option Addr} {cap1 : Nat} (hoff : a.off = false) (hp0 : 0 ≤ a.plan) (hR : RIs wf base B vs (failsTo a)) (hK : Kept (Kone B) w wf) {p : List UInt8 × Nat} (hp : a.fs[i]? = some p) (hk : Kept Kno wf w2) (h1 : a.plan ≠ 1) (l : List UInt8) (hn : n = l.length)
    (ho : w2.ownsRow wf.heap.size 5 1 (.slice A1 n cap1) n (l.map bv)) (hs : s ≤ l.length) (hfit : (a.used : Int) + l.length - p.1.length ≤ a.room) :
    RRet base B vs (gateOf a false i (l, s)) w (.returned (.int .i64 0)) ((w2.setCell ⟨B, 1 + i, none⟩ (.slice A1 n cap1)).setCell ⟨B, 9 + i, none⟩ (.int .i64 s)) := by
  subst hn
  obtain ⟨f1, f2, f3⟩ := fails_fs a
  rw [gate_false a hoff hp0, if_neg h1]
  have hp' : (failsTo a).fs[i]? = some p := by rw [f1]; exact hp
  have := hR.set_both hk hp' (.slice A1 l.length cap1) l (own_rebase ho (fun k e => Nat.le_trans hR.base_le (own_base ho e).1)) hs (by rw [f3, f2]; exact hfit)
  exact ⟨rfl, ⟨_, this.1, (VsFrom.set _ _ _ (fun k e => (own_base ho e).1)).low hK.size⟩, hK.trans this.2 (fun _ _ e => e)⟩
end

set_option maxHeartbeats 800000 in
theorem rsync_no (i c : Int) {w : World} {base B : Nat} {vs : List Value} {a : Ab} (h : RIs w base B vs a) (hc : checkOf a.off i = c) (hc0 : c ≠ 0) :
    Calls Try.prog 57 #[.pointer (some ⟨B, 0, none⟩), .int .i64 i] w fun e w' => e = .returned (.int .i64 c) ∧ w = w' := by
  have HD := Lib.hid h
  have HC := Lib.hid hc
  clear h hc
  go_enter Try.func57, Try.ntmps57
  go_wp2_with fail
  refine (rbegin_any i HD.out).mono ?_
  rintro e w1 ⟨rfl, rfl⟩
  rw [HC.out]
  go_wp2
  go_ret
  exact ⟨rfl, rfl⟩

set_option maxHeartbeats 800000 in
theorem rread_no (i c : Int) {w : World} {base B : Nat} {vs : List Value} {a : Ab} (h : RIs w base B vs a) (hc : checkOf a.off i = c) (hc0 : c ≠ 0) :
    Calls Try.prog 20 #[.pointer (some ⟨B, 0, none⟩), .int .i64 i] w fun e w' => e = .returned (.tuple #[.slice none 0 0, .int .i64 c]) ∧ w = w' := by
  have HD := Lib.hid h
  have HC := Lib.hid hc
  clear h hc
  go_enter Try.func20, Try.ntmps20
  go_wp2_with fail
  refine (rbegin_any i HD.out).mono ?_
  rintro e w1 ⟨rfl, rfl⟩
  rw [HC.out]
  go_wp2
  go_ret2
  exact ⟨rfl, rfl⟩

set_option maxHeartbeats 800000 in
theorem rsize_no (i c : Int) {w : World} {base B : Nat} {vs : List Value} {a : Ab} (h : RIs w base B vs a) (hc : checkOf a.off i = c) (hc0 : c ≠ 0) :
    Calls Try.prog 22 #[.pointer (some ⟨B, 0, none⟩), .int .i64 i] w fun e w' => e = .returned (.tuple #[.int .i64 0, .int .i64 c]) ∧ w = w' := by
  have HD := Lib.hid h
  have HC := Lib.hid hc
  clear h hc
  go_enter Try.func22, Try.ntmps22
  go_wp2_with fail
  refine (rbegin_any i HD.out).mono ?_
  rintro e w1 ⟨rfl, rfl⟩
  rw [HC.out]
  go_wp2
  go_ret2
  exact ⟨rfl, rfl⟩

set_option maxHeartbeats 800000 in
theorem rreplace_no (i c : Int) (A : Option Addr) (n cap : Nat) {w : World} {base B : Nat} {vs : List Value} {a : Ab} (h : RIs w base B vs a) (hc : checkOf a.off i = c) (hc0 : c ≠ 0) :
    Calls Try.prog 35 #[.pointer (some ⟨B, 0, none⟩), .int .i64 i, .slice A n cap] w fun e w' => e = .returned (.int .i64 c) ∧ w = w' := by
  have HD := Lib.hid h
  have HC := Lib.hid hc
  clear h hc
  go_enter Try.func35, Try.ntmps35
  go_wp2_with fail
  refine (rbegin_any i HD.out).mono ?_
  rintro e w1 ⟨rfl, rfl⟩
  rw [HC.out]
  go_wp2
  go_ret
  exact ⟨rfl, rfl⟩

set_option maxHeartbeats 800000 in
theorem rtrunc_no (i c : Int) (n : Int) {w : World} {base B : Nat} {vs : List Value} {a : Ab} (h : RIs w base B vs a) (hc : checkOf a.off i = c) (hc0 : c ≠ 0) :
    Calls Try.prog 56 #[.pointer (some ⟨B, 0, none⟩), .int .i64 i, .int .i64 n] w fun e w' => e = .returned (.int .i64 c) ∧ w = w' := by
  have HD := Lib.hid h
  have HC := Lib.hid hc
  clear h hc
  go_enter Try.func56, Try.ntmps56
  go_wp2_with fail
  refine (rbegin_any i HD.out).mono ?_
  rintro e w1 ⟨rfl, rfl⟩
  rw [HC.out]
  go_wp2
  go_ret
  exact ⟨rfl, rfl⟩

set_option maxHeartbeats 1600000 in
theorem rsync_yes (i : Nat) {w : World} {base B : Nat} {vs : List Value} {a : Ab} (h : RIs w base B vs a) (hoff : a.off = false) (hi : i < 8) {v : Value} {p : List UInt8 × Nat} (hv : vs[i]? = some v) (hp : a.fs[i]? = some p) :
    Calls Try.prog 57 #[.pointer (some ⟨B, 0, none⟩), .int .i64 i] w (RRet base B vs (gateOf a false i (p.1, p.1.length)) w) := by
  have HD := Lib.hid h
  have HC := Lib.hid (checkOf_ok hi)
  have HO := Lib.hid hoff
  have HP := Lib.hid hp
  have HV := Lib.hid hv
  have HPL : Hid (0 ≤ a.plan) := Lib.hid h.plan0
  have HF := Lib.hid (rfails_any h hoff)
  have hi1 : (i : Int) < 8 := by omega
  clear h hoff hp hv
  by_cases hfl : a.plan = 1
  · have HFL := Lib.hid hfl
    have e1 : decide (a.plan = 1) = true := by simp [hfl]
    rw [e1] at HF
    clear e1 hfl
    go_enter Try.func57, Try.ntmps57
    go_wp2_with fail
    refine (rbegin_any i HD.out).mono ?_
    rintro e w1 ⟨rfl, rfl⟩
    rw [HO.out, HC.out]
    go_wp2_with fail
    refine HF.out.mono ?_
    rintro e wf ⟨rfl, hR, hK⟩
    have HR := Lib.hid hR
    have HK := Lib.hid hK
    clear hR hK
    go_wp2
    go_ret
    exact rclose_off HO.out HPL.out HR.out HK.out HFL.out _ _
  · have HFL := Lib.hid hfl
    have e1 : decide (a.plan = 1) = false := by simp [hfl]
    rw [e1] at HF
    clear e1 hfl
    go_enter Try.func57, Try.ntmps57
    go_wp2_with fail
    refine (rbegin_any i HD.out).mono ?_
    rintro e w1 ⟨rfl, rfl⟩
    rw [HO.out, HC.out]
    go_wp2_with fail
    refine HF.out.mono ?_
    rintro e wf ⟨rfl, hR, hK⟩
    have HP2 : Hid ((failsTo a).fs[i]? = some p) := Lib.hid (by rw [(fails_fs a).1]; exact HP.out)
    have cf := hR.c_file HV.out
    have cs := hR.c_sync HP2.out
    have fs := hR.blk.frozen (9 + i)
    obtain ⟨Af, capf, hvf⟩ := own_form (hR.files i v p HV.out HP2.out).1
    rw [hvf] at cf
    have HR := Lib.hid hR
    have HK := Lib.hid hK
    clear hR hK hvf
    go_wp2_with fail
    go_region_law (fail)
    all_goals
      go_wp2
      go_ret
      exact rclose_sync HO.out HPL.out HR.out HK.out HP.out (Kept.drewN (Kept.refl _ wf) _) HFL.out

theorem rsync_any (i : Int) {w : World} {base B : Nat} {vs : List Value} {a : Ab} (h : RIs w base B vs a) :
    Calls Try.prog 57 #[.pointer (some ⟨B, 0, none⟩), .int .i64 i] w (RRet base B vs (a.sync i) w) := by
  unfold Ab.sync
  by_cases hc : checkOf a.off i ≠ 0
  · rw [if_pos hc]
    exact (rsync_no i _ h rfl hc).mono fun e w' ⟨x, y⟩ => ⟨x, y ▸ h.turn0 (Kept.refl _ _)⟩
  · rw [if_neg hc]
    obtain ⟨h1, h2, h3⟩ := check_range hc
    obtain ⟨n, rfl⟩ : ∃ n : Nat, i = n := ⟨i.toNat, by omega⟩
    obtain ⟨v, p, hv, hp, haf⟩ := h.file (i := n) (by omega)
    rw [Int.toNat_natCast, haf]
    exact rsync_yes n h h1 (by omega) hv hp

set_option maxHeartbeats 1600000 in
theorem rsize_yes (i : Nat) {w : World} {base B : Nat} {vs : List Value} {a : Ab} (h : RIs w base B vs a) (hoff : a.off = false) (hi : i < 8) {v : Value} {p : List UInt8 × Nat} (hv : vs[i]? = some v) (hp : a.fs[i]? = some p) :
    Calls Try.prog 22 #[.pointer (some ⟨B, 0, none⟩), .int .i64 i] w fun e w' => e = .returned (.tuple #[.int .i64 p.1.length, .int .i64 0]) ∧ w = w' := by
  have HD := Lib.hid h
  have HC := Lib.hid (checkOf_ok hi)
  have HO := Lib.hid hoff
  have hi1 : (i : Int) < 8 := by omega
  have cf := h.c_file hv
  obtain ⟨Af, capf, hvf⟩ := own_form (h.files i v p hv hp).1
  rw [hvf] at cf
  clear h hoff hp hv hvf
  go_enter Try.func22, Try.ntmps22
  go_wp2_with fail
  refine (rbegin_any i HD.out).mono ?_
  rintro e w1 ⟨rfl, rfl⟩
  rw [HO.out, HC.out]
  go_wp2
  go_ret2
  exact ⟨rfl, rfl⟩

theorem rsize_any (i : Int) {w : World} {base B : Nat} {vs : List Value} {a : Ab} (h : RIs w base B vs a) :
    Calls Try.prog 22 #[.pointer (some ⟨B, 0, none⟩), .int .i64 i] w fun e w' => e = .returned (.tuple #[.int .i64 ((a.read i).1.length : Nat), .int .i64 (a.read i).2]) ∧ w = w' := by
  unfold Ab.read
  by_cases hc : checkOf a.off i ≠ 0
  · rw [if_pos hc]
    exact rsize_no i _ h rfl hc
  · rw [if_neg hc]
    obtain ⟨h1, h2, h3⟩ := check_range hc
    obtain ⟨n, rfl⟩ : ∃ n : Nat, i = n := ⟨i.toNat, by omega⟩
    obtain ⟨v, p, hv, hp, haf⟩ := h.file (i := n) (by omega)
    rw [Int.toNat_natCast, haf]
    exact rsize_yes n h h1 (by omega) hv hp

end Go.Proofs.Yteoodgcpkgfomaa
