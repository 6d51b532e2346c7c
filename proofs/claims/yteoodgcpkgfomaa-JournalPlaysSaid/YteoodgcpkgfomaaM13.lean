/-
  Contracts and plain laws that the claim's theorem rests on, some texts in one file.
-/
import Derived.Test.YteoodgcpkgfomaaM12
import Derived.Deep.RegionLaw
/-
  The reference's disk: Sync, Read, Size, Replace, Truncate.
-/
namespace Go.Proofs.Yteoodgcpkgfomaa
open Go.RowKit
set_option linter.unusedVariables false

section
variable {w w' : World} {base B : Nat} {vs : List Value} {a : Ab}
theorem set_sync_cells (room plan : Int) (down : Bool) (vs : List Value) (fs : List (List UInt8 × Nat)) (i s : Nat) (l : List UInt8) (hl : vs.length = 8) (hi : i < fs.length) (h8 : fs.length = 8) :
    (rCells room vs (fs.map (·.2)) plan down).toArray.setIfInBounds (9 + i) (.int .i64 s) = (rCells room vs ((fs.set i (l, s)).map (·.2)) plan down).toArray := by
  rw [List.setIfInBounds_toArray, show 9 + i = (8 + i) + 1 from by omega]
  congr 1
  simp only [rCells, List.set_cons_succ]
  rw [List.set_append_right _ _ (by omega), hl, show 8 + i - 8 = i by omega, List.set_append_left _ _ (by simp; omega), List.map_map, List.map_map]
  congr 3
  rw [List.map_set]
  rfl
/-- How much of a file is synced set anew. -/
theorem RIs.set_sync (h : RIs w base B vs a) {w1 : World} (hk : Kept Kno w w1) {i s : Nat} {p : List UInt8 × Nat} (hp : a.fs[i]? = some p) (hs : s ≤ p.1.length) :
    RIs (w1.setCell ⟨B, 9 + i, none⟩ (.int .i64 s)) base B vs ⟨a.room, a.fs.set i (p.1, s), a.off, a.plan⟩ ∧ Kept (Kone B) w (w1.setCell ⟨B, 9 + i, none⟩ (.int .i64 s)) := by
  have hl := h.vlen
  have hl2 := h.len
  have hi : i < 8 := by have := (List.getElem?_eq_some_iff.1 hp).1; omega
  have h1 := h.kept0 hk
  have hk2 : Kept (Kone B) w1 (w1.setCell ⟨B, 9 + i, none⟩ (.int .i64 s)) := Kept.setIn (S := Kone B) (Kept.refl _ _) (p := ⟨B, 9 + i, none⟩) (Eq.refl _) _
  refine ⟨⟨h.low, ?_, hl, by simp only [List.length_set]; exact hl2, fun j u q hu hq => ?_, ?_, h.room0, h.room1, h.plan0, h.plan1⟩, (hk.mono (T := Kone B) (fun _ _ e => e.elim)).trans hk2 (fun _ _ e => e)⟩
  · have h2 := h1.blk.set_ (9 + i) (.int .i64 s)
    rw [set_sync_cells _ _ _ _ _ i s p.1 hl (by omega) hl2] at h2
    exact h2
  · simp only at hq
    rw [List.getElem?_set] at hq
    by_cases hj : i = j
    · subst hj
      rw [if_pos rfl, if_pos (by omega)] at hq
      cases hq
      have h9 := h1.files i u p hu hp
      exact ⟨own_kept h9.1 hk2 (fun k hk' e => by unfold Kone at e; subst e; exact h1.own_B (List.mem_of_getElem? hu) hk'), hs⟩
    · rw [if_neg hj] at hq
      have h9 := h1.files j u q hu hq
      exact ⟨own_kept h9.1 hk2 (fun k hk' e => by unfold Kone at e; subst e; exact h1.own_B (List.mem_of_getElem? hu) hk'), h9.2⟩
  · have := sum_set_le a.fs i p (p.1, s) hp
    have hf := h.fits
    simp only [Ab.used] at hf this ⊢
    omega
/-- A file's slice and how much of it is synced set anew. -/
theorem RIs.set_both (h : RIs w base B vs a) {w1 : World} (hk : Kept Kno w w1) {i s : Nat} {p : List UInt8 × Nat} (hp : a.fs[i]? = some p) (v : Value) (l : List UInt8) (ho : OwnB w1 base 5 v l) (hs : s ≤ l.length)
    (hfit : (a.used : Int) + l.length - p.1.length ≤ a.room) : RIs ((w1.setCell ⟨B, 1 + i, none⟩ v).setCell ⟨B, 9 + i, none⟩ (.int .i64 s)) base B (vs.set i v) ⟨a.room, a.fs.set i (l, s), a.off, a.plan⟩ ∧ Kept (Kone B) w ((w1.setCell ⟨B, 1 + i, none⟩ v).setCell ⟨B, 9 + i, none⟩ (.int .i64 s)) := by
  have hl := h.vlen
  have hl2 := h.len
  have hi : i < 8 := by have := (List.getElem?_eq_some_iff.1 hp).1; omega
  have h1 := h.kept0 hk
  have hk2 : Kept (Kone B) w1 ((w1.setCell ⟨B, 1 + i, none⟩ v).setCell ⟨B, 9 + i, none⟩ (.int .i64 s)) := Kept.setIn (S := Kone B) (Kept.setIn (S := Kone B) (Kept.refl _ _) (p := ⟨B, 1 + i, none⟩) (Eq.refl _) _) (p := ⟨B, 9 + i, none⟩) (Eq.refl _) _
  refine ⟨⟨h.low, ?_, by rw [List.length_set]; exact hl, by simp only [List.length_set]; exact hl2, fun j u q hu hq => ?_, ?_, h.room0, h.room1, h.plan0, h.plan1⟩, (hk.mono (T := Kone B) (fun _ _ e => e.elim)).trans hk2 (fun _ _ e => e)⟩
  · have h2 := (h1.blk.set_ (1 + i) v).set_ (9 + i) (.int .i64 s)
    have e : (rCells a.room vs (a.fs.map (·.2)) a.plan a.off).toArray.setIfInBounds (1 + i) v = (rCells a.room (vs.set i v) (a.fs.map (·.2)) a.plan a.off).toArray := by
      rw [List.setIfInBounds_toArray, show 1 + i = i + 1 from by omega]
      congr 1
      simp only [rCells, List.set_cons_succ]
      rw [List.set_append_left _ _ (by omega)]
    rw [e, set_sync_cells _ _ _ _ _ i s l (by rw [List.length_set]; exact hl) (by omega) hl2] at h2
    exact h2
  · rw [List.getElem?_set] at hu
    simp only at hq
    rw [List.getElem?_set] at hq
    by_cases hj : i = j
    · subst hj
      rw [if_pos rfl, if_pos (by omega)] at hu hq
      cases hu
      cases hq
      exact ⟨own_kept ho hk2 (fun k hk' e => by unfold Kone at e; subst e; exact own_blk_ne ho h1.blk (by decide) hk'), hs⟩
    · rw [if_neg hj] at hu hq
      have h9 := h1.files j u q hu hq
      exact ⟨own_kept h9.1 hk2 (fun k hk' e => by unfold Kone at e; subst e; exact h1.own_B (List.mem_of_getElem? hu) hk'), h9.2⟩
  · have := sum_set_le a.fs i p (l, s) hp
    simp only [Ab.used] at hfit this ⊢
    omega

/-- The power fails at a change that leaves nothing. -/
theorem rclose_off {wf : World} (hoff : a.off = false) (hp0 : 0 ≤ a.plan) (hR : RIs wf base B vs (failsTo a)) (hK : Kept (Kone B) w wf) (h1 : a.plan = 1) (i : Nat) (f : List UInt8 × Nat) :
    RRet base B vs (gateOf a false i f) w (.returned (.int .i64 220)) wf := by
  rw [gate_false a hoff hp0, if_pos h1]
  exact ⟨rfl, ⟨vs, hR, VsFrom.refl _ _⟩, hK⟩
theorem rclose_sync {wf w2 : World} {i : Nat} (hoff : a.off = false) (hp0 : 0 ≤ a.plan) (hR : RIs wf base B vs (failsTo a)) (hK : Kept (Kone B) w wf) {p : List UInt8 × Nat} (hp : a.fs[i]? = some p) (hk : Kept Kno wf w2) (h1 : a.plan ≠ 1) :
    RRet base B vs (gateOf a false i (p.1, p.1.length)) w (.returned (.int .i64 0)) (w2.setCell ⟨B, 9 + i, none⟩ (.int .i64 p.1.length)) := by
  obtain ⟨f1, f2, f3⟩ := fails_fs a
  rw [gate_false a hoff hp0, if_neg h1]
  have hp' : (failsTo a).fs[i]? = some p := by rw [f1]; exact hp
  have := hR.set_sync hk hp' (s := p.1.length) (Nat.le_refl _)
  exact ⟨rfl, ⟨vs, this.1, VsFrom.refl _ _⟩, hK.trans this.2 (fun _ _ e => e)⟩
theorem rclose_both {wf w2 : World} {i s n : Nat} {A1 : Option Addr} {cap1 : Nat} (hoff : a.off = false) (hp0 : 0 ≤ a.plan) (hR : RIs wf base B vs (failsTo a)) (hK : Kept (Kone B) w wf) {p : List UInt8 × Nat} (hp : a.fs[i]? = some p) (hk : Kept Kno wf w2) (h1 : a.plan ≠ 1) (l : List UInt8) (hn : n = l.length)
    (ho : w2.ownsRow wf.heap.size 5 1 (.slice A1 n cap1) n (l.map bv)) (hs : s ≤ l.length) (hfit : (a.used : Int) + l.length - p.1.length ≤ a.room) :
    RRet base B vs (gateOf a false i (l, s)) w (.returned (.int .i64 0)) ((w2.setCell ⟨B, 1 + i, none⟩ (.slice A1 n cap1)).setCell ⟨B, 9 + i, none⟩ (.int .i64 s)) := by
  subst hn
  obtain ⟨f1, f2, f3⟩ := fails_fs a
  rw [gate_false a hoff hp0, if_neg h1]
  have hp' : (failsTo a).fs[i]? = some p := by rw [f1]; exact hp
  have := hR.set_both hk hp' (.slice A1 l.length cap1) l (own_rebase ho (fun k e => Nat.le_trans hR.base_le (own_base ho e).1)) hs (by rw [f3, f2]; exact hfit)
  exact ⟨rfl, ⟨_, this.1, (VsFrom.set _ _ _ (fun k e => (own_base ho e).1)).low hK.size⟩, hK.trans this.2 (fun _ _ e => e)⟩
end

set_option maxHeartbeats 800000 in
theorem rsync_no (i c : Int) {w : World} {base B : Nat} {vs : List Value} {a : Ab} (h : RIs w base B vs a) (hc : checkOf a.off i = c) (hc0 : c ≠ 0) :
    Calls Try.prog 57 #[.pointer (some ⟨B, 0, none⟩), .int .i64 i] w fun e w' => e = .returned (.int .i64 c) ∧ w = w' := by
  have HD := Lib.hid h
  have HC := Lib.hid hc
  clear h hc
  go_enter Try.func57, Try.ntmps57
  go_wp2_with fail
  refine (rbegin_any i HD.out).mono ?_
  rintro e w1 ⟨rfl, rfl⟩
  rw [HC.out]
  go_wp2
  go_ret
  exact ⟨rfl, rfl⟩

set_option maxHeartbeats 800000 in
theorem rread_no (i c : Int) {w : World} {base B : Nat} {vs : List Value} {a : Ab} (h : RIs w base B vs a) (hc : checkOf a.off i = c) (hc0 : c ≠ 0) :
    Calls Try.prog 20 #[.pointer (some ⟨B, 0, none⟩), .int .i64 i] w fun e w' => e = .returned (.tuple #[.slice none 0 0, .int .i64 c]) ∧ w = w' := by
  have HD := Lib.hid h
  have HC := Lib.hid hc
  clear h hc
  go_enter Try.func20, Try.ntmps20
  go_wp2_with fail
  refine (rbegin_any i HD.out).mono ?_
  rintro e w1 ⟨rfl, rfl⟩
  rw [HC.out]
  go_wp2
  go_ret2
  exact ⟨rfl, rfl⟩

set_option maxHeartbeats 800000 in
theorem rsize_no (i c : Int) {w : World} {base B : Nat} {vs : List Value} {a : Ab} (h : RIs w base B vs a) (hc : checkOf a.off i = c) (hc0 : c ≠ 0) :
    Calls Try.prog 22 #[.pointer (some ⟨B, 0, none⟩), .int .i64 i] w fun e w' => e = .returned (.tuple #[.int .i64 0, .int .i64 c]) ∧ w = w' := by
  have HD := Lib.hid h
  have HC := Lib.hid hc
  clear h hc
  go_enter Try.func22, Try.ntmps22
  go_wp2_with fail
  refine (rbegin_any i HD.out).mono ?_
  rintro e w1 ⟨rfl, rfl⟩
  rw [HC.out]
  go_wp2
  go_ret2
  exact ⟨rfl, rfl⟩

set_option maxHeartbeats 800000 in
theorem rreplace_no (i c : Int) (A : Option Addr) (n cap : Nat) {w : World} {base B : Nat} {vs : List Value} {a : Ab} (h : RIs w base B vs a) (hc : checkOf a.off i = c) (hc0 : c ≠ 0) :
    Calls Try.prog 35 #[.pointer (some ⟨B, 0, none⟩), .int .i64 i, .slice A n cap] w fun e w' => e = .returned (.int .i64 c) ∧ w = w' := by
  have HD := Lib.hid h
  have HC := Lib.hid hc
  clear h hc
  go_enter Try.func35, Try.ntmps35
  go_wp2_with fail
  refine (rbegin_any i HD.out).mono ?_
  rintro e w1 ⟨rfl, rfl⟩
  rw [HC.out]
  go_wp2
  go_ret
  exact ⟨rfl, rfl⟩

set_option maxHeartbeats 800000 in
theorem rtrunc_no (i c : Int) (n : Int) {w : World} {base B : Nat} {vs : List Value} {a : Ab} (h : RIs w base B vs a) (hc : checkOf a.off i = c) (hc0 : c ≠ 0) :
    Calls Try.prog 56 #[.pointer (some ⟨B, 0, none⟩), .int .i64 i, .int .i64 n] w fun e w' => e = .returned (.int .i64 c) ∧ w = w' := by
  have HD := Lib.hid h
  have HC := Lib.hid hc
  clear h hc
  go_enter Try.func56, Try.ntmps56
  go_wp2_with fail
  refine (rbegin_any i HD.out).mono ?_
  rintro e w1 ⟨rfl, rfl⟩
  rw [HC.out]
  go_wp2
  go_ret
  exact ⟨rfl, rfl⟩

set_option maxHeartbeats 1600000 in
theorem rsync_yes (i : Nat) {w : World} {base B : Nat} {vs : List Value} {a : Ab} (h : RIs w base B vs a) (hoff : a.off = false) (hi : i < 8) {v : Value} {p : List UInt8 × Nat} (hv : vs[i]? = some v) (hp : a.fs[i]? = some p) :
    Calls Try.prog 57 #[.pointer (some ⟨B, 0, none⟩), .int .i64 i] w (RRet base B vs (gateOf a false i (p.1, p.1.length)) w) := by
  have HD := Lib.hid h
  have HC := Lib.hid (checkOf_ok hi)
  have HO := Lib.hid hoff
  have HP := Lib.hid hp
  have HV := Lib.hid hv
  have HPL : Hid (0 ≤ a.plan) := Lib.hid h.plan0
  have HF := Lib.hid (rfails_any h hoff)
  have hi1 : (i : Int) < 8 := by omega
  clear h hoff hp hv
  by_cases hfl : a.plan = 1
  · have HFL := Lib.hid hfl
    have e1 : decide (a.plan = 1) = true := by simp [hfl]
    rw [e1] at HF
    clear e1 hfl
    go_enter Try.func57, Try.ntmps57
    go_wp2_with fail
    refine (rbegin_any i HD.out).mono ?_
    rintro e w1 ⟨rfl, rfl⟩
    rw [HO.out, HC.out]
    go_wp2_with fail
    refine HF.out.mono ?_
    rintro e wf ⟨rfl, hR, hK⟩
    have HR := Lib.hid hR
    have HK := Lib.hid hK
    clear hR hK
    go_wp2
    go_ret
    exact rclose_off HO.out HPL.out HR.out HK.out HFL.out _ _
  · have HFL := Lib.hid hfl
    have e1 : decide (a.plan = 1) = false := by simp [hfl]
    rw [e1] at HF
    clear e1 hfl
    go_enter Try.func57, Try.ntmps57
    go_wp2_with fail
    refine (rbegin_any i HD.out).mono ?_
    rintro e w1 ⟨rfl, rfl⟩
    rw [HO.out, HC.out]
    go_wp2_with fail
    refine HF.out.mono ?_
    rintro e wf ⟨rfl, hR, hK⟩
    have HP2 : Hid ((failsTo a).fs[i]? = some p) := Lib.hid (by rw [(fails_fs a).1]; exact HP.out)
    have cf := hR.c_file HV.out
    have cs := hR.c_sync HP2.out
    have fs := hR.blk.frozen (9 + i)
    obtain ⟨Af, capf, hvf⟩ := own_form (hR.files i v p HV.out HP2.out).1
    rw [hvf] at cf
    have HR := Lib.hid hR
    have HK := Lib.hid hK
    clear hR hK hvf
    go_wp2_with fail
    go_region_law (fail)
    all_goals
      go_wp2
      go_ret
      exact rclose_sync HO.out HPL.out HR.out HK.out HP.out (Kept.drewN (Kept.refl _ wf) _) HFL.out

theorem rsync_any (i : Int) {w : World} {base B : Nat} {vs : List Value} {a : Ab} (h : RIs w base B vs a) :
    Calls Try.prog 57 #[.pointer (some ⟨B, 0, none⟩), .int .i64 i] w (RRet base B vs (a.sync i) w) := by
  unfold Ab.sync
  by_cases hc : checkOf a.off i ≠ 0
  · rw [if_pos hc]
    exact (rsync_no i _ h rfl hc).mono fun e w' ⟨x, y⟩ => ⟨x, y ▸ h.turn0 (Kept.refl _ _)⟩
  · rw [if_neg hc]
    obtain ⟨h1, h2, h3⟩ := check_range hc
    obtain ⟨n, rfl⟩ : ∃ n : Nat, i = n := ⟨i.toNat, by omega⟩
    obtain ⟨v, p, hv, hp, haf⟩ := h.file (i := n) (by omega)
    rw [Int.toNat_natCast, haf]
    exact rsync_yes n h h1 (by omega) hv hp

set_option maxHeartbeats 1600000 in
theorem rsize_yes (i : Nat) {w : World} {base B : Nat} {vs : List Value} {a : Ab} (h : RIs w base B vs a) (hoff : a.off = false) (hi : i < 8) {v : Value} {p : List UInt8 × Nat} (hv : vs[i]? = some v) (hp : a.fs[i]? = some p) :
    Calls Try.prog 22 #[.pointer (some ⟨B, 0, none⟩), .int .i64 i] w fun e w' => e = .returned (.tuple #[.int .i64 p.1.length, .int .i64 0]) ∧ w = w' := by
  have HD := Lib.hid h
  have HC := Lib.hid (checkOf_ok hi)
  have HO := Lib.hid hoff
  have hi1 : (i : Int) < 8 := by omega
  have cf := h.c_file hv
  obtain ⟨Af, capf, hvf⟩ := own_form (h.files i v p hv hp).1
  rw [hvf] at cf
  clear h hoff hp hv hvf
  go_enter Try.func22, Try.ntmps22
  go_wp2_with fail
  refine (rbegin_any i HD.out).mono ?_
  rintro e w1 ⟨rfl, rfl⟩
  rw [HO.out, HC.out]
  go_wp2
  go_ret2
  exact ⟨rfl, rfl⟩

theorem rsize_any (i : Int) {w : World} {base B : Nat} {vs : List Value} {a : Ab} (h : RIs w base B vs a) :
    Calls Try.prog 22 #[.pointer (some ⟨B, 0, none⟩), .int .i64 i] w fun e w' => e = .returned (.tuple #[.int .i64 ((a.read i).1.length : Nat), .int .i64 (a.read i).2]) ∧ w = w' := by
  unfold Ab.read
  by_cases hc : checkOf a.off i ≠ 0
  · rw [if_pos hc]
    exact rsize_no i _ h rfl hc
  · rw [if_neg hc]
    obtain ⟨h1, h2, h3⟩ := check_range hc
    obtain ⟨n, rfl⟩ : ∃ n : Nat, i = n := ⟨i.toNat, by omega⟩
    obtain ⟨v, p, hv, hp, haf⟩ := h.file (i := n) (by omega)
    rw [Int.toNat_natCast, haf]
    exact rsize_yes n h h1 (by omega) hv hp

end Go.Proofs.Yteoodgcpkgfomaa
/-
  The reference's disk: Read, Replace, Truncate.
-/
namespace Go.Proofs.Yteoodgcpkgfomaa
open Go.RowKit
set_option linter.unusedVariables false

theorem cell_apart (w : World) (B i j : Nat) (u : Value) (h : i ≠ j) : (w.setCell ⟨B, i, none⟩ u).cell? ⟨B, j, none⟩ = w.cell? ⟨B, j, none⟩ :=
  World.cell?_setCell_other _ _ _ _ (fun e => h (by injection e))
theorem cell_same (w : World) (a : Addr) (v : Value) {u : Value} (h : w.cell? a = some u) : (w.setCell a v).cell? a = some v := World.cell?_setCell_same _ _ _ h

set_option maxRecDepth 100000 in
set_option maxHeartbeats 1600000 in
theorem rread_yes (i : Nat) {w : World} {base B : Nat} {vs : List Value} {a : Ab} (h : RIs w base B vs a) (hoff : a.off = false) (hi : i < 8) {v : Value} {p : List UInt8 × Nat} (hv : vs[i]? = some v) (hp : a.fs[i]? = some p) :
    Calls Try.prog 20 #[.pointer (some ⟨B, 0, none⟩), .int .i64 i] w (RetRead p.1 0 w) := by
  obtain ⟨j0, hj, hy0, hy1, hy2⟩ := info_parts info_byte
  have HD := Lib.hid h
  have HC := Lib.hid (checkOf_ok hi)
  have HO := Lib.hid hoff
  have hi1 : (i : Int) < 8 := by omega
  have lB := h.blk.lt
  have h1 := h.room1
  have h2 := h.fits
  have hle := used_file hp
  have hown := (h.files i v p hv hp).1
  have cf := h.c_file hv
  obtain ⟨Af, capf, hvf⟩ := own_form hown
  have HOB : Hid (Rd w 1 (.slice Af p.1.length capf) p.1.length (p.1.map bv)) := Lib.hid (by have := OwnB.bs hown; rw [hvf] at this; exact this)
  rw [hvf] at cf
  have M0 := Lib.hid (World.ownsRow_made (base := w.heap.size) (e := 5) (size := 1) w #[] 0 (Nat.le_refl _) (by decide) rfl)
  have m1 : 0 + p.1.length ≤ maxLen := by simp only [maxLen]; omega
  have m3 : (0 + p.1.length) * 1 ≤ 140737488355328 := by omega
  clear h hoff hp hv hvf hown hle h1 h2
  go_enter Try.func20, Try.ntmps20
  go_wp2_with fail
  refine (rbegin_any i HD.out).mono ?_
  rintro e w1 ⟨rfl, rfl⟩
  rw [HO.out, HC.out]
  go_wp2_with (at_builtin; go_must (refine wpList_append_rd _ rfl _ _ 30 rfl w.heap.size 5 j0 _ 1 1 Try.underlying30 hj hy0 hy1 hy2 rfl (by decide) (.slice (some ⟨w.heap.size, 0, none⟩) 0 0) 0 [] rfl M0.out _ p.1.length (p.1.map bv) rfl (Rd.alloc HOB.out _) (bvs_one p.1) m1 m3 (by simp) ?_); intro A1 cap1 wa hown1 hg1 hat1)
  go_ret2
  simp only [Nat.zero_add, List.nil_append] at hown1
  exact ⟨A1, cap1, rfl, hown1, (Kept.alloc (Kept.refl _ w) _).grown hg1 (fun k hk e => by cases e; exact absurd hk (Nat.lt_irrefl _))⟩

theorem rread_any (i : Int) {w : World} {base B : Nat} {vs : List Value} {a : Ab} (h : RIs w base B vs a) :
    Calls Try.prog 20 #[.pointer (some ⟨B, 0, none⟩), .int .i64 i] w (RetRead (a.read i).1 (a.read i).2 w) := by
  unfold Ab.read
  by_cases hc : checkOf a.off i ≠ 0
  · rw [if_pos hc]
    exact (rread_no i _ h rfl hc).mono fun e w' ⟨x, y⟩ => ⟨none, 0, x, World.ownsRow_nil _ _ _ _, y ▸ Kept.refl _ _⟩
  · rw [if_neg hc]
    obtain ⟨h1, h2, h3⟩ := check_range hc
    obtain ⟨n, rfl⟩ : ∃ n : Nat, i = n := ⟨i.toNat, by omega⟩
    obtain ⟨v, p, hv, hp, haf⟩ := h.file (i := n) (by omega)
    rw [Int.toNat_natCast, haf]
    exact rread_yes n h h1 (by omega) hv hp

set_option maxHeartbeats 800000 in
theorem rreplace_full (i : Nat) (A : Option Addr) (n cap : Nat) {w : World} {base B : Nat} {vs : List Value} {a : Ab} (h : RIs w base B vs a) (hoff : a.off = false) (hi : i < 8) {v : Value} {p : List UInt8 × Nat} (hv : vs[i]? = some v) (hp : a.fs[i]? = some p) (hn : a.room - ((a.used : Int) - p.1.length) < n) (hm : n ≤ 9223372036854775807 - 16777216) :
    Calls Try.prog 35 #[.pointer (some ⟨B, 0, none⟩), .int .i64 i, .slice A n cap] w fun e w' => e = .returned (.int .i64 221) ∧ Kept Kno w w' := by
  have HD := Lib.hid h
  have HC := Lib.hid (checkOf_ok hi)
  have HO := Lib.hid hoff
  have h0 := h.room0
  have h1 := h.room1
  have h2 := h.fits
  have c1 := h.c_room
  have hi1 : (i : Int) < 8 := by omega
  have hle := used_file hp
  have cf := h.c_file hv
  obtain ⟨Af, capf, hvf⟩ := own_form (h.files i v p hv hp).1
  rw [hvf] at cf
  have HU := Lib.hid (rused_quiet h)
  generalize a.room = room at h0 h1 h2 c1 hn
  generalize a.used = U at h2 hn HU hle
  generalize p.1.length = np at hle hn cf
  have hw : IntKind.i64.wrap ((U : Int) - (np : Int)) = (U : Int) - (np : Int) := IntWalk.i64_in _ (by omega)
  have hw2 : IntKind.i64.wrap ((U : Int) - (np : Int) + (n : Int)) = (U : Int) - (np : Int) + (n : Int) := IntWalk.i64_in _ (by omega)
  have hd : decide (room < (U : Int) - (np : Int) + (n : Int)) = true := by simp; omega
  clear h hoff hv hp hvf
  go_enter Try.func35, Try.ntmps35
  go_wp2_with fail
  refine (rbegin_any i HD.out).mono ?_
  rintro e w1 ⟨rfl, rfl⟩
  rw [HO.out, HC.out]
  go_wp2_with fail
  go_quiet ((go_at_call 18; exact Calls.quiet_of_same (HU.out _)))
  go_wp2
  go_ret
  exact ⟨rfl, (Kept.refl _ w).drewN _⟩

set_option maxRecDepth 100000 in
set_option maxHeartbeats 1600000 in
theorem rreplace_yes (i : Nat) (Ax : Option Addr) (lb : List UInt8) (capx : Nat) {w : World} {base B : Nat} {vs : List Value} {a : Ab} (h : RIs w base B vs a) (hoff : a.off = false) (hi : i < 8) {v : Value} {p : List UInt8 × Nat} (hv : vs[i]? = some v) (hp : a.fs[i]? = some p)
    (hfit : (a.used : Int) - p.1.length + lb.length ≤ a.room) (hb : Bs w (.slice Ax lb.length capx) lb) :
    Calls Try.prog 35 #[.pointer (some ⟨B, 0, none⟩), .int .i64 i, .slice Ax lb.length capx] w (RRet base B vs (gateOf a false i (lb, lb.length)) w) := by
  obtain ⟨j0, hj, hy0, hy1, hy2⟩ := info_parts info_byte
  have HD := Lib.hid h
  have HC := Lib.hid (checkOf_ok hi)
  have HO := Lib.hid hoff
  have HP := Lib.hid hp
  have HV := Lib.hid hv
  have HBS := Lib.hid (h.bs hb)
  have HFIT := Lib.hid hfit
  have HPL : Hid (0 ≤ a.plan) := Lib.hid h.plan0
  have HF := Lib.hid (fun (n : Nat) => rfails_any (h.kept0 (Kept.drewN (Kept.refl _ w) n)) hoff)
  have h0 := h.room0
  have h1 := h.room1
  have h2 := h.fits
  have c1 := h.c_room
  have hle := used_file hp
  have hi1 : (i : Int) < 8 := by omega
  have cf := h.c_file hv
  obtain ⟨Af, capf, hvf⟩ := own_form (h.files i v p hv hp).1
  rw [hvf] at cf
  have HU := Lib.hid (rused_quiet h)
  have hpl : lb.length ≤ 16777216 := by omega
  generalize a.room = room at h0 h1 h2 c1 hfit
  generalize a.used = U at h2 hfit HU hle
  generalize hnp : p.1.length = np at hle hfit cf
  have hw : IntKind.i64.wrap ((U : Int) - (np : Int)) = (U : Int) - (np : Int) := IntWalk.i64_in _ (by omega)
  have hw2 : IntKind.i64.wrap ((U : Int) - (np : Int) + (lb.length : Int)) = (U : Int) - (np : Int) + (lb.length : Int) := IntWalk.i64_in _ (by omega)
  have hd : decide (room < (U : Int) - (np : Int) + (lb.length : Int)) = false := by simp; omega
  clear h hoff hp hv hb hnp hvf
  by_cases hfl : a.plan = 1
  · have HFL := Lib.hid hfl
    have e1 : decide (a.plan = 1) = true := by simp [hfl]
    rw [e1] at HF
    clear e1 hfl
    go_enter Try.func35, Try.ntmps35
    go_wp2_with fail
    refine (rbegin_any i HD.out).mono ?_
    rintro e w1 ⟨rfl, rfl⟩
    rw [HO.out, HC.out]
    go_wp2_with fail
    go_quiet ((go_at_call 18; exact Calls.quiet_of_same (HU.out _)))
    clear hw hd hw2 h2 c1 hfit h0 h1
    go_wp2_with fail
    refine (HF.out _).mono ?_
    rintro e wf ⟨rfl, hR, hK⟩
    have HR := Lib.hid hR
    have HK : Hid (Kept (Kone B) w wf) := Lib.hid ((Kept.drewN (Kept.refl _ w) nq).trans hK (fun _ _ e => e))
    clear hR hK
    go_wp2
    go_ret
    exact rclose_off HO.out HPL.out HR.out HK.out HFL.out _ _
  · have HFL := Lib.hid hfl
    have e1 : decide (a.plan = 1) = false := by simp [hfl]
    rw [e1] at HF
    clear e1 hfl
    go_enter Try.func35, Try.ntmps35
    go_wp2_with fail
    refine (rbegin_any i HD.out).mono ?_
    rintro e w1 ⟨rfl, rfl⟩
    rw [HO.out, HC.out]
    go_wp2_with fail
    go_quiet ((go_at_call 18; exact Calls.quiet_of_same (HU.out _)))
    clear hw hd hw2 h2 c1 hfit h0 h1 cf
    go_wp2_with fail
    refine (HF.out _).mono ?_
    rintro e wf ⟨rfl, hR, hK⟩
    have hK0 : Kept (Kone B) w wf := (Kept.drewN (Kept.refl _ w) nq).trans hK (fun _ _ e => e)
    have HP2 : Hid ((failsTo a).fs[i]? = some p) := Lib.hid (by rw [(fails_fs a).1]; exact HP.out)
    have HX := Lib.hid (HBS.out wf hK0)
    have cf := hR.c_file HV.out
    have ff := hR.blk.frozen (1 + i)
    have cs := hR.c_sync HP2.out
    have fs := hR.blk.frozen (9 + i)
    have lB := hR.blk.lt
    have M0 := Lib.hid (World.ownsRow_made (base := wf.heap.size) (e := 5) (size := 1) wf #[] 0 (Nat.le_refl _) (by decide) rfl)
    have m1 : 0 + lb.length ≤ maxLen := by simp only [maxLen]; omega
    have HR := Lib.hid hR
    have HK0 := Lib.hid hK0
    clear hR hK hK0
    go_wp2_with fail
    go_region_law ((refine step_append_rd _ (by rfl) _ _ 30 (by rfl) wf.heap.size 5 j0 _ 1 1 Try.underlying30 hj hy0 hy1 hy2 rfl (by omega) (.slice (some ⟨wf.heap.size, 0, none⟩) 0 0) 0 [] (by rfl) M0.out _ lb.length (lb.map bv) (by rfl) (Rd.alloc HX.out _) (bvs_one lb) m1 (by omega) (by simp) ?_
                    intro A1 cap1 wa hown1 hg1 hat1
                    have hka : Kept Kno wf wa := (Kept.drew (Kept.alloc (Kept.refl _ wf) _)).grown hg1 (fun k hk e => by cases e; exact absurd hk (Nat.lt_irrefl _))
                    have q : wa.cell? ⟨B, 1 + i, none⟩ = some v := hka.cell_some cf (fun h => h)
                    have q' : wa.frozen? ⟨B, 1 + i, none⟩ = false := hka.frozen_no ff lB (fun h => h)
                    have r : wa.cell? ⟨B, 9 + i, none⟩ = some (.int .i64 p.2) := hka.cell_some cs (fun h => h)
                    have r' : wa.frozen? ⟨B, 9 + i, none⟩ = false := hka.frozen_no fs lB (fun h => h)
                    simp only [Nat.zero_add, List.nil_append] at hown1
                    rw [Nat.zero_add]))
    all_goals
      have r2 : (wa.setCell ⟨B, 1 + i, none⟩ (.slice A1 lb.length cap1)).cell? ⟨B, 9 + i, none⟩ = some (.int .i64 p.2) := (cell_apart _ B _ _ _ (by omega)).trans r
      go_wp2
      go_ret
      exact rclose_both HO.out HPL.out HR.out HK0.out HP.out hka HFL.out lb rfl hown1 (Nat.le_refl _) (by have := HFIT.out; omega)

theorem rreplace_any (i : Int) (v : Value) (lb : List UInt8) {w : World} {base B : Nat} {vs : List Value} {a : Ab} (h : RIs w base B vs a) (hb : Bs w v lb) (hm : lb.length ≤ 9223372036854775807 - 16777216) :
    Calls Try.prog 35 #[.pointer (some ⟨B, 0, none⟩), .int .i64 i, v] w (RRet base B vs (a.replace i lb) w) := by
  have hb0 := hb
  obtain ⟨A, cap, rfl, -⟩ := hb
  unfold Ab.replace
  by_cases hc : checkOf a.off i ≠ 0
  · rw [if_pos hc]
    exact (rreplace_no i _ A lb.length cap h rfl hc).mono fun e w' ⟨x, y⟩ => ⟨x, y ▸ h.turn0 (Kept.refl _ _)⟩
  · rw [if_neg hc]
    obtain ⟨h1, h2, h3⟩ := check_range hc
    obtain ⟨n, rfl⟩ : ∃ n : Nat, i = n := ⟨i.toNat, by omega⟩
    obtain ⟨v, p, hv, hp, haf⟩ := h.file (i := n) (by omega)
    rw [Int.toNat_natCast, haf]
    by_cases hn : a.room - ((a.used : Int) - p.1.length) < lb.length
    · rw [if_pos hn]
      exact (rreplace_full n A lb.length cap h h1 (by omega) hv hp hn hm).mono fun e w' ⟨x, y⟩ => ⟨x, h.turn0 y⟩
    · rw [if_neg hn]
      exact rreplace_yes n A lb cap h h1 (by omega) hv hp (by omega) hb0

set_option maxHeartbeats 800000 in
theorem rtrunc_bad (i : Nat) (n : Int) {w : World} {base B : Nat} {vs : List Value} {a : Ab} (h : RIs w base B vs a) (hoff : a.off = false) (hi : i < 8) {v : Value} {p : List UInt8 × Nat} (hv : vs[i]? = some v) (hp : a.fs[i]? = some p) (hn : n < 0 ∨ (p.1.length : Int) < n) :
    Calls Try.prog 56 #[.pointer (some ⟨B, 0, none⟩), .int .i64 i, .int .i64 n] w fun e w' => e = .returned (.int .i64 1) ∧ w = w' := by
  have HD := Lib.hid h
  have HC := Lib.hid (checkOf_ok hi)
  have HO := Lib.hid hoff
  have hi1 : (i : Int) < 8 := by omega
  have cf := h.c_file hv
  obtain ⟨Af, capf, hvf⟩ := own_form (h.files i v p hv hp).1
  rw [hvf] at cf
  generalize p.1.length = np at cf hn
  clear h hoff hp hv hvf
  by_cases h0 : n < 0
  · clear hn
    go_enter Try.func56, Try.ntmps56
    go_wp2_with fail
    refine (rbegin_any i HD.out).mono ?_
    rintro e w1 ⟨rfl, rfl⟩
    rw [HO.out, HC.out]
    go_wp2
    go_ret
    exact ⟨rfl, rfl⟩
  · have h1 : (np : Int) < n := by omega
    have h2 : 0 ≤ n := by omega
    clear hn
    go_enter Try.func56, Try.ntmps56
    go_wp2_with fail
    refine (rbegin_any i HD.out).mono ?_
    rintro e w1 ⟨rfl, rfl⟩
    rw [HO.out, HC.out]
    go_wp2
    go_ret
    exact ⟨rfl, rfl⟩

set_option maxRecDepth 100000 in
set_option maxHeartbeats 1600000 in
theorem rtrunc_yes (i n : Nat) {w : World} {base B : Nat} {vs : List Value} {a : Ab} (h : RIs w base B vs a) (hoff : a.off = false) (hi : i < 8) {v : Value} {p : List UInt8 × Nat} (hv : vs[i]? = some v) (hp : a.fs[i]? = some p) (hn : n ≤ p.1.length) :
    Calls Try.prog 56 #[.pointer (some ⟨B, 0, none⟩), .int .i64 i, .int .i64 n] w (RRet base B vs (gateOf a false i (p.1.take n, n)) w) := by
  obtain ⟨j0, hj, hy0, hy1, hy2⟩ := info_parts info_byte
  have HD := Lib.hid h
  have HC := Lib.hid (checkOf_ok hi)
  have HO := Lib.hid hoff
  have HP := Lib.hid hp
  have HV := Lib.hid hv
  have HPL : Hid (0 ≤ a.plan) := Lib.hid h.plan0
  have HF := Lib.hid (rfails_any h hoff)
  have HFIT : Hid ((a.used : Int) + (p.1.take n).length - p.1.length ≤ a.room) := Lib.hid (by have := h.fits; rw [List.length_take]; omega)
  have HL : Hid (n = (p.1.take n).length) := Lib.hid (by rw [List.length_take]; omega)
  have h1 := h.room1
  have h2 := h.fits
  have hle := used_file hp
  have hi1 : (i : Int) < 8 := by omega
  have cf := h.c_file hv
  obtain ⟨Af, capf, hvf⟩ := own_form (h.files i v p hv hp).1
  rw [hvf] at cf
  have hpl : p.1.length ≤ 16777216 := by omega
  have k1 : (0 : Int) ≤ (n : Int) := by omega
  have k2 : (n : Int) ≤ (p.1.length : Int) := by omega
  have k3 : ¬ (p.1.length : Int) < (n : Int) := by omega
  have k4 : ¬ (n : Int) < 0 := by omega
  clear h hoff hp hv h1 h2 hle
  by_cases hfl : a.plan = 1
  · have HFL := Lib.hid hfl
    have e1 : decide (a.plan = 1) = true := by simp [hfl]
    rw [e1] at HF
    clear e1 hfl hvf
    go_enter Try.func56, Try.ntmps56
    go_wp2_with fail
    refine (rbegin_any i HD.out).mono ?_
    rintro e w1 ⟨rfl, rfl⟩
    rw [HO.out, HC.out]
    go_wp2_with fail
    refine HF.out.mono ?_
    rintro e wf ⟨rfl, hR, hK⟩
    have HR := Lib.hid hR
    have HK := Lib.hid hK
    clear hR hK
    go_wp2
    go_ret
    exact rclose_off HO.out HPL.out HR.out HK.out HFL.out _ _
  · have HFL := Lib.hid hfl
    have HVF := Lib.hid hvf
    have e1 : decide (a.plan = 1) = false := by simp [hfl]
    rw [e1] at HF
    clear e1 hfl hvf
    go_enter Try.func56, Try.ntmps56
    go_wp2_with fail
    refine (rbegin_any i HD.out).mono ?_
    rintro e w1 ⟨rfl, rfl⟩
    rw [HO.out, HC.out]
    go_wp2_with fail
    refine HF.out.mono ?_
    rintro e wf ⟨rfl, hR, hK⟩
    have HP2 : Hid ((failsTo a).fs[i]? = some p) := Lib.hid (by rw [(fails_fs a).1]; exact HP.out)
    clear cf
    have cf := hR.c_file HV.out
    rw [HVF.out] at cf
    have ff := hR.blk.frozen (1 + i)
    have cs := hR.c_sync HP2.out
    have fs := hR.blk.frozen (9 + i)
    have lB := hR.blk.lt
    have hown := (hR.files i v p HV.out HP2.out).1
    have kc := own_cap hown HVF.out
    have hcut : Bs wf (.slice Af n capf) (p.1.take n) := by
      have h9 := OwnB.bs hown
      rw [HVF.out] at h9
      exact Bs.cut h9 hn
    have HCUT : Hid (Rd wf 1 (.slice Af n capf) n ((p.1.take n).map bv)) := Lib.hid (by unfold Bs at hcut; rw [← HL.out] at hcut; exact hcut)
    have M0 := Lib.hid (World.ownsRow_made (base := wf.heap.size) (e := 5) (size := 1) wf #[] 0 (Nat.le_refl _) (by decide) rfl)
    have m1 : 0 + n ≤ maxLen := by simp only [maxLen]; omega
    have k5 : n ≤ capf := by omega
    have k6 : capf ≤ 9223372036854775807 := by have := kc.2; simp only [maxLen] at this; omega
    have k7 : (n : Int) ≤ (capf : Int) := by omega
    have HR := Lib.hid hR
    have HK0 := Lib.hid hK
    clear hR hK hown hcut kc
    go_wp2_with fail
    go_region_law ((refine step_append_rd _ (by rfl) _ _ 30 (by rfl) wf.heap.size 5 j0 _ 1 1 Try.underlying30 hj hy0 hy1 hy2 rfl (by omega) (.slice (some ⟨wf.heap.size, 0, none⟩) 0 0) 0 [] (by rfl) M0.out _ n ((p.1.take n).map bv) (by rfl) (Rd.alloc HCUT.out _) (bvs_one _) m1 (by omega) (by simp) ?_
                    intro A1 cap1 wa hown1 hg1 hat1
                    have hka : Kept Kno wf wa := (Kept.drew (Kept.alloc (Kept.refl _ wf) _)).grown hg1 (fun k hk e => by cases e; exact absurd hk (Nat.lt_irrefl _))
                    have q : wa.cell? ⟨B, 1 + i, none⟩ = some (.slice Af p.1.length capf) := hka.cell_some cf (fun h => h)
                    have q' : wa.frozen? ⟨B, 1 + i, none⟩ = false := hka.frozen_no ff lB (fun h => h)
                    have r : wa.cell? ⟨B, 9 + i, none⟩ = some (.int .i64 p.2) := hka.cell_some cs (fun h => h)
                    have r' : wa.frozen? ⟨B, 9 + i, none⟩ = false := hka.frozen_no fs lB (fun h => h)
                    simp only [Nat.zero_add, List.nil_append] at hown1
                    rw [Nat.zero_add]))
    all_goals
      have r2 : (wa.setCell ⟨B, 1 + i, none⟩ (.slice A1 n cap1)).cell? ⟨B, 9 + i, none⟩ = some (.int .i64 p.2) := (cell_apart _ B _ _ _ (by omega)).trans r
      go_wp2
      go_ret
      exact rclose_both HO.out HPL.out HR.out HK0.out HP.out hka HFL.out (p.1.take n) HL.out hown1 (Nat.le_of_eq HL.out) HFIT.out

theorem rtrunc_any (i n : Int) {w : World} {base B : Nat} {vs : List Value} {a : Ab} (h : RIs w base B vs a) :
    Calls Try.prog 56 #[.pointer (some ⟨B, 0, none⟩), .int .i64 i, .int .i64 n] w (RRet base B vs (a.trunc i n) w) := by
  unfold Ab.trunc
  by_cases hc : checkOf a.off i ≠ 0
  · rw [if_pos hc]
    exact (rtrunc_no i _ n h rfl hc).mono fun e w' ⟨x, y⟩ => ⟨x, y ▸ h.turn0 (Kept.refl _ _)⟩
  · rw [if_neg hc]
    obtain ⟨h1, h2, h3⟩ := check_range hc
    obtain ⟨m, rfl⟩ : ∃ n : Nat, i = n := ⟨i.toNat, by omega⟩
    obtain ⟨v, p, hv, hp, haf⟩ := h.file (i := m) (by omega)
    rw [Int.toNat_natCast, haf]
    by_cases hn : n < 0 ∨ (p.1.length : Int) < n
    · rw [if_pos hn]
      exact (rtrunc_bad m n h h1 (by omega) hv hp hn).mono fun e w' ⟨x, y⟩ => ⟨x, y ▸ h.turn0 (Kept.refl _ _)⟩
    · rw [if_neg hn]
      obtain ⟨k, rfl⟩ : ∃ k : Nat, n = k := ⟨n.toNat, by omega⟩
      rw [Int.toNat_natCast]
      exact rtrunc_yes m k h h1 (by omega) hv hp (by omega)

end Go.Proofs.Yteoodgcpkgfomaa
/-
  The reference's journal in memory; note, Len, Sync.
-/
namespace Go.Proofs.Yteoodgcpkgfomaa
open Go.RowKit
set_option linter.unusedVariables false

def kCells (B : Nat) (file : Int) (rv : Value) (dead : Bool) : Array Value := #[.pointer (some ⟨B, 0, none⟩), .int .i64 file, rv, .bool dead]
/-- Block K is the reference's journal of the records rs over the reference's disk in block B. -/
structure RJ (w : World) (base K B : Nat) (file : Int) (rv : Value) (us : List Value) (rs : List (List UInt8)) (dead : Bool) : Prop where
  low : base ≤ K
  blk : Blk w K 64 (kCells B file rv dead)
  rr : RR w base rv us rs
  cnt : (frames rs).length ≤ 10000000
def KOwn (K : Nat) (rv : Value) (us : List Value) : Nat → Prop := fun k => k = K ∨ rv.ownBlock = some k ∨ ∃ u ∈ us, u.ownBlock = some k
def RK (B : Nat) (vs : List Value) : Nat → Prop := fun k => k = B ∨ ∃ v ∈ vs, v.ownBlock = some k
def KApart (K B : Nat) (vs : List Value) (rv : Value) (us : List Value) : Prop := ∀ k, KOwn K rv us k → ¬ RK B vs k
/-- What a call of the reference's journal leaves. -/
def KTurn (base K B : Nat) (file : Int) (vs : List Value) (rv : Value) (us : List Value) (s' : JA) (w w' : World) : Prop :=
  ∃ vs' rv' us', RIs w' base B vs' s'.a ∧ RJ w' base K B file rv' us' s'.rs s'.off ∧ KApart K B vs' rv' us' ∧ Kept (fun k => KOwn K rv us k ∨ RK B vs k) w w' ∧
    (∀ k, RK B vs' k → RK B vs k ∨ w.heap.size ≤ k) ∧ (∀ k, KOwn K rv' us' k → KOwn K rv us k ∨ w.heap.size ≤ k)
def KRet (base K B : Nat) (file : Int) (vs : List Value) (rv : Value) (us : List Value) (p : JA × Int) (w : World) (e : Ending) (w' : World) : Prop := e = .returned (.int .i64 p.2) ∧ KTurn base K B file vs rv us p.1 w w'

section
variable {w w' w1 : World} {base K B : Nat} {file : Int} {rv : Value} {us vs : List Value} {rs : List (List UInt8)} {dead : Bool} {a : Ab} {S : Nat → Prop}
theorem RJ.kept (h : RJ w base K B file rv us rs dead) (hk : Kept S w w') (hS : ∀ k, KOwn K rv us k → ¬ S k) : RJ w' base K B file rv us rs dead :=
  ⟨h.low, h.blk.kept hk (hS _ (.inl rfl)), h.rr.kept hk (fun k e => hS k (.inr (.inl e))) (fun u hu k e => hS k (.inr (.inr ⟨u, hu, e⟩))), h.cnt⟩
theorem RJ.kept0 (h : RJ w base K B file rv us rs dead) (hk : Kept Kno w w') : RJ w' base K B file rv us rs dead := h.kept hk (fun _ _ h => h)
theorem RJ.own_low (h : RJ w base K B file rv us rs dead) {k : Nat} (hk : KOwn K rv us k) : base ≤ k ∧ k < w.heap.size := by
  rcases hk with rfl | e | ⟨u, hu, e⟩
  · exact ⟨h.low, h.blk.lt⟩
  · exact own_base h.rr.row e
  · obtain ⟨b, hb⟩ := h.rr.at hu
    exact ⟨(hb.2 k e).1, (hb.2 k e).2.lt⟩
theorem RJ.c_disk (h : RJ w base K B file rv us rs dead) : w.cell? ⟨K, 0, none⟩ = some (.pointer (some ⟨B, 0, none⟩)) := h.blk.cell 0
theorem RJ.c_file (h : RJ w base K B file rv us rs dead) : w.cell? ⟨K, 1, none⟩ = some (.int .i64 file) := h.blk.cell 1
theorem RJ.c_recs (h : RJ w base K B file rv us rs dead) : w.cell? ⟨K, 2, none⟩ = some rv := h.blk.cell 2
theorem RJ.c_dead (h : RJ w base K B file rv us rs dead) : w.cell? ⟨K, 3, none⟩ = some (.bool dead) := h.blk.cell 3
theorem RJ.rl (h : RJ w base K B file rv us rs dead) : rs.length ≤ 10000000 := Nat.le_trans (frames_ge rs) h.cnt
theorem RJ.rebase {base' : Nat} (h : RJ w base K B file rv us rs dead) (hb : base' ≤ base) : RJ w base' K B file rv us rs dead :=
  ⟨Nat.le_trans hb h.low, h.blk, h.rr.rebase hb, h.cnt⟩
theorem RJ.K_rv (h : RJ w base K B file rv us rs dead) : rv.ownBlock ≠ some K := fun e => absurd (h.blk.bt.one (own_bt h.rr.row e)) (by decide)
theorem RJ.K_u (h : RJ w base K B file rv us rs dead) {u : Value} (hu : u ∈ us) : u.ownBlock ≠ some K := fun e => by
  obtain ⟨b, hb⟩ := h.rr.at hu
  exact absurd (h.blk.bt.one (hb.2 _ e).2) (by decide)
theorem RJ.set_dead (h : RJ w base K B file rv us rs dead) (o : Bool) : RJ (w.setCell ⟨K, 3, none⟩ (.bool o)) base K B file rv us rs o := by
  have hk : Kept (Kone K) w (w.setCell ⟨K, 3, none⟩ (.bool o)) := Kept.setIn (S := Kone K) (Kept.refl _ _) (p := ⟨K, 3, none⟩) (Eq.refl K) _
  refine ⟨h.low, h.blk.set_ 3 (.bool o), h.rr.kept hk (fun k e e' => ?_) (fun u hu k e e' => ?_), h.cnt⟩
  · unfold Kone at e'; subst e'; exact h.K_rv e
  · unfold Kone at e'; subst e'; exact h.K_u hu e
theorem RIs.vlow2 (h : RIs w base B vs a) {v : Value} (hv : v ∈ vs) {k : Nat} (hk : v.ownBlock = some k) : base ≤ k ∧ k < w.heap.size := by
  obtain ⟨i, hi⟩ := List.mem_iff_getElem?.1 hv
  have hl := h.vlen
  have hl2 := h.len
  have hlt : i < vs.length := (List.getElem?_eq_some_iff.1 hi).1
  exact own_base (h.files i v _ hi (List.getElem?_eq_getElem (by omega))).1 hk
theorem ris_low (hi : RIs w base B vs a) {k : Nat} (hk : RK B vs k) : base ≤ k ∧ k < w.heap.size := by
  rcases hk with rfl | ⟨v, hv, e⟩
  · exact ⟨hi.low, hi.blk.lt⟩
  · exact hi.vlow2 hv e
theorem ris_far (hi : RIs w base B vs a) (hk : Kept S w w') (hS : ∀ k, S k → ¬ RK B vs k) : RIs w' base B vs a :=
  hi.kept hk (fun e => hS _ e (.inl rfl)) (fun v hv k e e' => hS k e' (.inr ⟨v, hv, e⟩))
theorem rk_from {vs' : List Value} (h : VsFrom vs vs' w.heap.size) : ∀ k, RK B vs' k → RK B vs k ∨ w.heap.size ≤ k := fun k hk => by
  rcases hk with rfl | ⟨v, hv, e⟩
  · exact .inl (.inl rfl)
  · rcases h v hv k e with ⟨u, hu, e'⟩ | h2
    · exact .inl (.inr ⟨u, hu, e'⟩)
    · exact .inr h2
theorem kturn0 (hj : RJ w base K B file rv us rs dead) (hi : RIs w base B vs a) (ha : KApart K B vs rv us) (hk : Kept Kno w w') : KTurn base K B file vs rv us ⟨a, rs, dead⟩ w w' :=
  ⟨vs, rv, us, hi.kept0 hk, hj.kept0 hk, ha, hk.mono (fun _ _ h => h.elim), fun k h => .inl h, fun k h => .inl h⟩
theorem KTurn.before (hk : Kept Kno w w') {w2 : World} {s' : JA} (h : KTurn base K B file vs rv us s' w' w2) : KTurn base K B file vs rv us s' w w2 := by
  obtain ⟨vs', rv', us', h1, h2, h3, h4, h5, h6⟩ := h
  have := hk.size
  refine ⟨vs', rv', us', h1, h2, h3, (hk.mono (T := fun k => KOwn K rv us k ∨ RK B vs k) (fun _ _ h => h.elim)).trans h4 (fun _ _ h => h), fun k h => ?_, fun k h => ?_⟩
  · rcases h5 k h with h | h
    · exact .inl h
    · exact .inr (by omega)
  · rcases h6 k h with h | h
    · exact .inl h
    · exact .inr (by omega)
/-- The disk was asked, and its answer noted. -/
theorem kturn_note {a' : Ab} (c : Int) (hj : RJ w base K B file rv us rs false) (hi : RIs w base B vs a) (ha : KApart K B vs rv us) (ht : RTurn base B vs a' w w1) :
    KTurn base K B file vs rv us ⟨a', rs, decide (c = 220)⟩ w (w1.setCell ⟨K, 3, none⟩ (.bool (decide (c = 220)))) ∧
    ∃ vs', RIs (w1.setCell ⟨K, 3, none⟩ (.bool (decide (c = 220)))) base B vs' a' ∧ RJ (w1.setCell ⟨K, 3, none⟩ (.bool (decide (c = 220)))) base K B file rv us rs (decide (c = 220)) ∧ KApart K B vs' rv us ∧ Kept (fun k => KOwn K rv us k ∨ RK B vs k) w (w1.setCell ⟨K, 3, none⟩ (.bool (decide (c = 220)))) ∧ (∀ k, RK B vs' k → RK B vs k ∨ w.heap.size ≤ k) := by
  obtain ⟨⟨vs', hi', hf⟩, hk'⟩ := ht
  have hdk : ∀ k, RK B vs' k → RK B vs k ∨ w.heap.size ≤ k := rk_from hf
  have hB : ∀ k, KOwn K rv us k → ¬ Kone B k := fun k h e => ha k h (.inl e)
  have hj1 : RJ w1 base K B file rv us rs false := hj.kept hk' hB
  have ha1 : KApart K B vs' rv us := fun k h h' => by
    rcases hdk k h' with h2 | h2
    · exact ha k h h2
    · have := (hj.own_low h).2; omega
  have hkJ : Kept (Kone K) w1 (w1.setCell ⟨K, 3, none⟩ (.bool (decide (c = 220)))) := Kept.setIn (S := Kone K) (Kept.refl _ _) (p := ⟨K, 3, none⟩) (Eq.refl K) _
  have key : ∃ vs', RIs (w1.setCell ⟨K, 3, none⟩ (.bool (decide (c = 220)))) base B vs' a' ∧ RJ (w1.setCell ⟨K, 3, none⟩ (.bool (decide (c = 220)))) base K B file rv us rs (decide (c = 220)) ∧ KApart K B vs' rv us ∧ Kept (fun k => KOwn K rv us k ∨ RK B vs k) w (w1.setCell ⟨K, 3, none⟩ (.bool (decide (c = 220)))) ∧ (∀ k, RK B vs' k → RK B vs k ∨ w.heap.size ≤ k) :=
    ⟨vs', ris_far hi' hkJ (fun k e => by unfold Kone at e; subst e; exact ha1 _ (.inl rfl)), hj1.set_dead _, ha1, (hk'.mono (T := fun k => KOwn K rv us k ∨ RK B vs k) (fun k _ e => .inr (.inl e))).trans hkJ (fun k _ e => .inl (.inl e)), hdk⟩
  refine ⟨?_, key⟩
  obtain ⟨vs2, k1, k2, k3, k4, k5⟩ := key
  exact ⟨vs2, rv, us, k1, k2, k3, k4, k5, fun k h => .inl h⟩
theorem rj_turn {a' : Ab} (hj : RJ w base K B file rv us rs dead) (ha : KApart K B vs rv us) (ht : RTurn base B vs a' w w1) : RJ w1 base K B file rv us rs dead :=
  hj.kept ht.2 (fun k h e => ha k h (.inl e))
/-- A turn of the journal behind a turn of its disk. -/
theorem kturn_after {w2 : World} {vsq : List Value} {s' : JA} (hk : Kept (fun k => KOwn K rv us k ∨ RK B vs k) w w') (hd : ∀ k, RK B vsq k → RK B vs k ∨ w.heap.size ≤ k) (h : KTurn base K B file vsq rv us s' w' w2) : KTurn base K B file vs rv us s' w w2 := by
  obtain ⟨vs', rv', us', h1, h2, h3, h4, h5, h6⟩ := h
  have hs := hk.size
  refine ⟨vs', rv', us', h1, h2, h3, hk.trans h4 (fun i hi e => ?_), fun k h => ?_, fun k h => ?_⟩
  · rcases e with e | e
    · exact .inl e
    · rcases hd i e with h | h
      · exact .inr h
      · omega
  · rcases h5 k h with h | h
    · exact hd k h
    · exact .inr (by omega)
  · rcases h6 k h with h | h
    · exact .inl h
    · exact .inr (by omega)
end

set_option maxHeartbeats 400000 in
theorem rnote_any (K : Nat) (c : Int) (w : World) (h : w.cell? ⟨K, 3, none⟩ = some (.bool false)) (hf : w.frozen? ⟨K, 3, none⟩ = false) :
    Calls Try.prog 73 #[.pointer (some ⟨K, 0, none⟩), .int .i64 c] w fun e w' => e = .returned (.int .i64 c) ∧ w' = w.setCell ⟨K, 3, none⟩ (.bool (decide (c = 220))) := by
  by_cases hc : c = 220
  · subst hc
    go_enter Try.func73, Try.ntmps73
    go_wp2
    go_ret
    exact ⟨rfl, rfl⟩
  · have hc1 : (c == 220) = false := by simpa using hc
    rw [decide_eq_false hc]
    go_enter Try.func73, Try.ntmps73
    go_wp2
    go_ret
    exact ⟨rfl, rfl⟩

set_option maxHeartbeats 400000 in
theorem klen_any {w : World} {base K B : Nat} {file : Int} {rv : Value} {us : List Value} {rs : List (List UInt8)} {dead : Bool} (h : RJ w base K B file rv us rs dead) :
    Calls Try.prog 50 #[.pointer (some ⟨K, 0, none⟩)] w fun e w' => e = .returned (.int .i64 rs.length) ∧ w = w' := by
  have c1 := h.c_recs
  obtain ⟨A, c, rfl⟩ := own_form h.rr.row
  clear h
  go_enter Try.func50, Try.ntmps50
  go_wp2
  go_ret
  exact ⟨rfl, rfl⟩

set_option maxRecDepth 100000 in
set_option maxHeartbeats 1000000 in
theorem ksync_any {w : World} {base K B : Nat} {file : Int} {rv : Value} {us vs : List Value} (s : JA) (hj : RJ w base K B file rv us s.rs s.off) (hi : RIs w base B vs s.a) (ha : KApart K B vs rv us) :
    Calls Try.prog 45 #[.pointer (some ⟨K, 0, none⟩)] w (KRet base K B file vs rv us (s.sync file) w) := by
  obtain ⟨a, rs, off⟩ := s
  simp only at hj hi
  have c0 := hj.c_disk
  have c1 := hj.c_file
  have c4 := hj.c_dead
  have HJ := Lib.hid hj
  have HI := Lib.hid hi
  have HA := Lib.hid ha
  clear hj hi ha
  unfold JA.sync
  cases off with
  | true =>
    simp only [if_true]
    have HT := Lib.hid (kturn0 HJ.out HI.out HA.out (Kept.refl Kno w))
    go_enter Try.func45, Try.ntmps45
    go_wp2
    go_ret
    exact ⟨rfl, HT.out⟩
  | false =>
    simp only [Bool.false_eq_true, if_false]
    go_enter Try.func45, Try.ntmps45
    go_wp2_with fail
    have HJd := Lib.hid (HJ.out.kept0 (Kept.drew (Kept.refl Kno w)))
    have HId := Lib.hid (HI.out.kept0 (Kept.drew (Kept.refl Kno w)))
    go_region_with (first
      | (go_at_call 57
         refine (rsync_any file HId.out).mono ?_
         rintro e w1 ⟨rfl, ht⟩
         have HTN := Lib.hid ((kturn_note (a.sync file).2 HJd.out HId.out HA.out ht).1.before (Kept.drew (Kept.refl Kno w)))
         have d4 := (rj_turn HJd.out HA.out ht).c_dead
         have g4 := (rj_turn HJd.out HA.out ht).blk.frozen 3)
      | (go_at_call 73
         refine (rnote_any K _ w1 d4 g4).mono ?_
         rintro e w2 ⟨rfl, rfl⟩))
    all_goals
      go_wp2
      go_ret
      refine ⟨rfl, ?_⟩
      have h9 := HTN.out
      simpa [JA.done] using h9

end Go.Proofs.Yteoodgcpkgfomaa
/-
  The reference's journal: Open, Append.
-/
namespace Go.Proofs.Yteoodgcpkgfomaa
open Go.RowKit
set_option linter.unusedVariables false

/-- Why the reading stopped. -/
theorem scan_stop (s : List UInt8) (h : (scan s).2.2 ≠ 0) : textAt (s.drop (scan s).2.1) 0 1048576 = .error (scan s).2.2 ∧ (scan s).2.1 < s.length := by
  generalize hn : s.length = n
  induction n using Nat.strongRecOn generalizing s with
  | _ n ih =>
    rcases Nat.eq_zero_or_pos s.length with h0 | h0
    · have : s = [] := List.eq_nil_of_length_eq_zero h0
      subst this
      exact absurd rfl h
    · cases ht : textAt s 0 1048576 with
      | error e =>
        have hs := scan_err h0 ht
        rw [hs] at h ⊢
        exact ⟨ht, by simp only; omega⟩
      | ok p =>
        obtain ⟨b, k⟩ := p
        obtain ⟨h1, h2, h3, h4⟩ := text_one ht
        have hp := frame_pos b
        have hs := scan_ok h0 ht
        rw [hs] at h ⊢
        simp only at h ⊢
        have hd : (s.drop k).length = s.length - k := List.length_drop
        obtain ⟨i1, i2⟩ := ih (s.drop k).length (by omega) (s.drop k) h rfl
        rw [List.drop_drop] at i1
        exact ⟨i1, by omega⟩
theorem scan_end (l : List UInt8) : (scan l).2.1 = l.length ↔ (scan l).2.2 = 0 := by
  constructor
  · intro h
    rcases Int.decEq (scan l).2.2 0 with h0 | h0
    · have := (scan_stop l h0).2; omega
    · exact h0
  · intro h; exact (scan_any l).2.2.2.2 h
theorem scanOk_load (l : List UInt8) (h : (scan l).2.1 ≠ l.length) : scanOk l = (loadAt l).2 := by
  have h0 : (scan l).2.2 ≠ 0 := fun e => h ((scan_end l).2 e)
  have hst := (scan_stop l h0).1
  unfold scanOk
  simp only [loadAt, h0, decide_false, Bool.false_or]
  by_cases h20 : (scan l).2.2 = 20
  · rw [h20] at hst
    have h9 := torn_same hst
    rw [unfin_drop, Nat.add_zero] at h9
    rw [h9]
  · rw [decide_eq_false h20]; rfl

def KOpenVal (B : Nat) (f : Int) (vs' : List Value) (code : Int) (w w' : World) (e : Ending) : Option (List (List UInt8)) → Prop
  | none => e = .returned (.tuple #[.pointer none, .int .i64 code])
  | some rs => ∃ K rv us, e = .returned (.tuple #[.pointer (some ⟨K, 0, none⟩), .int .i64 code]) ∧ RJ w' w.heap.size K B f rv us rs false ∧ KApart K B vs' rv us
def KOpenOk (base B : Nat) (f : Int) (vs : List Value) (r : Ab × Int × Option (List (List UInt8))) (w : World) (e : Ending) (w' : World) : Prop :=
  ∃ vs', RIs w' base B vs' r.1 ∧ Kept (Kone B) w w' ∧ (∀ k, RK B vs' k → RK B vs k ∨ w.heap.size ≤ k) ∧ KOpenVal B f vs' r.2.1 w w' e r.2.2

set_option maxRecDepth 100000 in
set_option maxHeartbeats 2000000 in
theorem kopen_any (base B : Nat) (f : Int) (vs : List Value) (a : Ab) (w : World) (hi : RIs w base B vs a) (hl : (a.read f).1.length ≤ 1000000) :
    Calls Try.prog 38 #[.pointer (some ⟨B, 0, none⟩), .int .i64 f] w (KOpenOk base B f vs (jopen a f) w) := by
  have HI := Lib.hid hi
  clear hi
  obtain ⟨⟨l, c⟩, hr⟩ : ∃ p, p = a.read f := ⟨_, rfl⟩
  have HR := Lib.hid hr
  unfold jopen
  rw [← hr] at hl ⊢
  simp only at hl ⊢
  clear hr
  by_cases hc : c = 0
  · rw [if_neg (by simpa using hc)]
    subst hc
    have hsc := scan_any l
    have HSC := Lib.hid hsc
    obtain ⟨N, hN⟩ : ∃ N, N = (scan l).2.1 := ⟨_, rfl⟩
    have hNl : N ≤ l.length := by rw [hN]; exact hsc.2.2.2.1
    obtain ⟨R, hR⟩ : ∃ R, R = (scan l).1 := ⟨_, rfl⟩
    rw [← hR]
    have hfr : (frames R).length ≤ 10000000 := by rw [hR, ← hsc.1]; have := hsc.2.2.2.1; omega
    have HFR := Lib.hid hfr
    have HRE := Lib.hid hR
    clear hR hfr
    by_cases he : (scan l).2.1 = l.length
    · rw [if_pos he]
      have hok : scanOk l = true := by unfold scanOk; rw [(scan_end l).1 he]; rfl
      have HE := Lib.hid he
      have HOK := Lib.hid hok
      clear hsc he hok hN hNl
      go_enter Try.func38, Try.ntmps38
      go_wp2_with fail
      refine (rread_any f HI.out).mono ?_
      rw [← HR.out]
      rintro e w1 ⟨A1, cap1, rfl, hown1, hk1⟩
      have HO1 := Lib.hid hown1
      clear hown1
      go_wp2_with fail
      refine (rscan_any _ l w1 (OwnB.bs HO1.out) hl).mono ?_
      rintro e w2 ⟨A2, cap2, us, he2, hrr2, hk2⟩
      rw [← HRE.out] at he2 hrr2
      rw [HOK.out, HE.out] at he2
      subst he2
      have HRR := Lib.hid hrr2
      have HKK := Lib.hid (hk1.then0 hk2)
      clear hrr2
      go_wp2
      go_ret2
      refine ⟨vs, HI.out.kept0 (HKK.out.alloc _), (HKK.out.alloc _).mono (fun _ _ h => h.elim), fun k h => .inl h, w2.heap.size, .slice A2 R.length cap2, us, rfl, ⟨Nat.le_trans HKK.out.size (Nat.le_refl _), Blk.new _ _ _, (HRR.out.kept0 ((Kept.refl _ _).alloc _)).rebase hk1.size, HFR.out⟩, fun k e e' => ?_⟩
      have h1 := (ris_low HI.out e').2
      rcases e with rfl | e | ⟨u, hu, e⟩
      · have := HKK.out.size; omega
      · have := (own_base HRR.out.row e).1; have := hk1.size; omega
      · obtain ⟨b, hb⟩ := HRR.out.at hu
        have := (hb.2 k e).1; have := hk1.size; omega
    · rw [if_neg he]
      have hld := scanOk_load l he
      have HE := Lib.hid he
      have hNe : (N : Int) < (l.length : Int) := by have : N ≠ l.length := by rw [hN]; exact he
                                                    omega
      by_cases ht : (loadAt l).2 = false
      · rw [if_pos ht]
        rw [ht] at hld
        have HOK := Lib.hid hld
        clear hsc he hld ht hN
        go_enter Try.func38, Try.ntmps38
        go_wp2_with fail
        refine (rread_any f HI.out).mono ?_
        rw [← HR.out]
        rintro e w1 ⟨A1, cap1, rfl, hown1, hk1⟩
        have HO1 := Lib.hid hown1
        clear hown1
        go_wp2_with fail
        refine (rscan_any _ l w1 (OwnB.bs HO1.out) hl).mono ?_
        rintro e w2 ⟨A2, cap2, us, he2, hrr2, hk2⟩
        rw [← HRE.out] at he2 hrr2
        rw [HOK.out] at he2
        subst he2
        have HKK := Lib.hid (hk1.then0 hk2)
        clear hrr2
        go_wp2
        go_ret2
        exact ⟨vs, HI.out.kept0 HKK.out, HKK.out.mono (fun _ _ h => h.elim), fun k h => .inl h, rfl⟩
      · rw [if_neg ht]
        have ht2 : (loadAt l).2 = true := by simpa using ht
        rw [ht2] at hld
        have HOK := Lib.hid hld
        rw [← hN]
        obtain ⟨⟨a', c'⟩, hp⟩ : ∃ p, p = a.trunc f (N : Nat) := ⟨_, rfl⟩
        rw [← hp]
        have HP := Lib.hid hp
        have HN := Lib.hid hN
        clear hp hsc he hld ht ht2 hN
        simp only
        by_cases hc' : c' = 0
        · subst hc'
          rw [if_pos rfl]
          go_enter Try.func38, Try.ntmps38
          go_wp2_with fail
          refine (rread_any f HI.out).mono ?_
          rw [← HR.out]
          rintro e w1 ⟨A1, cap1, rfl, hown1, hk1⟩
          have HO1 := Lib.hid hown1
          clear hown1
          go_wp2_with fail
          refine (rscan_any _ l w1 (OwnB.bs HO1.out) hl).mono ?_
          rintro e w2 ⟨A2, cap2, us, he2, hrr2, hk2⟩
          rw [← HRE.out] at he2 hrr2
          rw [HOK.out, ← HN.out] at he2
          subst he2
          have HRR := Lib.hid hrr2
          have HKK := Lib.hid (hk1.then0 hk2)
          have HI2 := Lib.hid (HI.out.kept0 HKK.out)
          clear hrr2
          go_wp2_with fail
          have htr := rtrunc_any f (N : Nat) HI2.out
          rw [← HP.out] at htr
          refine htr.mono ?_
          rintro e w3 ⟨rfl, ⟨vs3, hi3, hf3⟩, hk3⟩
          have HI3 := Lib.hid hi3
          have HF3 := Lib.hid (rk_from (B := B) hf3)
          have HK3 := Lib.hid hk3
          clear hi3 hf3 hk3 htr
          go_wp2
          go_ret2
          have hkA : Kept (Kone B) w w3 := (HKK.out.mono (T := Kone B) (fun _ _ h => h.elim)).trans HK3.out (fun _ _ h => h)
          have hs2 := HKK.out.size
          have hs3 := HK3.out.size
          have hB := HI.out.blk.lt
          have hRR3 : RR w3 w1.heap.size (.slice A2 R.length cap2) us R := HRR.out.kept HK3.out (fun k e e' => by unfold Kone at e'; have := (own_base HRR.out.row e).1; have := hk1.size; omega) (fun u hu k e e' => by
            unfold Kone at e'
            obtain ⟨b, hb⟩ := HRR.out.at hu
            have := (hb.2 k e).1; have := hk1.size; omega)
          refine ⟨vs3, HI3.out.kept0 ((Kept.refl _ _).alloc _), hkA.alloc _, fun k h => (HF3.out k h).imp_right (fun h => by omega), w3.heap.size, .slice A2 R.length cap2, us, rfl, ⟨Nat.le_trans hs2 hs3, Blk.new _ _ _, (hRR3.kept0 ((Kept.refl _ _).alloc _)).rebase hk1.size, HFR.out⟩, fun k e e' => ?_⟩
          have hlow : RK B vs k ∨ w2.heap.size ≤ k := HF3.out k e'
          have h3l := (ris_low HI3.out e').2
          rcases e with rfl | e | ⟨u, hu, e⟩
          · omega
          · have h1 := own_base HRR.out.row e
            rcases hlow with h | h
            · have := (ris_low HI.out h).2; have := hk1.size; omega
            · omega
          · obtain ⟨b, hb⟩ := HRR.out.at hu
            have h1 := (hb.2 k e).1
            have h2 := (hb.2 k e).2.lt
            rcases hlow with h | h
            · have := (ris_low HI.out h).2; have := hk1.size; omega
            · omega
        · rw [if_neg hc']
          go_enter Try.func38, Try.ntmps38
          go_wp2_with fail
          refine (rread_any f HI.out).mono ?_
          rw [← HR.out]
          rintro e w1 ⟨A1, cap1, rfl, hown1, hk1⟩
          have HO1 := Lib.hid hown1
          clear hown1
          go_wp2_with fail
          refine (rscan_any _ l w1 (OwnB.bs HO1.out) hl).mono ?_
          rintro e w2 ⟨A2, cap2, us, he2, hrr2, hk2⟩
          rw [← HRE.out] at he2 hrr2
          rw [HOK.out, ← HN.out] at he2
          subst he2
          have HKK := Lib.hid (hk1.then0 hk2)
          have HI2 := Lib.hid (HI.out.kept0 HKK.out)
          clear hrr2
          go_wp2_with fail
          have htr := rtrunc_any f (N : Nat) HI2.out
          rw [← HP.out] at htr
          refine htr.mono ?_
          rintro e w3 ⟨rfl, ⟨vs3, hi3, hf3⟩, hk3⟩
          have HI3 := Lib.hid hi3
          have HF3 := Lib.hid (rk_from (B := B) hf3)
          have HK3 := Lib.hid hk3
          clear hi3 hf3 hk3 htr
          go_wp2
          go_ret2
          have hs2 := HKK.out.size
          exact ⟨vs3, HI3.out, (HKK.out.mono (T := Kone B) (fun _ _ h => h.elim)).trans HK3.out (fun _ _ h => h), fun k h => (HF3.out k h).imp_right (fun h => by omega), rfl⟩
  · rw [if_pos (by simpa using hc)]
    go_enter Try.func38, Try.ntmps38
    go_wp2_with fail
    refine (rread_any f HI.out).mono ?_
    rw [← HR.out]
    rintro e w1 ⟨A1, cap1, rfl, hown1, hk1⟩
    clear hown1
    go_wp2
    go_ret2
    exact ⟨vs, HI.out.kept0 hk1, hk1.mono (fun _ _ h => h.elim), fun k h => .inl h, rfl⟩

end Go.Proofs.Yteoodgcpkgfomaa
