/-
  The reference's disk: the contract of model, and of New.
-/
import Derived.Test.YteoodgcpkgfomaaDiskPlay
import Derived.Test.YteoodgcpkgfomaaDiskR8
import Derived.Test.YteoodgcpkgfomaaDiskR9
namespace Go.Proofs.Yteoodgcpkgfomaa
open Go.RowKit
set_option linter.unusedVariables false

def RModelOk (base B : Nat) (vs : List Value) (p : Ab × Int) (w : World) (e : Ending) (w' : World) : Prop :=
  ∃ B', e = .returned (.tuple #[.pointer (some ⟨B', 0, none⟩), .int .i64 p.2]) ∧ ∃ vs', RIs w' base B' vs' p.1 ∧ VsFrom vs vs' w.heap.size ∧ Kept (Kone B) w w'

theorem RTurn.before0 {base B : Nat} {vs : List Value} {a : Ab} {w w1 w' : World} (h : RTurn base B vs a w1 w') (hk : Kept Kno w w1) : RTurn base B vs a w w' := by
  obtain ⟨⟨vs', h1, h2⟩, h3⟩ := h
  exact ⟨⟨vs', h1, h2.low hk.size⟩, (hk.mono (T := Kone B) (fun _ _ e => e.elim)).trans h3 (fun _ _ e => e)⟩
theorem RTurn.model {base B : Nat} {vs : List Value} {p : Ab × Int} {w w' : World} (h : RTurn base B vs p.1 w w') {e : Ending} (he : e = .returned (.tuple #[.pointer (some ⟨B, 0, none⟩), .int .i64 p.2])) : RModelOk base B vs p w e w' := by
  obtain ⟨⟨vs', h1, h2⟩, h3⟩ := h
  exact ⟨B, he, vs', h1, h2, h3⟩
theorem RIs.vlow {w : World} {base B : Nat} {vs : List Value} {a : Ab} (h : RIs w base B vs a) {v : Value} (hv : v ∈ vs) {k : Nat} (hk : v.ownBlock = some k) : base ≤ k ∧ k < w.heap.size := by
  obtain ⟨i, hi⟩ := List.mem_iff_getElem?.1 hv
  have hl := h.vlen
  have hl2 := h.len
  have hlt : i < vs.length := (List.getElem?_eq_some_iff.1 hi).1
  exact own_base (h.files i v _ hi (List.getElem?_eq_getElem (by omega))).1 hk
theorem RIs.rebase {w : World} {base base' B : Nat} {vs : List Value} {a : Ab} (h : RIs w base B vs a) (hb : base' ≤ base) : RIs w base' B vs a :=
  ⟨Nat.le_trans hb h.low, h.blk, h.vlen, h.len, fun i v p hv hp => ⟨own_rebase (h.files i v p hv hp).1 (fun k hk => Nat.le_trans hb (own_base (h.files i v p hv hp).1 hk).1), (h.files i v p hv hp).2⟩, h.fits, h.room0, h.room1, h.plan0, h.plan1⟩

set_option maxHeartbeats 400000 in
theorem rnew_any (room : Int) (w : World) (h1 : 0 ≤ room) (h2 : room ≤ 16777216) :
    Calls Try.prog 12 #[.int .i64 room] w fun e w' =>
      e = .returned (.tuple #[.pointer (some ⟨w.heap.size, 0, none⟩), .int .i64 0]) ∧ w' = w.alloc (.cells (rCells room (List.replicate 8 nilB) (List.replicate 8 0) 0 false).toArray 79) := by
  go_enter Try.func12, Try.ntmps12
  go_wp2
  go_ret2
  exact ⟨rfl, rfl⟩
theorem ris_new (w : World) (base : Nat) (room : Int) (hb : base ≤ w.heap.size) (h0 : 0 ≤ room) (h1 : room ≤ 16777216) :
    RIs (w.alloc (.cells (rCells room (List.replicate 8 nilB) (List.replicate 8 0) 0 false).toArray 79)) base w.heap.size (List.replicate 8 nilB) (ab0 room) := by
  refine ⟨hb, Blk.new _ _ _, rfl, rfl, fun i v p hv hp => ?_, by simp [ab0, Ab.used]; exact h0, h0, h1, by simp [ab0], by simp [ab0]⟩
  rw [List.getElem?_replicate] at hv
  simp only [ab0] at hp
  rw [List.getElem?_replicate] at hp
  split at hv
  · rw [if_pos ‹_›] at hp
    cases hv
    cases hp
    exact ⟨World.ownsRow_nil _ _ _ _, Nat.le_refl _⟩
  · cases hv

set_option maxHeartbeats 4000000 in
theorem model_any (base B : Nat) (vs : List Value) (a : Ab) (c : CallD) (w : World) (h : RIs w base B vs a) (hc : CallOk w c) (hkB : ∀ w1, Kept (Kone B) w w1 → KeepIn w1 c.keep c.ks) :
    Calls Try.prog 14 #[.pointer (some ⟨B, 0, none⟩), c.val] w (RModelOk base B vs (a.play c) w) := by
  obtain ⟨kind, file, n, b, l, keep, ks⟩ := c
  obtain ⟨hbs, hll, hkeep, hn⟩ := hc
  simp only [CallD.val, Ab.play] at hbs hll hkeep hn hkB ⊢
  have HI := Lib.hid h
  have HBS := Lib.hid hbs
  have HK : Hid (∀ w1, Kept (Kone B) w w1 → KeepIn w1 keep ks) := Lib.hid hkB
  obtain ⟨Ab, capb, rfl, hb1, hb2, hb3, hb4⟩ := hbs
  obtain ⟨Ak, capk, rfl, -⟩ := hkeep
  have hmin : (if (2000 : Int) < (l.length : Int) then (2000 : Int) else (l.length : Int)) = ((min l.length 2000 : Nat) : Int) := min_natw l.length 2000
  have q1 : min l.length 2000 ≤ l.length := Nat.min_le_left _ _
  have hcut := Bs.cut HBS.out q1
  have hlm : (l.take (min l.length 2000)).length = min l.length 2000 := by rw [List.length_take]; omega
  have htk : l.take (min l.length 2000) = l.take 2000 := by
    by_cases hq : l.length ≤ 2000
    · rw [Nat.min_eq_left hq, List.take_of_length_le (Nat.le_refl _), List.take_of_length_le hq]
    · rw [Nat.min_eq_right (by omega)]
  rw [htk] at hcut hlm
  generalize min l.length 2000 = m at hmin q1 hcut hlm
  have q3 : m ≤ capb := by omega
  have q4 : (m : Int) ≤ (capb : Int) := by omega
  have q5 : (0 : Int) ≤ (m : Int) := by omega
  have n60 : l.length ≤ 9223372036854775807 := by simp only [maxLen] at hll; omega
  generalize l.take 2000 = L at hcut hlm ⊢
  subst hlm
  have HCUT := Lib.hid hcut
  clear h hkB hb2 hb3 hb4 hcut hll htk
  have hk1 : ∀ (o : Obj), Kept Kno w (w.alloc o) := fun o => (Kept.refl _ _).alloc o
  have HK1 := Lib.hid hk1
  clear hk1
  by_cases k1 : kind = 1
  · subst k1
    go_enter Try.func14, Try.ntmps14
    go_wp2_with fail
    refine (rappend_any file _ L (HI.out.kept0 (HK1.out _)) (Rd.kept0 HCUT.out (HK1.out _)) (by omega)).mono ?_
    rintro e w1 ⟨rfl, ht⟩
    have HT := Lib.hid (ht.before0 (HK1.out _))
    clear ht
    go_wp2
    go_ret2
    exact HT.out.model rfl
  · rw [if_neg k1]
    by_cases k2 : kind = 2
    · subst k2
      go_enter Try.func14, Try.ntmps14
      go_wp2_with fail
      refine (rtrunc_any file n (HI.out.kept0 (HK1.out _))).mono ?_
      rintro e w1 ⟨rfl, ht⟩
      have HT := Lib.hid (ht.before0 (HK1.out _))
      clear ht
      go_wp2
      go_ret2
      exact HT.out.model rfl
    · rw [if_neg k2]
      by_cases k3 : kind = 3
      · subst k3
        go_enter Try.func14, Try.ntmps14
        go_wp2_with fail
        refine (rreplace_any file _ L (HI.out.kept0 (HK1.out _)) (Rd.kept0 HCUT.out (HK1.out _)) (by omega)).mono ?_
        rintro e w1 ⟨rfl, ht⟩
        have HT := Lib.hid (ht.before0 (HK1.out _))
        clear ht
        go_wp2
        go_ret2
        exact HT.out.model rfl
      · rw [if_neg k3]
        by_cases k4 : kind = 4
        · subst k4
          go_enter Try.func14, Try.ntmps14
          go_wp2_with fail
          refine (rsync_any file (HI.out.kept0 (HK1.out _))).mono ?_
          rintro e w1 ⟨rfl, ht⟩
          have HT := Lib.hid (ht.before0 (HK1.out _))
          clear ht
          go_wp2
          go_ret2
          exact HT.out.model rfl
        · rw [if_neg k4]
          by_cases k5 : kind = 5
          · subst k5
            go_enter Try.func14, Try.ntmps14
            go_wp2_with fail
            refine (rfail_any n (HI.out.kept0 (HK1.out _)) hn).mono ?_
            rintro e w1 ⟨rfl, ht⟩
            have HT := Lib.hid (ht.before0 (HK1.out _))
            clear ht
            go_wp2
            go_ret2
            exact HT.out.model rfl
          · rw [if_neg k5]
            by_cases k6 : kind = 6
            · subst k6
              go_enter Try.func14, Try.ntmps14
              go_wp2_with fail
              refine (rcrash_any _ ks (HI.out.kept0 (HK1.out _)) (fun w1 hk => HK.out w1 (((HK1.out _).mono (T := Kone B) (fun _ _ e => e.elim)).trans hk (fun _ _ e => e)))).mono ?_
              rintro e w1 ⟨rfl, ht⟩
              have HT := Lib.hid (ht.before0 (HK1.out _))
              clear ht
              go_wp2
              go_ret2
              exact HT.out.model rfl
            · rw [if_neg k6]
              by_cases k7 : kind = 7
              · subst k7
                go_enter Try.func14, Try.ntmps14
                go_wp2_with fail
                refine (rcopy_any (HI.out.kept0 (HK1.out _))).mono ?_
                rintro e w1 ⟨us, rfl, hi, hk⟩
                have hlow := HI.out.low
                have hblt := HI.out.blk.lt
                have ht : RModelOk base B vs (a, 0) w (.returned (.tuple #[.pointer (some ⟨w.heap.size + 1, 0, none⟩), .int .i64 0])) w1 := by
                  have hz : (w.alloc (.cells #[.int .i64 7, .int .i64 file, .int .i64 n, .slice Ab l.length capb, .slice Ak ks.length capk] 33)).heap.size = w.heap.size + 1 := by simp
                  rw [hz] at hi
                  refine ⟨w.heap.size + 1, rfl, us, hi.rebase (by omega), fun v hv k hk' => .inr ?_, ((HK1.out _).then0 hk).mono (fun _ _ e => e.elim)⟩
                  have := hi.vlow hv hk'
                  omega
                have HT := Lib.hid ht
                clear ht hi
                go_wp2
                go_ret2
                exact HT.out
              · go_enter Try.func14, Try.ntmps14
                go_wp2_with fail
                go_ret2
                exact (HI.out.turn0 (HK1.out _)).model rfl


end Go.Proofs.Yteoodgcpkgfomaa
