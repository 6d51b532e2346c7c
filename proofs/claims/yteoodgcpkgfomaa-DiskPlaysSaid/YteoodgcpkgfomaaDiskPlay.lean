/-
  Disk: the contract of play, and of made.
-/
import Derived.Test.YteoodgcpkgfomaaDiskIn
import Derived.Test.YteoodgcpkgfomaaDiskK
namespace Go.Proofs.Yteoodgcpkgfomaa
open Go.RowKit
set_option linter.unusedVariables false

/-- A call, as the document knows it. -/
def Ab.play (a : Ab) (c : CallD) : Ab × Int :=
  if c.kind = 1 then a.append c.file (c.l.take 2000)
  else if c.kind = 2 then a.trunc c.file c.n
  else if c.kind = 3 then a.replace c.file (c.l.take 2000)
  else if c.kind = 4 then a.sync c.file
  else if c.kind = 5 then (a.fail c.n, 0)
  else if c.kind = 6 then (a.crash c.ks, 0)
  else (a, 0)

/-- What a call of a disk leaves, the disk perhaps in another block. -/
def TurnB (base B : Nat) (fs : List File) (a : Ab) (B' : Nat) (w w' : World) : Prop :=
  ∃ fs', Is w' base B' fs' a ∧ Kept (DK B fs) w w' ∧ ∀ k, DK B' fs' k → DK B fs k ∨ w.heap.size ≤ k

def PlayOk (base B : Nat) (fs : List File) (p : Ab × Int) (w : World) (e : Ending) (w' : World) : Prop :=
  ∃ B', e = .returned (.tuple #[.pointer (some ⟨B', 0, none⟩), .int .i64 p.2]) ∧ TurnB base B fs p.1 B' w w'

/-- The same, and that the disk lies where it lay, but for a copy. -/
def PlayOk2 (base B : Nat) (fs : List File) (kind : Int) (p : Ab × Int) (w : World) (e : Ending) (w' : World) : Prop :=
  ∃ B', e = .returned (.tuple #[.pointer (some ⟨B', 0, none⟩), .int .i64 p.2]) ∧ TurnB base B fs p.1 B' w w' ∧ (kind ≠ 7 → B' = B)

theorem Turn.b {base B : Nat} {fs : List File} {a : Ab} {w w' : World} (h : Turn base B fs a w w') : TurnB base B fs a B w w' := h.is
theorem TurnB.before0 {base B B' : Nat} {fs : List File} {a : Ab} {w w1 w' : World} (h : TurnB base B fs a B' w1 w') (hk : Kept Kno w w1) : TurnB base B fs a B' w w' := by
  obtain ⟨fs', h1, h2, h3⟩ := h
  refine ⟨fs', h1, (hk.mono (T := DK B fs) (fun _ _ e => e.elim)).trans h2 (fun _ _ e => e), fun k hk' => ?_⟩
  rcases h3 k hk' with e | e
  · exact .inl e
  · exact .inr (Nat.le_trans hk.size e)

theorem copy_turn {base B : Nat} {fs : List File} {a : Ab} {w : World} (h : Is w base B fs a) :
    Calls Try.prog 54 #[.pointer (some ⟨B, 0, none⟩)] w fun e w' => ∃ gs, e = .returned (.pointer (some ⟨w.heap.size, 0, none⟩)) ∧ Is w' w.heap.size w.heap.size gs a ∧ Kept Kno w w' :=
  (copy_any base B a.room a.plan fs a.off w h.1).mono fun e w' ⟨gs, h1, h2, h3, h4⟩ => ⟨gs, h1, ⟨h2, h3.trans h.2⟩, h4⟩
theorem Dsk.rebase {w : World} {base base' B : Nat} {room plan : Int} {fs : List File} {off : Bool} (h : Dsk w base B room fs off plan) (hb : base' ≤ base) : Dsk w base' B room fs off plan :=
  ⟨Nat.le_trans hb h.low, h.blk, h.len, fun f hf => ⟨own_rebase (h.files f hf).1 (fun k hk => Nat.le_trans hb (own_base (h.files f hf).1 hk).1), (h.files f hf).2⟩, h.apart, h.fits, h.room0, h.room1, h.plan0, h.plan1⟩
theorem Is.rebase {w : World} {base base' B : Nat} {fs : List File} {a : Ab} (h : Is w base B fs a) (hb : base' ≤ base) : Is w base' B fs a := ⟨h.1.rebase hb, h.2⟩

set_option maxHeartbeats 4000000 in
theorem play_any2 (base B : Nat) (fs : List File) (a : Ab) (c : CallD) (w : World) (h : Is w base B fs a) (hc : CallOk w c) (hkB : ∀ w1, Kept (Kone B) w w1 → KeepIn w1 c.keep c.ks) :
    Calls Try.prog 13 #[.pointer (some ⟨B, 0, none⟩), c.val] w (PlayOk2 base B fs c.kind (a.play c) w) := by
  obtain ⟨kind, file, n, b, l, keep, ks⟩ := c
  obtain ⟨hbs, hll, hkeep, hn⟩ := hc
  simp only [CallD.val, Ab.play] at hbs hll hkeep hn hkB ⊢
  have HI := Lib.hid h
  have HBS := Lib.hid hbs
  have HK : Hid (∀ w1, Kept (Kone B) w w1 → KeepIn w1 keep ks) := Lib.hid hkB
  obtain ⟨Ab, capb, rfl, hb1, hb2, hb3, hb4⟩ := hbs
  obtain ⟨Ak, capk, rfl, -⟩ := hkeep
  have hmin : (if (2000 : Int) < (l.length : Int) then (2000 : Int) else (l.length : Int)) = ((min l.length 2000 : Nat) : Int) := min_natw l.length 2000
  have q1 : min l.length 2000 ≤ l.length := Nat.min_le_left _ _
  have hcut := Bs.cut HBS.out q1
  have hlm : (l.take (min l.length 2000)).length = min l.length 2000 := by rw [List.length_take]; omega
  have htk : l.take (min l.length 2000) = l.take 2000 := by
    by_cases hq : l.length ≤ 2000
    · rw [Nat.min_eq_left hq, List.take_of_length_le (Nat.le_refl _), List.take_of_length_le hq]
    · rw [Nat.min_eq_right (by omega)]
  rw [htk] at hcut hlm
  generalize min l.length 2000 = m at hmin q1 hcut hlm
  have q3 : m ≤ capb := by omega
  have q4 : (m : Int) ≤ (capb : Int) := by omega
  have q5 : (0 : Int) ≤ (m : Int) := by omega
  have n60 : l.length ≤ 9223372036854775807 := by simp only [maxLen] at hll; omega
  generalize l.take 2000 = L at hcut hlm ⊢
  subst hlm
  have HCUT := Lib.hid hcut
  clear h hkB hb2 hb3 hb4 hcut hll htk
  have hk1 : ∀ (o : Obj), Kept Kno w (w.alloc o) := fun o => (Kept.refl _ _).alloc o
  have HK1 := Lib.hid hk1
  clear hk1
  by_cases k1 : kind = 1
  · subst k1
    go_enter Try.func13, Try.ntmps13
    go_wp2_with fail
    refine (append_any file _ L (HI.out.kept0 (HK1.out _)) (Rd.kept0 HCUT.out (HK1.out _))).mono ?_
    rintro e w1 ⟨rfl, ht⟩
    have HT := Lib.hid (ht.b.before0 (HK1.out _))
    clear ht
    go_wp2
    go_ret2
    exact ⟨B, rfl, HT.out, fun _ => rfl⟩
  · rw [if_neg k1]
    by_cases k2 : kind = 2
    · subst k2
      go_enter Try.func13, Try.ntmps13
      go_wp2_with fail
      refine (trunc_any file n (HI.out.kept0 (HK1.out _))).mono ?_
      rintro e w1 ⟨rfl, ht⟩
      have HT := Lib.hid (ht.b.before0 (HK1.out _))
      clear ht
      go_wp2
      go_ret2
      exact ⟨B, rfl, HT.out, fun _ => rfl⟩
    · rw [if_neg k2]
      by_cases k3 : kind = 3
      · subst k3
        go_enter Try.func13, Try.ntmps13
        go_wp2_with fail
        refine (replace_any file _ L (HI.out.kept0 (HK1.out _)) (Rd.kept0 HCUT.out (HK1.out _))).mono ?_
        rintro e w1 ⟨rfl, ht⟩
        have HT := Lib.hid (ht.b.before0 (HK1.out _))
        clear ht
        go_wp2
        go_ret2
        exact ⟨B, rfl, HT.out, fun _ => rfl⟩
      · rw [if_neg k3]
        by_cases k4 : kind = 4
        · subst k4
          go_enter Try.func13, Try.ntmps13
          go_wp2_with fail
          refine (sync_any file (HI.out.kept0 (HK1.out _))).mono ?_
          rintro e w1 ⟨rfl, ht⟩
          have HT := Lib.hid (ht.b.before0 (HK1.out _))
          clear ht
          go_wp2
          go_ret2
          exact ⟨B, rfl, HT.out, fun _ => rfl⟩
        · rw [if_neg k4]
          by_cases k5 : kind = 5
          · subst k5
            go_enter Try.func13, Try.ntmps13
            go_wp2_with fail
            refine (fail_any n hn (HI.out.kept0 (HK1.out _))).mono ?_
            rintro e w1 ⟨rfl, ht⟩
            have HT := Lib.hid (ht.b.before0 (HK1.out _))
            clear ht
            go_wp2
            go_ret2
            exact ⟨B, rfl, HT.out, fun _ => rfl⟩
          · rw [if_neg k5]
            by_cases k6 : kind = 6
            · subst k6
              go_enter Try.func13, Try.ntmps13
              go_wp2_with fail
              refine (crash_any _ ks (HI.out.kept0 (HK1.out _)) (fun w1 hk => HK.out w1 (((HK1.out _).mono (T := Kone B) (fun _ _ e => e.elim)).trans hk (fun _ _ e => e)))).mono ?_
              rintro e w1 ⟨rfl, ht⟩
              have HT := Lib.hid (ht.b.before0 (HK1.out _))
              clear ht
              go_wp2
              go_ret2
              exact ⟨B, rfl, HT.out, fun _ => rfl⟩
            · rw [if_neg k6]
              by_cases k7 : kind = 7
              · subst k7
                go_enter Try.func13, Try.ntmps13
                go_wp2_with fail
                refine (copy_turn (HI.out.kept0 (HK1.out _))).mono ?_
                rintro e w1 ⟨gs, rfl, hi, hk⟩
                have hlow := HI.out.1.low
                have hblt := HI.out.1.blk.lt
                have ht : TurnB base B fs a (w.heap.size + 1) w w1 := by
                  have hz : (w.alloc (.cells #[.int .i64 7, .int .i64 file, .int .i64 n, .slice Ab l.length capb, .slice Ak ks.length capk] 33)).heap.size = w.heap.size + 1 := by simp
                  rw [hz] at hi
                  refine ⟨gs, hi.rebase (by omega), ((HK1.out _).then0 hk).mono (fun _ _ e => e.elim), fun k hk' => .inr ?_⟩
                  have := (hi.low hk').1
                  omega
                have HT := Lib.hid ht
                clear ht hi
                go_wp2
                go_ret2
                exact ⟨w.heap.size + 1, rfl, HT.out, fun h => absurd rfl h⟩
              · go_enter Try.func13, Try.ntmps13
                go_wp2_with fail
                go_ret2
                exact ⟨B, rfl, (HI.out.turn0 (HK1.out _)).b, fun _ => rfl⟩

theorem play_any (base B : Nat) (fs : List File) (a : Ab) (c : CallD) (w : World) (h : Is w base B fs a) (hc : CallOk w c) (hkB : ∀ w1, Kept (Kone B) w w1 → KeepIn w1 c.keep c.ks) :
    Calls Try.prog 13 #[.pointer (some ⟨B, 0, none⟩), c.val] w (PlayOk base B fs (a.play c) w) :=
  (play_any2 base B fs a c w h hc hkB).mono fun e w' ⟨B', h1, h2, _⟩ => ⟨B', h1, h2⟩
theorem play_same (base B : Nat) (fs : List File) (a : Ab) (c : CallD) (w : World) (h : Is w base B fs a) (hc : CallOk w c) (hkB : ∀ w1, Kept (Kone B) w w1 → KeepIn w1 c.keep c.ks) (h7 : c.kind ≠ 7) :
    Calls Try.prog 13 #[.pointer (some ⟨B, 0, none⟩), c.val] w fun e w' => e = .returned (.tuple #[.pointer (some ⟨B, 0, none⟩), .int .i64 (a.play c).2]) ∧ Turn base B fs (a.play c).1 w w' :=
  (play_any2 base B fs a c w h hc hkB).mono fun e w' ⟨B', h1, ⟨fs', h2, h3, h4⟩, h5⟩ => by
    obtain rfl := h5 h7
    exact ⟨h1, fs', h2.1, h2.2, h3, h4⟩

set_option maxHeartbeats 800000 in
theorem made_any (r : Int) (w : World) (h0 : 0 ≤ r) (h1 : r ≤ 65535) :
    Calls Try.prog 11 #[.int .u16 r] w fun e w' =>
      e = .returned (.pointer (some ⟨w.heap.size, 0, none⟩)) ∧ w' = w.alloc (.cells (dCells (r % 4001) (List.replicate 8 noFile) false 0).toArray 87) := by
  have hm0 : 0 ≤ r % 4001 := Int.emod_nonneg _ (by decide)
  have hm1 : r % 4001 < 4001 := Int.emod_lt_of_pos _ (by decide)
  go_enter Try.func11, Try.ntmps11
  go_wp2_with fail
  refine (new_ok _ _ (by omega) (by omega)).mono ?_
  rintro e w1 ⟨rfl, hw1⟩
  have HW := Lib.hid hw1
  clear hw1
  go_wp2
  go_ret
  exact ⟨rfl, HW.out⟩

end Go.Proofs.Yteoodgcpkgfomaa
