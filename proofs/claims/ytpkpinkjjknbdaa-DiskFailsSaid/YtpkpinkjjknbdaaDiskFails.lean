/-
  DiskFails: the walk: for every room, every list of calls and every number the law returns true, and changes nothing that was there.
-/
import Derived.Test.YtpkpinkjjknbdaaDiskKeeps
import Derived.Test.YtpkpinkjjknbdaaDiskCopies
namespace Go.Proofs.Ytpkpinkjjknbdaa
open Go.RowKit
set_option linter.unusedVariables false

/-- A call of kind 1 to 4 at a disk whose power is on: refused whatever the plan, or a change through the gate. -/
theorem play_core (c : CallD) (h1 : 1 ≤ c.kind) (h2 : c.kind ≤ 4) (room : Int) (fs : List (List UInt8 × Nat)) :
    (∃ e : Int, e ≠ 0 ∧ ∀ plan, (⟨room, fs, false, plan⟩ : Ab).play c = (⟨room, fs, false, plan⟩, e)) ∨
    (∃ (i : Nat) (new : List UInt8 × Nat), ∀ plan, (⟨room, fs, false, plan⟩ : Ab).play c = gateOf ⟨room, fs, false, plan⟩ (decide (c.kind = 1)) i new) := by
  have hk : c.kind = 1 ∨ c.kind = 2 ∨ c.kind = 3 ∨ c.kind = 4 := by omega
  by_cases hc : checkOf false c.file ≠ 0
  · refine .inl ⟨checkOf false c.file, hc, fun plan => ?_⟩
    rcases hk with hk | hk | hk | hk <;> simp [Ab.play, Ab.append, Ab.trunc, Ab.replace, Ab.sync, hk, hc]
  · rcases hk with hk | hk | hk | hk
    · by_cases hf : room - ((⟨room, fs, false, 0⟩ : Ab).used : Int) < (c.l.take 2000).length
      · refine .inl ⟨221, by decide, fun plan => ?_⟩
        have hf2 : room - ((⟨room, fs, false, plan⟩ : Ab).used : Int) < (c.l.take 2000).length := hf
        simp only [Ab.play, Ab.append, hk, if_true]
        rw [if_neg hc, if_pos hf2]
      · refine .inr ⟨c.file.toNat, (((⟨room, fs, false, 0⟩ : Ab).file c.file.toNat).1 ++ c.l.take 2000, ((⟨room, fs, false, 0⟩ : Ab).file c.file.toNat).2), fun plan => ?_⟩
        · have hf2 : ¬ room - ((⟨room, fs, false, plan⟩ : Ab).used : Int) < (c.l.take 2000).length := hf
          simp only [Ab.play, Ab.append, hk, if_true]
          rw [if_neg hc, if_neg hf2]
          rfl
    · have e1 : ¬ c.kind = 1 := by omega
      by_cases hf : c.n < 0 ∨ (((⟨room, fs, false, 0⟩ : Ab).file c.file.toNat).1.length : Int) < c.n
      · refine .inl ⟨1, by decide, fun plan => ?_⟩
        have hf2 : c.n < 0 ∨ (((⟨room, fs, false, plan⟩ : Ab).file c.file.toNat).1.length : Int) < c.n := hf
        simp only [Ab.play, Ab.trunc]
        rw [if_neg e1, if_pos hk, if_neg hc, if_pos hf2]
      · refine .inr ⟨c.file.toNat, (((⟨room, fs, false, 0⟩ : Ab).file c.file.toNat).1.take c.n.toNat, c.n.toNat), fun plan => ?_⟩
        · have hf2 : ¬ (c.n < 0 ∨ (((⟨room, fs, false, plan⟩ : Ab).file c.file.toNat).1.length : Int) < c.n) := hf
          simp only [Ab.play, Ab.trunc]
          rw [if_neg e1, if_pos hk, if_neg hc, if_neg hf2, decide_eq_false e1]
          rfl
    · have e1 : ¬ c.kind = 1 := by omega
      have e2 : ¬ c.kind = 2 := by omega
      by_cases hf : room - (((⟨room, fs, false, 0⟩ : Ab).used : Int) - ((⟨room, fs, false, 0⟩ : Ab).file c.file.toNat).1.length) < (c.l.take 2000).length
      · refine .inl ⟨221, by decide, fun plan => ?_⟩
        have hf2 : room - (((⟨room, fs, false, plan⟩ : Ab).used : Int) - ((⟨room, fs, false, plan⟩ : Ab).file c.file.toNat).1.length) < (c.l.take 2000).length := hf
        simp only [Ab.play, Ab.replace]
        rw [if_neg e1, if_neg e2, if_pos hk, if_neg hc, if_pos hf2]
      · refine .inr ⟨c.file.toNat, (c.l.take 2000, (c.l.take 2000).length), fun plan => ?_⟩
        · have hf2 : ¬ room - (((⟨room, fs, false, plan⟩ : Ab).used : Int) - ((⟨room, fs, false, plan⟩ : Ab).file c.file.toNat).1.length) < (c.l.take 2000).length := hf
          simp only [Ab.play, Ab.replace]
          rw [if_neg e1, if_neg e2, if_pos hk, if_neg hc, if_neg hf2, decide_eq_false e1]
    · have e1 : ¬ c.kind = 1 := by omega
      have e2 : ¬ c.kind = 2 := by omega
      have e3 : ¬ c.kind = 3 := by omega
      refine .inr ⟨c.file.toNat, (((⟨room, fs, false, 0⟩ : Ab).file c.file.toNat).1, ((⟨room, fs, false, 0⟩ : Ab).file c.file.toNat).1.length), fun plan => ?_⟩
      · simp only [Ab.play, Ab.sync]
        rw [if_neg e1, if_neg e2, if_neg e3, if_pos hk, if_neg hc, decide_eq_false e1]
        rfl
theorem play_off (c : CallD) (h1 : 1 ≤ c.kind) (h2 : c.kind ≤ 4) (y : Ab) (hy : y.off = true) : y.play c = (y, 220) := by
  have hk : c.kind = 1 ∨ c.kind = 2 ∨ c.kind = 3 ∨ c.kind = 4 := by omega
  have hc : checkOf y.off c.file = 220 := by rw [hy]; rfl
  rcases hk with hk | hk | hk | hk <;> simp [Ab.play, Ab.append, Ab.trunc, Ab.replace, Ab.sync, hk, hc]
theorem append_nil_ok (a : Ab) (h1 : a.off = false) (h2 : a.plan = 0) (h3 : (a.used : Int) ≤ a.room) : (a.append 0 []).2 = 0 := by
  unfold Ab.append
  rw [h1, if_neg (by decide), if_neg (by simp; omega)]
  unfold gateOf
  rw [if_pos h2]

theorem dk_apart {w : World} {Ba Bb Ba' : Nat} {fa fb fa' : List File} (h : ∀ k, DK Ba fa k → ¬ DK Bb fb k) (hd : ∀ k, DK Ba' fa' k → DK Ba fa k ∨ w.heap.size ≤ k) (hb : ∀ k, DK Bb fb k → k < w.heap.size) : ∀ k, DK Ba' fa' k → ¬ DK Bb fb k := fun k h1 h2 => by
  rcases hd k h1 with h3 | h3
  · exact h k h3 h2
  · have := hb k h2; omega

def FailsRel (w : World) (R : Int) (n Ba Bb : Nat) (lv i : Value) (wr : World) : Prop :=
  ∃ (k : Nat) (left : Int) (fa fb : List File) (F : List (List UInt8 × Nat)) (y : Ab), k ≤ n ∧ i = .int .i64 k ∧ lv = .int .i64 left ∧ 0 ≤ left ∧ left ≤ 40 ∧
    Is wr w.heap.size Ba fa ⟨R, F, false, 0⟩ ∧ Is wr w.heap.size Bb fb y ∧ Kept Kno w wr ∧ (∀ k, DK Ba fa k → ¬ DK Bb fb k) ∧ ((0 < left → y = ⟨R, F, false, left⟩) ∧ (left = 0 → y.off = true))

set_option maxRecDepth 100000 in
set_option maxHeartbeats 8000000 in
theorem fails_walk (r : Int) (hr0 : 0 ≤ r) (hr1 : r ≤ 65535) (cv : Value) (cs : List CallD) (un : Int) (hu0 : 0 ≤ un) (hu1 : un ≤ 255) (w : World) (hin : CallsIn w cv cs) :
    Calls Try.prog 8 #[.int .u16 r, cv, .int .u8 un] w (RetNew (.bool true) w) := by
  obtain ⟨A, cap, rfl, hlc, hcm, hnil, hcells⟩ := hin
  have HC := Lib.hid hcells
  have m4 : cap ≤ 9223372036854775807 := by simp only [maxLen] at hcm; omega
  obtain ⟨n, hmin, q1, q2⟩ : ∃ m : Nat, (if (200 : Int) < (cs.length : Int) then (200 : Int) else (cs.length : Int)) = (m : Int) ∧ m ≤ cs.length ∧ m ≤ 200 := min_nat cs.length 200
  have q3 : n ≤ cap := by omega
  have q4 : (n : Int) ≤ (cap : Int) := by omega
  have q5 : (0 : Int) ≤ (n : Int) := by omega
  have ncs : cs.length ≤ 9223372036854775807 := by omega
  clear hcells hnil hcm
  have hm0 : 0 ≤ r % 4001 := Int.emod_nonneg _ (by decide)
  have hm1 : r % 4001 ≤ 4000 := by have := Int.emod_lt_of_pos r (show (0 : Int) < 4001 by decide); omega
  have hL0 : 0 ≤ un % 40 := Int.emod_nonneg _ (by decide)
  have hL1 : un % 40 < 40 := Int.emod_lt_of_pos un (by decide)
  go_enter Try.func8, Try.ntmps8
  go_wp2_with fail
  refine (made_any r _ hr0 hr1).mono ?_
  rintro e w1 ⟨rfl, hw1⟩
  have hk1 : Kept Kno w w1 := by rw [hw1]; exact (Kept.refl _ _).alloc _
  have hi1 : Is w1 w.heap.size w.heap.size (List.replicate 8 noFile) (ab0 (r % 4001)) := by rw [hw1]; exact is_new w _ _ (Nat.le_refl _) hm0 (by omega)
  have HI1 := Lib.hid hi1
  clear hw1 hi1
  go_wp2_with fail
  refine (made_any r _ hr0 hr1).mono ?_
  rintro e w2 ⟨rfl, hw2⟩
  have hkk2 : Kept Kno w1 w2 := by rw [hw2]; exact (Kept.refl _ _).alloc _
  have hi2 : Is w2 w.heap.size w1.heap.size (List.replicate 8 noFile) (ab0 (r % 4001)) := by rw [hw2]; exact is_new w1 _ _ hk1.size hm0 (by omega)
  have hk2 : Kept Kno w w2 := hk1.then0 hkk2
  have HA2 := Lib.hid (HI1.out.kept0 hkk2)
  have HB2 := Lib.hid hi2
  have hap : ∀ k, DK w.heap.size (List.replicate 8 noFile) k → ¬ DK w1.heap.size (List.replicate 8 noFile) k := fun k h1 h2 => by
    have h3 := (HI1.out.low h1).2
    rcases h2 with h2 | ⟨f, hf, h2⟩
    · omega
    · rw [List.eq_of_mem_replicate hf] at h2
      simp [noFile, Value.ownBlock] at h2
  have HAP := Lib.hid hap
  clear hw2 hi2 hkk2 HI1 hap
  generalize hR : r % 4001 = R at HA2 HB2 hm0 hm1
  have hb0 : ∀ n : Int, 0 < n → (ab0 R).fail n = ⟨R, List.replicate 8 ([], 0), false, n⟩ := fun n hn => by simp [Ab.fail, ab0, hn]
  have HB0 := Lib.hid hb0
  clear hb0
  generalize hLL : un % 40 = L0 at hL0 hL1
  go_wp2_with fail
  refine (fail_any (1 + L0) (by omega) HB2.out).mono ?_
  rw [HB0.out (1 + L0) (by omega)]
  rintro e w3 ⟨rfl, ht⟩
  obtain ⟨fs3, hi3, hkk3, hdk3⟩ := ht.is
  have hk3 : Kept Kno w w3 := HB2.out.kept hk2 (Nat.le_refl _) hkk3
  have HB3 := Lib.hid hi3
  have HA3 := Lib.hid (HA2.out.keptRow hkk3 HAP.out)
  have hap3 : ∀ k, DK w.heap.size (List.replicate 8 noFile) k → ¬ DK w1.heap.size fs3 k := fun k h1 h2 => dk_apart (fun k h1 h2 => HAP.out k h2 h1) hdk3 (fun k h => (HA2.out.low h).2) k h2 h1
  have HAP3 := Lib.hid hap3
  clear ht hi3 hkk3 hdk3 hap3 HA2 HB2 HAP HB0
  generalize w1.heap.size = Bb at HB3 HAP3
  go_wp2_with fail
  go_loopw [9, 42] (fun lv i wr => FailsRel w R n w.heap.size Bb lv i wr) (fun _ i _ => n - (intOf i).toNat)
  case atStart => exact ⟨0, 1 + L0, _, fs3, List.replicate 8 ([], 0), _, Nat.zero_le _, rfl, rfl, by omega, by omega, HA3.out, HB3.out, hk3, HAP3.out, ⟨fun _ => rfl, fun h => by omega⟩⟩
  case round =>
    obtain ⟨k, left, fa, fb, F, y, hk, rfl, rfl, hle0, hle1, hia, hib, hkr, hapr, hph⟩ := hrel
    have HA := Lib.hid hia
    have HB := Lib.hid hib
    have HAP := Lib.hid hapr
    have HPH := Lib.hid hph
    clear hia hib hapr hph
    by_cases hlt : k < n
    · have hlowa := HA.out.1.low
      have hlowb := HB.out.1.low
      obtain ⟨c, hc⟩ : ∃ c, cs[k]? = some c := ⟨cs[k]'(by omega), List.getElem?_eq_getElem _⟩
      have HCK := Lib.hid hc
      obtain ⟨g, o, rfl, hat⟩ := HC.out (by omega)
      obtain ⟨c0, c1, c2, c3, c4, hok⟩ := (hat k c hc).kept hkr
      obtain ⟨kind, file, nn, b, l, keep, ks⟩ := c
      have hokw := (hat k _ hc).2.2.2.2.2
      simp only at c0 c1 c2 c3 c4
      obtain ⟨hbs, hll, hkeep, hnn⟩ := hok
      simp only at hbs hll hkeep hnn
      obtain ⟨Ab, capb, rfl, hb1, -⟩ := hbs
      obtain ⟨Ak, capk, rfl, -⟩ := hkeep
      have hk0 : (0 : Int) ≤ (k : Int) := by omega
      have hk9 : (k : Int) < (n : Int) := by omega
      have HOK := Lib.hid hokw
      clear hokw hat hc
      by_cases hkd : 1 ≤ kind ∧ kind ≤ 4
      · obtain ⟨hkd1, hkd2⟩ := hkd
        have hkd3 : ¬ kind < 1 := by omega
        have hkd4 : ¬ 4 < kind := by omega
        go_wp2_with fail
        have hkA : Kept Kno w (wr.alloc (.cells #[.int .i64 kind, .int .i64 file, .int .i64 nn, .slice Ab l.length capb, .slice Ak ks.length capk] 45)) := hkr.alloc _
        have hkrA : Kept Kno wr (wr.alloc (.cells #[.int .i64 kind, .int .i64 file, .int .i64 nn, .slice Ab l.length capb, .slice Ak ks.length capk] 45)) := (Kept.refl _ _).alloc _
        have HBA := Lib.hid (Blk.new wr 45 #[.int .i64 kind, .int .i64 file, .int .i64 nn, .slice Ab l.length capb, .slice Ak ks.length capk])
        have hzA : wr.heap.size < (wr.alloc (.cells #[.int .i64 kind, .int .i64 file, .int .i64 nn, .slice Ab l.length capb, .slice Ak ks.length capk] 45)).heap.size := by simp
        generalize (wr.alloc (.cells #[.int .i64 kind, .int .i64 file, .int .i64 nn, .slice Ab l.length capb, .slice Ak ks.length capk] 45)) = wA at hkA hkrA HBA hzA ⊢
        clear c0 c1 c2 c3 c4
        have HAA := Lib.hid (HA.out.kept0 hkrA)
        have HBB := Lib.hid (HB.out.kept0 hkrA)
        have hfa0 : ∀ hi, Far wA.heap.size hi w.heap.size fa := fun hi => HAA.out.far hi
        have hfb0 : ∀ hi, Far wA.heap.size hi Bb fb := fun hi => HBB.out.far hi
        have HFA0 := Lib.hid hfa0
        have HFB0 := Lib.hid hfb0
        have hqa : ¬ DK w.heap.size fa wr.heap.size := fun h => by have := (HA.out.low h).2; omega
        have hqb : ¬ DK Bb fb wr.heap.size := fun h => by have := (HB.out.low h).2; omega
        clear hfa0 hfb0
        refine (files_any w.heap.size w.heap.size fa _ wA HAA.out).mono ?_
        rintro e w4 ⟨v, vs, rfl, hls, hkk4⟩
        have hk4 : Kept Kno w w4 := hkA.then0 hkk4
        have HA4 := Lib.hid (HAA.out.kept0 hkk4)
        have HB4 := Lib.hid (HBB.out.kept0 hkk4)
        have HLS := Lib.hid hls
        have HQ4 := Lib.hid (HBA.out.kept hkk4 (fun h => h))
        have hs4 := hkk4.size
        have d0 := HQ4.out.cell 0
        have d1 := HQ4.out.cell 1
        have d2 := HQ4.out.cell 2
        have d3 := HQ4.out.cell 3
        have d4 := HQ4.out.cell 4
        simp only [List.getElem?_toArray, List.getElem?_cons_succ, List.getElem?_cons_zero] at d0 d1 d2 d3 d4
        clear hls hkk4 HAA HBB
        go_wp2_with fail
        refine (play_same w.heap.size w.heap.size fa _ ⟨kind, file, nn, .slice Ab l.length capb, l, .slice Ak ks.length capk, ks⟩ w4 HA4.out (HOK.out.kept0 hk4) (fun w1 h => keep_far HOK.out.2.2.1 hk4 hlowa h) (by simp only; omega)).mono ?_
        rintro e w5 ⟨rfl, ht5⟩
        obtain ⟨fa5, hi5, hkk5, hdk5⟩ := ht5.is
        have hk5 : Kept Kno w w5 := HA4.out.kept hk4 (Nat.le_refl _) hkk5
        have HA5 := Lib.hid hi5
        have HB5 := Lib.hid (HB4.out.keptRow hkk5 (fun k h1 h2 => HAP.out k h2 h1))
        have HAP5 : Hid (∀ k, DK w.heap.size fa5 k → ¬ DK Bb fb k) := Lib.hid (dk_apart HAP.out hdk5 (fun k h => (HB4.out.low h).2))
        have hkO5 : Kept (Out wA.heap.size w4.heap.size) w4 w5 := Out.step (Kept.refl _ _) hkk5 (HFA0.out _)
        have HFA5 := Lib.hid ((HFA0.out w4.heap.size).step hdk5 (Nat.le_refl _))
        have HQ5 := Lib.hid (HQ4.out.kept hkk5 hqa)
        have hs5 := hkk5.size
        clear ht5 hi5 hkk5 hdk5 HA4 HB4 d0 d1 d2 d3 d4 HQ4 hqa
        have d0 := HQ5.out.cell 0
        have d1 := HQ5.out.cell 1
        have d2 := HQ5.out.cell 2
        have d3 := HQ5.out.cell 3
        have d4 := HQ5.out.cell 4
        simp only [List.getElem?_toArray, List.getElem?_cons_succ, List.getElem?_cons_zero] at d0 d1 d2 d3 d4
        have HOFF := Lib.hid (play_off ⟨kind, file, nn, .slice Ab l.length capb, l, .slice Ak ks.length capk, ks⟩ hkd1 hkd2 y)
        have HCORE := Lib.hid (play_core ⟨kind, file, nn, .slice Ab l.length capb, l, .slice Ak ks.length capk, ks⟩ hkd1 hkd2 R F)
        generalize hpx : ((⟨R, F, false, 0⟩ : Go.Proofs.Ytpkpinkjjknbdaa.Ab).play ⟨kind, file, nn, .slice Ab l.length capb, l, .slice Ak ks.length capk, ks⟩) = px at HA5 ⊢
        obtain ⟨x', zx⟩ := px
        have HPX := Lib.hid hpx
        clear hpx
        simp only at HA5 ⊢
        go_wp2_with fail
        refine (play_same w.heap.size Bb fb y ⟨kind, file, nn, .slice Ab l.length capb, l, .slice Ak ks.length capk, ks⟩ w5 HB5.out (HOK.out.kept0 hk5) (fun w1 h => keep_far HOK.out.2.2.1 hk5 hlowb h) (by simp only; omega)).mono ?_
        rintro e w6 ⟨rfl, ht6⟩
        obtain ⟨fb6, hi6, hkk6, hdk6⟩ := ht6.is
        have hk6 : Kept Kno w w6 := HB5.out.kept hk5 (Nat.le_refl _) hkk6
        have HB6 := Lib.hid hi6
        have HA6 := Lib.hid (HA5.out.keptRow hkk6 HAP5.out)
        have HAP6 : Hid (∀ k, DK w.heap.size fa5 k → ¬ DK Bb fb6 k) := Lib.hid (fun k h1 h2 => dk_apart (fun k h1 h2 => HAP5.out k h2 h1) hdk6 (fun k h => (HA5.out.low h).2) k h2 h1)
        have hkO6 := Out.step hkO5 hkk6 (HFB0.out _)
        have HQ6 := Lib.hid (HQ5.out.kept hkk6 hqb)
        clear ht6 hi6 hkk6 hdk6 HA5 HB5 d0 d1 d2 d3 d4 HQ5 hqb HAP5
        have d0 := HQ6.out.cell 0
        simp only [List.getElem?_toArray, List.getElem?_cons_zero] at d0
        by_cases hl0 : left = 0
        · subst hl0
          have hyo := HPH.out.2 rfl
          have hyp := HOFF.out hyo
          rw [hyp] at HB6 ⊢
          simp only at HB6 ⊢
          have HYO := Lib.hid hyo
          -- the state of a goes on: some disk without plan
          have hax : ∃ F', x' = (⟨R, F', false, 0⟩ : Go.Proofs.Ytpkpinkjjknbdaa.Ab) := by
            have h9 := HPX.out
            rcases HCORE.out with ⟨e, he, hall⟩ | ⟨i, new, hall⟩
            · rw [hall 0] at h9; injection h9 with h9 _; exact ⟨F, h9.symm⟩
            · rw [hall 0] at h9; simp only [gateOf, if_true] at h9; injection h9 with h9 _; exact ⟨_, h9.symm⟩
          obtain ⟨F', hF'⟩ := hax
          subst hF'
          clear hyo hyp HOFF
          go_wp2_with fail
          refine (off_any _ y.off _ HB6.out.1.c_off).mono ?_
          rw [HYO.out]
          rintro e w7 ⟨rfl, rfl⟩
          go_wp2
          go_roundw
          case rel => exact ⟨k + 1, 0, fa5, fb6, F', y, by omega, by go_num, rfl, by omega, by omega, HA6.out, HB6.out, hk6, HAP6.out, ⟨fun h => by omega, fun _ => HYO.out⟩⟩
          case measure => simp [intOf]; omega
        · have hl1 : 1 ≤ left := by omega
          have hl2 : (left == 0) = false := by simpa using hl0
          have hyeq := HPH.out.1 (by omega)
          subst hyeq
          rcases HCORE.out with ⟨e, he, hall⟩ | ⟨i, new, hall⟩
          · -- refused
            have h9 := HPX.out
            rw [hall 0] at h9
            injection h9 with h9 h10
            subst h9 h10
            rw [hall left] at HB6 ⊢
            simp only at HB6 ⊢
            have he1 : (e == 0) = false := by simpa using he
            have he2 : (e != 0) = true := by simpa using he
            clear hall HOFF HCORE HPX
            go_wp2_with fail
            refine (off_any _ false _ HB6.out.1.c_off).mono ?_
            rintro e' w7 ⟨rfl, rfl⟩
            go_wp2
            go_roundw
            case rel => exact ⟨k + 1, left, fa5, fb6, F, _, by omega, by go_num, rfl, by omega, by omega, HA6.out, HB6.out, hk6, HAP6.out, ⟨fun _ => rfl, fun h => by omega⟩⟩
            case measure => simp [intOf]; omega
          · -- a change
            have h9 := HPX.out
            rw [hall 0] at h9
            simp only [gateOf, if_true] at h9
            injection h9 with h9 h10
            subst h9 h10
            have hyl := hall left
            have hlen8 : (F.map (·.1)).length = 8 := by have := HA.out.ls_len; exact this
            have hlen8' : ((F.set i new).map (·.1)).length = 8 := by have := HA6.out.ls_len; exact this
            have HL8 := Lib.hid hlen8
            have HL8' := Lib.hid hlen8'
            clear hall HOFF HCORE HPX hlen8 hlen8'
            by_cases hl3 : left = 1
            · subst hl3
              simp only [gateOf, if_true, if_neg (show ¬ ((1 : Int) = 0) by decide)] at hyl
              rw [hyl] at HB6 ⊢
              simp only at HB6 ⊢
              clear hyl
              by_cases hk1' : kind = 1
              · subst hk1'
                simp only [decide_true, if_true] at HB6
                go_wp2_with fail
                refine (files_any w.heap.size w.heap.size fa5 _ w6 HA6.out).mono ?_
                rintro e w7 ⟨v7, vs7, rfl, hls7, hkk7⟩
                have hk7 : Kept Kno w w7 := hk6.then0 hkk7
                have HA7 := Lib.hid (HA6.out.kept0 hkk7)
                have HB7 := Lib.hid (HB6.out.kept0 hkk7)
                have HL7 := Lib.hid hls7
                have e0 := hkk7.cell_some d0 (fun h => h)
                clear hls7 hkk7 d0 HA6 HB6
                go_wp2_with fail
                refine (off_any _ true _ HB7.out.1.c_off).mono ?_
                rintro e w8 ⟨rfl, rfl⟩
                go_wp2_with fail
                refine (files_any w.heap.size Bb fb6 _ w7 HB7.out).mono ?_
                rintro e w8 ⟨v8, vs8, rfl, hls8, hkk8⟩
                have hk8 : Kept Kno w w8 := hk7.then0 hkk8
                have HA8 := Lib.hid (HA7.out.kept0 hkk8)
                have HB8 := Lib.hid (HB7.out.kept0 hkk8)
                have HL8a := Lib.hid hls8
                have HL7a := Lib.hid (HL7.out.kept0 hkk8)
                clear hls8 hkk8 HA7 HB7 HL7
                go_wp2_with fail
                refine (same_any _ _ _ _ _ _ _ _ w8 HL8a.out HL7a.out (Nat.le_trans (Nat.le_of_eq HL8'.out) (by omega)) (Nat.le_trans (Nat.le_of_eq HL8'.out) (by omega))).mono ?_
                rw [decide_eq_true (by rfl)]
                rintro e w9 ⟨rfl, hkk9⟩
                have HA9 := Lib.hid (HA8.out.kept0 hkk9)
                have HB9 := Lib.hid (HB8.out.kept0 hkk9)
                have hk9' : Kept Kno w w9 := hk8.then0 hkk9
                go_wp2
                go_roundw
                case rel => exact ⟨k + 1, 0, fa5, fb6, F.set i new, _, by omega, by go_num, rfl, by omega, by omega, HA9.out, HB9.out, hk9', HAP6.out, ⟨fun h => by omega, fun _ => rfl⟩⟩
                case measure => simp [intOf]; omega
              · have hkb1 : (kind == 1) = false := by simpa using hk1'
                have hkb2 : (kind != 1) = true := by simpa using hk1'
                simp only [decide_eq_false hk1', Bool.false_eq_true, if_false] at HB6
                clear hk1'
                go_wp2_with fail
                refine (files_any w.heap.size w.heap.size fa5 _ w6 HA6.out).mono ?_
                rintro e w7 ⟨v7, vs7, rfl, hls7, hkk7⟩
                have hk7 : Kept Kno w w7 := hk6.then0 hkk7
                have HA7 := Lib.hid (HA6.out.kept0 hkk7)
                have HB7 := Lib.hid (HB6.out.kept0 hkk7)
                have hkO7 := Out.step0 hkO6 hkk7
                have e0 := hkk7.cell_some d0 (fun h => h)
                clear hls7 hkk7 d0 HA6 HB6
                go_wp2_with fail
                refine (off_any _ true _ HB7.out.1.c_off).mono ?_
                rintro e w8 ⟨rfl, rfl⟩
                go_wp2_with fail
                refine (files_any w.heap.size Bb fb6 _ w7 HB7.out).mono ?_
                rintro e w8 ⟨v8, vs8, rfl, hls8, hkk8⟩
                have hk8 : Kept Kno w w8 := hk7.then0 hkk8
                have HA8 := Lib.hid (HA7.out.kept0 hkk8)
                have HB8 := Lib.hid (HB7.out.kept0 hkk8)
                have HL8a := Lib.hid hls8
                have HL7a := Lib.hid (HLS.out.out (Out.step0 hkO7 hkk8))
                clear hls8 hkk8 HA7 HB7
                go_wp2_with fail
                refine (same_any _ _ _ _ _ _ _ _ w8 HL8a.out HL7a.out (Nat.le_trans (Nat.le_of_eq HL8.out) (by omega)) (Nat.le_trans (Nat.le_of_eq HL8.out) (by omega))).mono ?_
                rw [decide_eq_true (by rfl)]
                rintro e w9 ⟨rfl, hkk9⟩
                have HA9 := Lib.hid (HA8.out.kept0 hkk9)
                have HB9 := Lib.hid (HB8.out.kept0 hkk9)
                have hk9' : Kept Kno w w9 := hk8.then0 hkk9
                go_wp2
                go_roundw
                case rel => exact ⟨k + 1, 0, fa5, fb6, F.set i new, _, by omega, by go_num, rfl, by omega, by omega, HA9.out, HB9.out, hk9', HAP6.out, ⟨fun h => by omega, fun _ => rfl⟩⟩
                case measure => simp [intOf]; omega
            · simp only [gateOf, if_neg hl0, if_neg hl3] at hyl
              rw [hyl] at HB6 ⊢
              simp only at HB6 ⊢
              have hl4 : ((left - 1 : Int) == 0) = false := by simp; omega
              have hl5 : (left == 1) = false := by simpa using hl3
              clear hyl hl3 hl0
              go_wp2_with fail
              refine (files_any w.heap.size w.heap.size fa5 _ w6 HA6.out).mono ?_
              rintro e w7 ⟨v7, vs7, rfl, hls7, hkk7⟩
              have hk7 : Kept Kno w w7 := hk6.then0 hkk7
              have HA7 := Lib.hid (HA6.out.kept0 hkk7)
              have HB7 := Lib.hid (HB6.out.kept0 hkk7)
              have HL7 := Lib.hid hls7
              clear hls7 hkk7 d0 HA6 HB6
              go_wp2_with fail
              refine (off_any _ false _ HB7.out.1.c_off).mono ?_
              rintro e w8 ⟨rfl, rfl⟩
              go_wp2_with fail
              refine (files_any w.heap.size Bb fb6 _ w7 HB7.out).mono ?_
              rintro e w8 ⟨v8, vs8, rfl, hls8, hkk8⟩
              have hk8 : Kept Kno w w8 := hk7.then0 hkk8
              have HA8 := Lib.hid (HA7.out.kept0 hkk8)
              have HB8 := Lib.hid (HB7.out.kept0 hkk8)
              have HL8a := Lib.hid hls8
              have HL7a := Lib.hid (HL7.out.kept0 hkk8)
              clear hls8 hkk8 HA7 HB7 HL7
              go_wp2_with fail
              refine (same_any _ _ _ _ _ _ _ _ w8 HL8a.out HL7a.out (Nat.le_trans (Nat.le_of_eq HL8'.out) (by omega)) (Nat.le_trans (Nat.le_of_eq HL8'.out) (by omega))).mono ?_
              rw [decide_eq_true (by rfl)]
              rintro e w9 ⟨rfl, hkk9⟩
              have HA9 := Lib.hid (HA8.out.kept0 hkk9)
              have HB9 := Lib.hid (HB8.out.kept0 hkk9)
              have hk9' : Kept Kno w w9 := hk8.then0 hkk9
              go_wp2
              go_roundw
              case rel => exact ⟨k + 1, left - 1, fa5, fb6, F.set i new, _, by omega, by go_num, rfl, by omega, by omega, HA9.out, HB9.out, hk9', HAP6.out, ⟨fun _ => rfl, fun h => by simp at hl5; omega⟩⟩
              case measure => simp [intOf]; omega
      · by_cases hkd3 : kind < 1
        · go_wp2_with fail
          have hkA : Kept Kno w (wr.alloc (.cells #[.int .i64 kind, .int .i64 file, .int .i64 nn, .slice Ab l.length capb, .slice Ak ks.length capk] 45)) := hkr.alloc _
          have hkrA : Kept Kno wr (wr.alloc (.cells #[.int .i64 kind, .int .i64 file, .int .i64 nn, .slice Ab l.length capb, .slice Ak ks.length capk] 45)) := (Kept.refl _ _).alloc _
          have HBA := Lib.hid (Blk.new wr 45 #[.int .i64 kind, .int .i64 file, .int .i64 nn, .slice Ab l.length capb, .slice Ak ks.length capk])
          have hzA : wr.heap.size < (wr.alloc (.cells #[.int .i64 kind, .int .i64 file, .int .i64 nn, .slice Ab l.length capb, .slice Ak ks.length capk] 45)).heap.size := by simp
          generalize (wr.alloc (.cells #[.int .i64 kind, .int .i64 file, .int .i64 nn, .slice Ab l.length capb, .slice Ak ks.length capk] 45)) = wA at hkA hkrA HBA hzA ⊢
          clear c0 c1 c2 c3 c4
          go_roundw
          case rel => exact ⟨k + 1, left, fa, fb, F, y, by omega, by go_num, rfl, by omega, by omega, HA.out.kept0 hkrA, HB.out.kept0 hkrA, hkA, HAP.out, HPH.out⟩
          case measure => simp [intOf]; omega
        · have hkd4 : 4 < kind := by omega
          go_wp2_with fail
          have hkA : Kept Kno w (wr.alloc (.cells #[.int .i64 kind, .int .i64 file, .int .i64 nn, .slice Ab l.length capb, .slice Ak ks.length capk] 45)) := hkr.alloc _
          have hkrA : Kept Kno wr (wr.alloc (.cells #[.int .i64 kind, .int .i64 file, .int .i64 nn, .slice Ab l.length capb, .slice Ak ks.length capk] 45)) := (Kept.refl _ _).alloc _
          have HBA := Lib.hid (Blk.new wr 45 #[.int .i64 kind, .int .i64 file, .int .i64 nn, .slice Ab l.length capb, .slice Ak ks.length capk])
          have hzA : wr.heap.size < (wr.alloc (.cells #[.int .i64 kind, .int .i64 file, .int .i64 nn, .slice Ab l.length capb, .slice Ak ks.length capk] 45)).heap.size := by simp
          generalize (wr.alloc (.cells #[.int .i64 kind, .int .i64 file, .int .i64 nn, .slice Ab l.length capb, .slice Ak ks.length capk] 45)) = wA at hkA hkrA HBA hzA ⊢
          clear c0 c1 c2 c3 c4
          go_roundw
          case rel => exact ⟨k + 1, left, fa, fb, F, y, by omega, by go_num, rfl, by omega, by omega, HA.out.kept0 hkrA, HB.out.kept0 hkrA, hkA, HAP.out, HPH.out⟩
          case measure => simp [intOf]; omega
    · have hk9 : ¬ (k : Int) < (n : Int) := by omega
      go_wp2_with fail
      refine (crash_any _ [] HB.out (fun w1 _ => keep_nil w1)).mono ?_
      rintro e w4 ⟨rfl, ht⟩
      obtain ⟨fb4, hi4, hkk4, hdk4⟩ := ht.is
      have hk4 : Kept Kno w w4 := HB.out.kept hkr (Nat.le_refl _) hkk4
      have HB4 := Lib.hid hi4
      have hok : ((y.crash []).append 0 []).2 = 0 := append_nil_ok _ rfl rfl (by have h1 := HB4.out.1.fits; rw [HB4.out.used] at h1; exact h1)
      have HOK4 := Lib.hid hok
      clear ht hi4 hkk4 hdk4 hok
      go_wp2_with fail
      refine (off_any _ false _ HB4.out.1.c_off).mono ?_
      rintro e w5 ⟨rfl, rfl⟩
      go_wp2_with fail
      refine (append_any 0 _ [] HB4.out ⟨none, 0, rfl, Nat.le_refl _, rfl, fun _ => ⟨rfl, rfl⟩, fun ad h => by cases h⟩).mono ?_
      rintro e w5 ⟨he, ht⟩
      rw [HOK4.out] at he
      subst he
      obtain ⟨fb5, hi5, hkk5, -⟩ := ht.is
      have hk5 : Kept Kno w w5 := HB4.out.kept hk4 (Nat.le_refl _) hkk5
      clear ht hi5 hkk5
      go_wp2_with fail
      refine (begun_any _).mono ?_
      rintro e w6 ⟨rfl, hk6⟩
      go_wp2
      go_ret
      exact ⟨rfl, hk5.then0 hk6⟩

theorem fails_final (r : Int) (cv : Value) (cs : List CallD) (un : Int) (w : World) (hr : (Lit.int .u16 r).wf = true) (hin : CallsIn w cv cs) (hu : (Lit.int .u8 un).wf = true) :
    Calls Try.prog 8 #[.int .u16 r, cv, .int .u8 un] w (RetNew (.bool true) w) := by
  have hx : 0 ≤ r ∧ r ≤ 65535 := by simpa [Lit.wf, IntKind.min, IntKind.max, IntKind.signed, IntKind.bits] using hr
  have hy : 0 ≤ un ∧ un ≤ 255 := by simpa [Lit.wf, IntKind.min, IntKind.max, IntKind.signed, IntKind.bits] using hu
  exact fails_walk r hx.1 hx.2 cv cs un hy.1 hy.2 w hin
end Go.Proofs.Ytpkpinkjjknbdaa

