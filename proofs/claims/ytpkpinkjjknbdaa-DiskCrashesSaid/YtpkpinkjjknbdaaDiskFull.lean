/-
  DiskFull: the walk: for every room and every list of calls the law returns true, and changes nothing that was there.
-/
import Derived.Test.YtpkpinkjjknbdaaDiskL
import Derived.Test.YtpkpinkjjknbdaaDiskAb
import Derived.Deep.CutBlock
namespace Go.Proofs.Ytpkpinkjjknbdaa
open Go.RowKit
set_option linter.unusedVariables false

/-- Between two calls of a law on one disk. -/
def MidRel (w : World) (room : Int) (n : Nat) (d i : Value) (wr : World) : Prop :=
  ∃ (k B : Nat) (fs : List File) (a : Ab), k ≤ n ∧ i = .int .i64 k ∧ d = .pointer (some ⟨B, 0, none⟩) ∧ Is wr w.heap.size B fs a ∧ a.room = room ∧ Kept Kno w wr

theorem keep_far {w w' w1 : World} {B : Nat} {v : Value} {ks : List Int} (h : KeepIn w v ks) (hk : Kept Kno w w') (hB : w.heap.size ≤ B) (h1 : Kept (Kone B) w' w1) : KeepIn w1 v ks :=
  h.kept0 (hk.trans h1 (fun i hi e => by unfold Kone at e; omega))

theorem file_ls (a : Ab) (i : Nat) (x : List UInt8) (h : a.ls[i]? = some x) : (a.file i).1 = x := by
  simp only [Ab.ls, List.getElem?_map] at h
  cases hq : a.fs[i]? with
  | none => rw [hq] at h; cases h
  | some f =>
    rw [hq] at h
    simp only [Option.map_some, Option.some.injEq] at h
    simp [Ab.file, List.getD, hq, h]

theorem Is.ls_len {w : World} {base B : Nat} {fs : List File} {a : Ab} (h : Is w base B fs a) : a.ls.length = 8 := by simp only [Ab.ls, List.length_map]; exact h.len

theorem call_at {w wr : World} {A : Option Addr} {cs : List CallD} {g o : Nat} {i : Nat} {c : CallD} (h : CallAt w g o c) (hk : Kept Kno w wr) : CallAt wr g o c := h.kept hk

set_option maxRecDepth 100000 in
set_option maxHeartbeats 4000000 in
theorem full_walk (r : Int) (hr0 : 0 ≤ r) (hr1 : r ≤ 65535) (cv : Value) (cs : List CallD) (w : World) (hin : CallsIn w cv cs) :
    Calls Try.prog 5 #[.int .u16 r, cv] w (RetNew (.bool true) w) := by
  obtain ⟨A, cap, rfl, hlc, hcm, hnil, hcells⟩ := hin
  have HC := Lib.hid hcells
  have HNil := Lib.hid hnil
  have m4 : cap ≤ 9223372036854775807 := by simp only [maxLen] at hcm; omega
  obtain ⟨n, hmin, q1, q2⟩ : ∃ m : Nat, (if (200 : Int) < (cs.length : Int) then (200 : Int) else (cs.length : Int)) = (m : Int) ∧ m ≤ cs.length ∧ m ≤ 200 := min_nat cs.length 200
  have q3 : n ≤ cap := by omega
  have q4 : (n : Int) ≤ (cap : Int) := by omega
  have q5 : (0 : Int) ≤ (n : Int) := by omega
  have hm0 : 0 ≤ r % 4001 := Int.emod_nonneg _ (by decide)
  have hm1 : r % 4001 ≤ 4000 := by have := Int.emod_lt_of_pos r (show (0 : Int) < 4001 by decide); omega
  have ncs : cs.length ≤ 9223372036854775807 := by omega
  clear hcells hnil hcm
  go_enter Try.func5, Try.ntmps5
  go_wp2_with fail
  refine (made_any r _ hr0 hr1).mono ?_
  rintro e w1 ⟨rfl, hw1⟩
  have hk1 : Kept Kno w w1 := by rw [hw1]; exact (Kept.refl _ _).alloc _
  have hi1 : Is w1 w.heap.size w.heap.size (List.replicate 8 noFile) (ab0 (r % 4001)) := by rw [hw1]; exact is_new w _ _ (Nat.le_refl _) hm0 (by omega)
  have HI1 := Lib.hid hi1
  clear hw1 hi1
  generalize hR : r % 4001 = R at HI1 hm0 hm1
  go_wp2_with fail
  go_loopw [5, 22] (fun d i wr => MidRel w R n d i wr) (fun _ i _ => n - (intOf i).toNat)
  case atStart => exact ⟨0, w.heap.size, _, _, Nat.zero_le _, rfl, rfl, HI1.out, rfl, hk1⟩
  case round =>
    obtain ⟨k, B, fs, a, hk, rfl, rfl, hi, hroom, hkr⟩ := hrel
    have HI := Lib.hid hi
    have HR := Lib.hid hroom
    clear hi hroom
    by_cases hlt : k < n
    · obtain ⟨c, hc⟩ : ∃ c, cs[k]? = some c := ⟨cs[k]'(by omega), List.getElem?_eq_getElem _⟩
      obtain ⟨g, o, rfl, hat⟩ := HC.out (by omega)
      obtain ⟨c0, c1, c2, c3, c4, hok⟩ := (hat k c hc).kept hkr
      obtain ⟨kind, file, nn, b, l, keep, ks⟩ := c
      have hblk : g < w.heap.size := World.block_lt_of_cell? w _ (hat k _ hc).1
      have hokw := (hat k _ hc).2.2.2.2.2
      simp only at c0 c1 c2 c3 c4
      obtain ⟨hbs, hll, hkeep, hnn⟩ := hok
      simp only at hbs hll hkeep hnn
      have HBS := Lib.hid hbs
      have HKE := Lib.hid hkeep
      obtain ⟨Ab, capb, rfl, hb1, -⟩ := hbs
      obtain ⟨Ak, capk, rfl, -⟩ := hkeep
      have hk0 : (0 : Int) ≤ (k : Int) := by omega
      have hk9 : (k : Int) < (n : Int) := by omega
      clear hat hc
      have hlow := HI.out.1.low
      have hBlt := HI.out.1.blk.lt
      have HOK := Lib.hid hokw
      clear hokw HBS HKE
      go_wp2_with fail
      have hkA : Kept Kno w (wr.alloc (.cells #[.int .i64 kind, .int .i64 file, .int .i64 nn, .slice Ab l.length capb, .slice Ak ks.length capk] 45)) := hkr.alloc _
      have HIA := Lib.hid (HI.out.kept0 ((Kept.refl Kno wr).alloc (.cells #[.int .i64 kind, .int .i64 file, .int .i64 nn, .slice Ab l.length capb, .slice Ak ks.length capk] 45)))
      have HBA := Lib.hid (Blk.new wr 45 #[.int .i64 kind, .int .i64 file, .int .i64 nn, .slice Ab l.length capb, .slice Ak ks.length capk])
      have hzA : wr.heap.size < (wr.alloc (.cells #[.int .i64 kind, .int .i64 file, .int .i64 nn, .slice Ab l.length capb, .slice Ak ks.length capk] 45)).heap.size := by simp
      have hdkA : ∀ k, DK B fs k → k < wr.heap.size := fun k h => (HI.out.low h).2
      have HDKA := Lib.hid hdkA
      generalize (wr.alloc (.cells #[.int .i64 kind, .int .i64 file, .int .i64 nn, .slice Ab l.length capb, .slice Ak ks.length capk] 45)) = wA at hkA HIA HBA hzA ⊢
      clear hdkA c0 c1 c2 c3 c4
      refine (files_any w.heap.size B fs a wA HIA.out).mono ?_
      rintro e w2 ⟨v, vs, rfl, hls, hkk2⟩
      have hk2 : Kept Kno w w2 := hkA.then0 hkk2
      have HI2 := Lib.hid (HIA.out.kept0 hkk2)
      have HB2 := Lib.hid (HBA.out.kept hkk2 (fun h => h))
      have HLS := Lib.hid hls
      have hs2 := hkk2.size
      clear hls hkk2
      go_wp2_with fail
      refine (used_any w.heap.size B a.room a.plan fs a.off w2 HI2.out.1).mono ?_
      rw [HI2.out.used]
      rintro e w3 ⟨rfl, rfl⟩
      have d0 := HB2.out.cell 0
      have d1 := HB2.out.cell 1
      have d2 := HB2.out.cell 2
      have d3 := HB2.out.cell 3
      have d4 := HB2.out.cell 4
      simp only [List.getElem?_toArray, List.getElem?_cons_succ, List.getElem?_cons_zero] at d0 d1 d2 d3 d4
      go_wp2_with fail
      refine (play_any w.heap.size B fs a ⟨kind, file, nn, .slice Ab l.length capb, l, .slice Ak ks.length capk, ks⟩ w2 HI2.out (HOK.out.kept0 hk2) (fun w1 h => keep_far HOK.out.2.2.1 hk2 hlow h)).mono ?_
      rintro e w3 ⟨B', rfl, fs', hi3, hkk3, -⟩
      have hk3 : Kept Kno w w3 := HI2.out.kept hk2 (Nat.le_refl _) hkk3
      have HI3 := Lib.hid hi3
      have HB3 := Lib.hid (HB2.out.kept hkk3 (fun h => absurd (HDKA.out _ h) (Nat.lt_irrefl _)))
      have HL3 := Lib.hid (HLS.out.kept hkk3 (fun k h1 h2 h => absurd (HDKA.out _ h) (by omega)))
      clear hi3 hkk3 HB2 HLS d0 d1 d2 d3 d4
      have hpr := play_room a ⟨kind, file, nn, .slice Ab l.length capb, l, .slice Ak ks.length capk, ks⟩
      rw [HR.out] at hpr
      have hpf := play_full a ⟨kind, file, nn, .slice Ab l.length capb, l, .slice Ak ks.length capk, ks⟩
      have HPR := Lib.hid hpr
      have HPF := Lib.hid hpf
      clear hpr hpf
      generalize (a.play ⟨kind, file, nn, .slice Ab l.length capb, l, .slice Ak ks.length capk, ks⟩) = p at HI3 HPR HPF ⊢
      obtain ⟨a', z⟩ := p
      simp only at HI3 HPR HPF ⊢
      have hu1 : (a'.used : Int) ≤ R := by
        have h1 := HI3.out.1.fits
        rw [HI3.out.used, HPR.out] at h1
        exact h1
      have hu2 : ¬ R < (a'.used : Int) := by omega
      go_wp2_with fail
      refine (used_any w.heap.size B' a'.room a'.plan fs' a'.off w3 HI3.out.1).mono ?_
      rw [HI3.out.used]
      rintro e w4 ⟨rfl, rfl⟩
      by_cases hz : z = 221
      · subst hz
        obtain ⟨ea, hcase⟩ := HPF.out rfl
        subst ea
        have hlen8 : a'.ls.length = 8 := HI3.out.ls_len
        obtain ⟨Av, capv, hvv⟩ := HL3.out.form
        rw [hlen8] at hvv
        have HVV := Lib.hid hvv
        have HL8 := Lib.hid hlen8
        have hmin2 : (if (2000 : Int) < (l.length : Int) then (2000 : Int) else (l.length : Int)) = ((min l.length 2000 : Nat) : Int) := min_natw l.length 2000
        have hlt2 : (l.take 2000).length = min l.length 2000 := by rw [List.length_take]; omega
        rw [hlt2] at hcase
        have y1 : min l.length 2000 ≤ l.length := Nat.min_le_left _ _
        have y2 : min l.length 2000 ≤ 2000 := Nat.min_le_right _ _
        generalize min l.length 2000 = m at hmin2 hcase y1 y2
        have y3 : (m : Int) ≤ (capb : Int) := by omega
        have y4 : m ≤ capb := by omega
        have y5 : (0 : Int) ≤ (m : Int) := by omega
        have y6 : l.length ≤ 9223372036854775807 := by simp only [maxLen] at hll; omega
        rw [HR.out] at hcase
        have d0 := HB3.out.cell 0
        have d1 := HB3.out.cell 1
        have d3 := HB3.out.cell 3
        simp only [List.getElem?_toArray, List.getElem?_cons_succ, List.getElem?_cons_zero] at d0 d1 d3
        clear HPF hlen8 hvv hlt2
        rcases hcase with ⟨rfl, hgt⟩ | ⟨rfl, hf0, hf1, hgt⟩
        · have hgt2 : ¬ ((a'.used : Int) + m ≤ R) := by omega
          go_wp2_with fail
          refine (files_any w.heap.size B' fs' a' w3 HI3.out).mono ?_
          rintro e w4 ⟨v4, vs4, rfl, hls4, hkk4⟩
          have hk4 : Kept Kno w w4 := hk3.then0 hkk4
          have HI4 := Lib.hid (HI3.out.kept0 hkk4)
          have HL4 := Lib.hid hls4
          have HL3' := Lib.hid (HL3.out.kept0 hkk4)
          clear hls4 hkk4 d0 d1 d3
          go_wp2_with fail
          refine (same_any _ _ _ _ _ _ a'.ls a'.ls w4 HL4.out HL3'.out (by rw [HL8.out]; omega) (by rw [HL8.out]; omega)).mono ?_
          rw [decide_eq_true (Eq.refl a'.ls)]
          rintro e w5 ⟨rfl, hk5⟩
          have HI5 := Lib.hid (HI4.out.kept0 hk5)
          go_wp2
          go_roundw
          case rel => exact ⟨k + 1, B', fs', a', by omega, by go_num, rfl, HI5.out, HPR.out, hk4.then0 hk5⟩
          case measure => simp [intOf]; omega
        · obtain ⟨fi, rfl⟩ : ∃ fi : Nat, file = (fi : Int) := ⟨file.toNat, by omega⟩
          rw [Int.toNat_natCast] at hgt
          have hvl : vs.length = 8 := by rw [HL3.out.2.1]; exact HL8.out
          obtain ⟨x, hx⟩ : ∃ x, vs[fi]? = some x := ⟨vs[fi]'(by omega), List.getElem?_eq_getElem _⟩
          obtain ⟨lx, hlx⟩ : ∃ lx, a'.ls[fi]? = some lx := ⟨a'.ls[fi]'(by rw [HL8.out]; omega), List.getElem?_eq_getElem _⟩
          obtain ⟨gv, cv, hvv, ev⟩ := HL3.out.at hx
          obtain ⟨Ax, cx, hxv⟩ := own_form (HL3.out.2.2 fi x lx hx hlx)
          subst hxv
          rw [hvl] at hvv
          subst hvv
          rw [file_ls a' fi lx hlx] at hgt
          have hlxu : lx.length ≤ 16777216 := by
            have h5 := file_ls a' fi lx hlx
            obtain ⟨f5, hf5, he5⟩ := HI3.out.file (i := fi) (by omega)
            have h6 := used_le (List.mem_of_getElem? hf5)
            have h7 := HI3.out.1.fits
            have h8 := HI3.out.1.room1
            rw [he5] at h5
            simp only [File.ab] at h5
            rw [← h5]
            omega
          have hgt2 : ¬ ((a'.used : Int) + m - lx.length ≤ R) := by omega
          clear hx hlx hvl
          go_wp2_with fail
          refine (files_any w.heap.size B' fs' a' w3 HI3.out).mono ?_
          rintro e w4 ⟨v4, vs4, rfl, hls4, hkk4⟩
          have hk4 : Kept Kno w w4 := hk3.then0 hkk4
          have HI4 := Lib.hid (HI3.out.kept0 hkk4)
          have HL4 := Lib.hid hls4
          have HL3' := Lib.hid (HL3.out.kept0 hkk4)
          clear hls4 hkk4 d0 d1 d3 ev
          go_wp2_with fail
          refine (same_any _ _ _ _ _ _ a'.ls a'.ls w4 HL4.out HL3'.out (by rw [HL8.out]; omega) (by rw [HL8.out]; omega)).mono ?_
          rw [decide_eq_true (Eq.refl a'.ls)]
          rintro e w5 ⟨rfl, hk5⟩
          have HI5 := Lib.hid (HI4.out.kept0 hk5)
          go_wp2
          go_roundw
          case rel => exact ⟨k + 1, B', fs', a', by omega, by go_num, rfl, HI5.out, HPR.out, hk4.then0 hk5⟩
          case measure => simp [intOf]; omega
      · have hz1 : (z == 221) = false := by simpa using hz
        have hz2 : ¬ z = 221 := hz
        clear hz
        go_wp2
        go_roundw
        case rel => exact ⟨k + 1, B', fs', a', by omega, by go_num, rfl, HI3.out, HPR.out, hk3⟩
        case measure => simp [intOf]; omega
    · have hk9 : ¬ (k : Int) < (n : Int) := by omega
      go_wp2_with fail
      refine (begun_any _).mono ?_
      rintro e w2 ⟨rfl, hk2⟩
      go_wp2
      go_ret
      exact ⟨rfl, hkr.then0 hk2⟩

theorem full_final (r : Int) (cv : Value) (cs : List CallD) (w : World) (hr : (Lit.int .u16 r).wf = true) (hin : CallsIn w cv cs) :
    Calls Try.prog 5 #[.int .u16 r, cv] w (RetNew (.bool true) w) := by
  have hx : 0 ≤ r ∧ r ≤ 65535 := by simpa [Lit.wf, IntKind.min, IntKind.max, IntKind.signed, IntKind.bits] using hr
  exact full_walk r hx.1 hx.2 cv cs w hin
end Go.Proofs.Ytpkpinkjjknbdaa
