/-
  DiskKeeps: the walk: for every room and every list of calls the law returns true, and changes nothing that was there.
-/
import Derived.Test.YtpkpinkjjknbdaaDiskFull
namespace Go.Proofs.Ytpkpinkjjknbdaa
open Go.RowKit
set_option linter.unusedVariables false

/-- The blocks outside of lo .. hi. -/
def Out (lo hi : Nat) : Nat → Prop := fun k => k < lo ∨ hi ≤ k
/-- A disk that has no block of lo .. hi. -/
def Far (lo hi B : Nat) (fs : List File) : Prop := ∀ k, lo ≤ k → k < hi → ¬ DK B fs k
theorem Far.step {lo hi B B' : Nat} {fs fs' : List File} {w : World} (h : Far lo hi B fs) (hd : ∀ k, DK B' fs' k → DK B fs k ∨ w.heap.size ≤ k) (hw : hi ≤ w.heap.size) : Far lo hi B' fs' := fun k h1 h2 h3 => by
  rcases hd k h3 with h4 | h4
  · exact h k h1 h2 h4
  · omega
theorem Out.step {lo hi B : Nat} {fs : List File} {w0 w w' : World} (h : Kept (Out lo hi) w0 w) (hk : Kept (DK B fs) w w') (hf : Far lo hi B fs) : Kept (Out lo hi) w0 w' :=
  h.trans hk (fun i hi hN => Classical.byContradiction fun hc => by unfold Out at hc; exact hf i (by omega) (by omega) hN)
theorem Out.step0 {lo hi : Nat} {w0 w w' : World} (h : Kept (Out lo hi) w0 w) (hk : Kept Kno w w') : Kept (Out lo hi) w0 w' := h.then0 hk
theorem Ls.out {w0 w : World} {lo : Nat} {v : Value} {vs : List Value} {ls : List (List UInt8)} (h : Ls w0 lo v vs ls) (hk : Kept (Out lo w0.heap.size) w0 w) : Ls w lo v vs ls :=
  h.kept hk (fun k h1 h2 h3 => by unfold Out at h3; omega)
theorem Is.far {w : World} {base B : Nat} {fs : List File} {a : Ab} (h : Is w base B fs a) (hi : Nat) : Far w.heap.size hi B fs := fun k h1 _ h3 => by have := (h.low h3).2; omega

/-- A disk that has no plan and whose files are synced. -/
def Calm (a : Ab) : Prop := a.off = false ∧ a.plan = 0 ∧ a.fs.length = 8 ∧ (∀ f ∈ a.fs, f.2 = f.1.length) ∧ (a.used : Int) ≤ a.room
theorem calm_file {a : Ab} (h : Calm a) {i : Nat} (hi : i < 8) : ∃ l, a.fs[i]? = some (l, l.length) ∧ a.file i = (l, l.length) := by
  have hl := h.2.2.1
  have hq : a.fs[i]? = some (a.fs[i]'(by omega)) := List.getElem?_eq_getElem _
  have h2 := h.2.2.2.1 _ (List.mem_of_getElem? hq)
  rcases hz : a.fs[i]'(by omega) with ⟨l, s⟩
  rw [hz] at hq h2
  simp only at h2
  subst h2
  exact ⟨l, hq, by simp [Ab.file, List.getD, hq]⟩
theorem set_same {α : Type} (l : List α) (i : Nat) (x : α) (h : l[i]? = some x) : l.set i x = l := by
  apply List.ext_getElem?
  intro j
  rw [List.getElem?_set]
  by_cases hj : i = j
  · subst hj
    have : i < l.length := (List.getElem?_eq_some_iff.1 h).1
    rw [if_pos rfl, if_pos this, h]
  · rw [if_neg hj]
theorem ab_eta (a : Ab) (fs : List (List UInt8 × Nat)) (h1 : fs = a.fs) (h3 : a.plan = 0) : (⟨a.room, fs, a.off, 0⟩ : Ab) = a := by
  obtain ⟨r, f, o, p⟩ := a
  simp only at h1 h3
  subst h1 h3
  rfl
theorem calm_append {a : Ab} (h : Calm a) {i : Nat} (hi : i < 8) : a.append i [] = (a, 0) := by
  obtain ⟨l, h1, h2⟩ := calm_file h hi
  unfold Ab.append
  rw [h.1, if_neg (by rw [checkOf_ok hi]; simp), if_neg (by have := h.2.2.2.2; simp; omega), Int.toNat_natCast, h2]
  unfold gateOf
  rw [if_pos h.2.1]
  simp only [List.append_nil]
  rw [set_same _ _ _ h1, ab_eta a _ rfl h.2.1]
theorem calm_sync {a : Ab} (h : Calm a) {i : Nat} (hi : i < 8) : a.sync i = (a, 0) := by
  obtain ⟨l, h1, h2⟩ := calm_file h hi
  unfold Ab.sync
  rw [h.1, if_neg (by rw [checkOf_ok hi]; simp), Int.toNat_natCast, h2]
  unfold gateOf
  rw [if_pos h.2.1]
  simp only
  rw [set_same _ _ _ h1, ab_eta a _ rfl h.2.1]
theorem calm_crash {a : Ab} (h : Calm a) : a.crash [] = a := by
  obtain ⟨r, f, o, p⟩ := a
  obtain ⟨h1, h2, h3, h4, h5⟩ := h
  simp only at h1 h2 h3 h4
  subst h1 h2
  unfold Ab.crash
  congr 1
  apply List.ext_getElem?
  intro i
  rw [crashTo_at]
  cases hq : f[i]? with
  | none => rfl
  | some x =>
    have hx := h4 x (List.mem_of_getElem? hq)
    obtain ⟨l, s⟩ := x
    simp only at hx
    subst hx
    simp only [Option.map_some, List.getElem?_nil, crashF, crashN, List.take_length, ite_self]
theorem crash_calm {w : World} {base B : Nat} {fs : List File} {a : Ab} (h : Is w base B fs a) : Calm (a.crash keepAll) ∧ (a.crash keepAll).ls = a.ls := by
  have e1 : (a.crash keepAll).fs = a.fs.map fun f => (f.1, f.1.length) := crash_all a.fs h.len h.sizes
  have e2 : (a.crash keepAll).used = a.used := by unfold Ab.used; rw [e1]; simp [Function.comp_def]
  refine ⟨⟨rfl, rfl, by rw [e1, List.length_map]; exact h.len, ?_, ?_⟩, ?_⟩
  · intro f hf
    rw [e1, List.mem_map] at hf
    obtain ⟨g, _, rfl⟩ := hf
    rfl
  · rw [e2, ← h.used]
    exact h.1.fits
  · unfold Ab.ls
    rw [e1]
    simp [Function.comp_def]

def KeepsRel (w w0 : World) (lo B : Nat) (a : Ab) (i : Value) (wr : World) : Prop :=
  ∃ (k : Nat) (fs : List File), k ≤ 8 ∧ i = .int .i64 k ∧ Is wr w.heap.size B fs a ∧ Kept Kno w wr ∧ Kept (Out lo w0.heap.size) w0 wr ∧ Far lo w0.heap.size B fs ∧ w0.heap.size ≤ wr.heap.size

set_option maxRecDepth 100000 in
set_option maxHeartbeats 4000000 in
theorem keeps_walk (r : Int) (hr0 : 0 ≤ r) (hr1 : r ≤ 65535) (cv : Value) (cs : List CallD) (w : World) (hin : CallsIn w cv cs) :
    Calls Try.prog 6 #[.int .u16 r, cv] w (RetNew (.bool true) w) := by
  obtain ⟨A, cap, rfl, hlc, hcm, hnil, hcells⟩ := hin
  have HC := Lib.hid hcells
  have HNil := Lib.hid hnil
  have m4 : cap ≤ 9223372036854775807 := by simp only [maxLen] at hcm; omega
  obtain ⟨n, hmin, q1, q2⟩ : ∃ m : Nat, (if (200 : Int) < (cs.length : Int) then (200 : Int) else (cs.length : Int)) = (m : Int) ∧ m ≤ cs.length ∧ m ≤ 200 := min_nat cs.length 200
  have q3 : n ≤ cap := by omega
  have q4 : (n : Int) ≤ (cap : Int) := by omega
  have q5 : (0 : Int) ≤ (n : Int) := by omega
  have hm0 : 0 ≤ r % 4001 := Int.emod_nonneg _ (by decide)
  have hm1 : r % 4001 ≤ 4000 := by have := Int.emod_lt_of_pos r (show (0 : Int) < 4001 by decide); omega
  have ncs : cs.length ≤ 9223372036854775807 := by omega
  clear hcells hnil hcm
  go_enter Try.func6, Try.ntmps6
  go_wp2_with fail
  refine (made_any r _ hr0 hr1).mono ?_
  rintro e w1 ⟨rfl, hw1⟩
  have hk1 : Kept Kno w w1 := by rw [hw1]; exact (Kept.refl _ _).alloc _
  have hi1 : Is w1 w.heap.size w.heap.size (List.replicate 8 noFile) (ab0 (r % 4001)) := by rw [hw1]; exact is_new w _ _ (Nat.le_refl _) hm0 (by omega)
  have HI1 := Lib.hid hi1
  clear hw1 hi1
  generalize hR : r % 4001 = R at HI1 hm0 hm1
  go_wp2_with fail
  go_loopw [5, 22] (fun d i wr => MidRel w R n d i wr) (fun _ i _ => n - (intOf i).toNat)
  case atStart => exact ⟨0, w.heap.size, _, _, Nat.zero_le _, rfl, rfl, HI1.out, rfl, hk1⟩
  case round =>
    obtain ⟨k, B, fs, a, hk, rfl, rfl, hi, hroom, hkr⟩ := hrel
    have HI := Lib.hid hi
    have HR := Lib.hid hroom
    clear hi hroom
    by_cases hlt : k < n
    · obtain ⟨c, hc⟩ : ∃ c, cs[k]? = some c := ⟨cs[k]'(by omega), List.getElem?_eq_getElem _⟩
      obtain ⟨g, o, rfl, hat⟩ := HC.out (by omega)
      obtain ⟨c0, c1, c2, c3, c4, hok⟩ := (hat k c hc).kept hkr
      obtain ⟨kind, file, nn, b, l, keep, ks⟩ := c
      have hblk : g < w.heap.size := World.block_lt_of_cell? w _ (hat k _ hc).1
      have hokw := (hat k _ hc).2.2.2.2.2
      simp only at c0 c1 c2 c3 c4
      obtain ⟨hbs, hll, hkeep, hnn⟩ := hok
      simp only at hbs hll hkeep hnn
      have HBS := Lib.hid hbs
      have HKE := Lib.hid hkeep
      obtain ⟨Ab, capb, rfl, hb1, -⟩ := hbs
      obtain ⟨Ak, capk, rfl, -⟩ := hkeep
      have hk0 : (0 : Int) ≤ (k : Int) := by omega
      have hk9 : (k : Int) < (n : Int) := by omega
      clear hat hc
      have hlow := HI.out.1.low
      have hBlt := HI.out.1.blk.lt
      have HOK := Lib.hid hokw
      clear hokw HBS HKE
      go_wp2_with fail
      have hkA : Kept Kno w (wr.alloc (.cells #[.int .i64 kind, .int .i64 file, .int .i64 nn, .slice Ab l.length capb, .slice Ak ks.length capk] 45)) := hkr.alloc _
      have HIA := Lib.hid (HI.out.kept0 ((Kept.refl Kno wr).alloc (.cells #[.int .i64 kind, .int .i64 file, .int .i64 nn, .slice Ab l.length capb, .slice Ak ks.length capk] 45)))
      have HBA := Lib.hid (Blk.new wr 45 #[.int .i64 kind, .int .i64 file, .int .i64 nn, .slice Ab l.length capb, .slice Ak ks.length capk])
      have hzA : wr.heap.size < (wr.alloc (.cells #[.int .i64 kind, .int .i64 file, .int .i64 nn, .slice Ab l.length capb, .slice Ak ks.length capk] 45)).heap.size := by simp
      have hdkA : ∀ k, DK B fs k → k < wr.heap.size := fun k h => (HI.out.low h).2
      have HDKA := Lib.hid hdkA
      generalize (wr.alloc (.cells #[.int .i64 kind, .int .i64 file, .int .i64 nn, .slice Ab l.length capb, .slice Ak ks.length capk] 45)) = wA at hkA HIA HBA hzA ⊢
      clear hdkA c0 c1 c2 c3 c4
      refine (play_any w.heap.size B fs a ⟨kind, file, nn, .slice Ab l.length capb, l, .slice Ak ks.length capk, ks⟩ wA HIA.out (HOK.out.kept0 hkA) (fun w1 h => keep_far HOK.out.2.2.1 hkA hlow h)).mono ?_
      rintro e w3 ⟨B', rfl, fs', hi3, hkk3, -⟩
      have hk3 : Kept Kno w w3 := HIA.out.kept hkA (Nat.le_refl _) hkk3
      have HI3 := Lib.hid hi3
      clear hi3 hkk3
      have hpr := play_room a ⟨kind, file, nn, .slice Ab l.length capb, l, .slice Ak ks.length capk, ks⟩
      rw [HR.out] at hpr
      have HPR := Lib.hid hpr
      clear hpr
      generalize (a.play ⟨kind, file, nn, .slice Ab l.length capb, l, .slice Ak ks.length capk, ks⟩) = p at HI3 HPR ⊢
      obtain ⟨a', z⟩ := p
      simp only at HI3 HPR ⊢
      go_wp2
      go_roundw
      case rel => exact ⟨k + 1, B', fs', a', by omega, by go_num, rfl, HI3.out, HPR.out, hk3⟩
      case measure => simp [intOf]; omega
    · have hk9 : ¬ (k : Int) < (n : Int) := by omega
      go_wp2_with fail
      refine (files_any w.heap.size B fs a wr HI.out).mono ?_
      rintro e w2 ⟨v, vs, rfl, hls, hkk2⟩
      have hk2 : Kept Kno w w2 := hkr.then0 hkk2
      have HI2 := Lib.hid (HI.out.kept0 hkk2)
      have HLS := Lib.hid hls
      have hs2 := hkk2.size
      have hf2 : Far wr.heap.size w2.heap.size B fs := HI.out.far _
      have HF2 := Lib.hid hf2
      have hBlt := HI.out.1.blk.lt
      have hdkA : ∀ k, DK B fs k → k < wr.heap.size := fun k h => (HI.out.low h).2
      have HDKA := Lib.hid hdkA
      have hlen8 : a.ls.length = 8 := HI.out.ls_len
      have HL8 := Lib.hid hlen8
      clear hls hkk2 hf2 hdkA hlen8
      generalize hlo : wr.heap.size = lo at HLS hs2 HF2 hBlt HDKA
      clear hlo HI hkr
      have mk := make8 w2
      go_wp2_with fail
      clear mk
      have hkA : Kept Kno w (w2.alloc (.cells #[Value.int .i64 0, Value.int .i64 0, Value.int .i64 0, Value.int .i64 0, Value.int .i64 0, Value.int .i64 0, Value.int .i64 0, Value.int .i64 0] 3)) := hk2.alloc _
      have hkO : Kept (Out lo w2.heap.size) w2 (w2.alloc (.cells #[Value.int .i64 0, Value.int .i64 0, Value.int .i64 0, Value.int .i64 0, Value.int .i64 0, Value.int .i64 0, Value.int .i64 0, Value.int .i64 0] 3)) := (Kept.refl _ _).alloc _
      have HIA := Lib.hid (HI2.out.kept0 ((Kept.refl Kno w2).alloc (.cells #[Value.int .i64 0, Value.int .i64 0, Value.int .i64 0, Value.int .i64 0, Value.int .i64 0, Value.int .i64 0, Value.int .i64 0, Value.int .i64 0] 3)))
      have HBA := Lib.hid (Blk.new w2 3 #[Value.int .i64 0, Value.int .i64 0, Value.int .i64 0, Value.int .i64 0, Value.int .i64 0, Value.int .i64 0, Value.int .i64 0, Value.int .i64 0])
      generalize w2.alloc (.cells #[Value.int .i64 0, Value.int .i64 0, Value.int .i64 0, Value.int .i64 0, Value.int .i64 0, Value.int .i64 0, Value.int .i64 0, Value.int .i64 0] 3) = wA at hkA HIA HBA hkO ⊢
      go_loopw [40] (fun i wr => FillRel w wA w2.heap.size i wr) (fun i _ => 8 - (intOf i).toNat)
      case atStart => exact ⟨0, by omega, rfl, Kept.refl _ _, HBA.out⟩
      case round =>
        obtain ⟨k', hk', rfl, hkk, hb⟩ := hrel
        by_cases hlt' : k' < 8
        · have c1 : ∃ x : Int, wr.cell? ⟨w2.heap.size, k', none⟩ = some (.int .i64 x) := by
            rw [hb.cell]
            rcases k' with _ | _ | _ | _ | _ | _ | _ | _ | k'
            all_goals first | exact ⟨_, rfl⟩ | omega
          obtain ⟨x, c1⟩ := c1
          have c2 := hb.frozen k'
          have hk0 : (0 : Int) ≤ (k' : Int) := by omega
          have hk8 : (k' : Int) < 8 := by omega
          have HB := Lib.hid hb
          have HKK := Lib.hid hkk
          clear hb hkk
          go_wp2
          go_roundw
          case rel => exact fill_step hlt' HKK.out HB.out
          case measure => simp [intOf]; omega
        · have hk8 : ¬ (k' : Int) < 8 := by omega
          obtain rfl : k' = 8 := by omega
          have hne : w2.heap.size ≠ B := by omega
          have hfn : ∀ f ∈ fs, ∀ k, f.v.ownBlock = some k → ¬ Kone w2.heap.size k := fun f hf k h1 h2 => by
            unfold Kone at h2
            have := HDKA.out k (.inr ⟨f, hf, h1⟩)
            omega
          have hiF : Is wr w.heap.size B fs a := ⟨HIA.out.1.kept hkk (fun h => hne h.symm) hfn, HIA.out.2⟩
          have hsA : w2.heap.size ≤ wA.heap.size := hkO.size
          have hkF : Kept Kno w wr := hkA.trans hkk (fun i hi h => by unfold Kone at h; have := hk2.size; omega)
          have hkOF : Kept (Out lo w2.heap.size) w2 wr := hkO.trans hkk (fun i hi h => by unfold Kone at h; omega)
          have hkeep : ∀ w3, Kept (Kone B) wr w3 → KeepIn w3 (.slice (some ⟨w2.heap.size, 0, none⟩) 8 8) keepAll := fun w3 h2 => keep_fill (hb.kept h2 hne)
          have HIF := Lib.hid hiF
          have HKP := Lib.hid hkeep
          have hsF := hkk.size
          clear hb hkk hfn hiF hkeep HIA HBA
          go_wp2_with fail
          refine (crash_any _ keepAll HIF.out HKP.out).mono ?_
          rintro e w3 ⟨rfl, ht⟩
          obtain ⟨fs3, hi3, hkk3, hdk3⟩ := ht.is
          have hk3 : Kept Kno w w3 := HIF.out.kept hkF (Nat.le_refl _) hkk3
          have hkO3 : Kept (Out lo w2.heap.size) w2 w3 := Out.step hkOF hkk3 HF2.out
          have hf3 : Far lo w2.heap.size B fs3 := HF2.out.step hdk3 (by omega)
          obtain ⟨hcalm, hcls⟩ := crash_calm HIF.out
          have HI3 := Lib.hid hi3
          have HF3 := Lib.hid hf3
          have HCA := Lib.hid hcalm
          have HCL := Lib.hid hcls
          have hs3 := hkk3.size
          generalize a.crash keepAll = a1 at HI3 HCA HCL
          clear ht hi3 hkk3 hdk3 hf3 hcalm hcls HIF HKP HF2
          go_wp2_with fail
          refine (files_any w.heap.size B fs3 a1 w3 HI3.out).mono ?_
          rw [HCL.out]
          rintro e w4 ⟨v4, vs4, rfl, hls4, hkk4⟩
          have hk4 : Kept Kno w w4 := hk3.then0 hkk4
          have hkO4 := Out.step0 hkO3 hkk4
          have HI4 := Lib.hid (HI3.out.kept0 hkk4)
          have HL4 := Lib.hid hls4
          have HLa := Lib.hid (HLS.out.out hkO4)
          have hs4 := hkk4.size
          clear hls4 hkk4 HI3
          go_wp2_with fail
          refine (same_any _ _ _ _ _ _ a.ls a.ls w4 HL4.out HLa.out (by rw [HL8.out]; omega) (by rw [HL8.out]; omega)).mono ?_
          rw [decide_eq_true (Eq.refl a.ls)]
          rintro e w5 ⟨rfl, hkk5⟩
          have hk5 : Kept Kno w w5 := hk4.then0 hkk5
          have hkO5 := Out.step0 hkO4 hkk5
          have HI5 := Lib.hid (HI4.out.kept0 hkk5)
          have hs5 := hkk5.size
          clear hkk5 HI4 HL4 HLa
          go_wp2_with fail
          go_loopw [11] (fun i wr => KeepsRel w w2 lo B a1 i wr) (fun i _ => 8 - (intOf i).toNat)
          case atStart => exact ⟨0, fs3, by omega, rfl, HI5.out, hk5, hkO5, HF3.out, hkO5.size⟩
          case round =>
            obtain ⟨j, fs6, hj, rfl, hi6, hk6, hkO6, hf6, hs6⟩ := hrel
            have HI6 := Lib.hid hi6
            have HF6 := Lib.hid hf6
            clear hi6 hf6
            by_cases hlt6 : j < 8
            · have hj0 : (0 : Int) ≤ (j : Int) := by omega
              have hj8 : (j : Int) < 8 := by omega
              go_wp2_with fail
              refine (append_any j _ [] HI6.out ⟨none, 0, rfl, Nat.le_refl _, rfl, fun _ => ⟨rfl, rfl⟩, fun ad h => by cases h⟩).mono ?_
              rw [calm_append HCA.out hlt6]
              rintro e w7 ⟨rfl, ht⟩
              obtain ⟨fs7, hi7, hkk7, hdk7⟩ := ht.is
              have hk7 : Kept Kno w w7 := HI6.out.kept hk6 (Nat.le_refl _) hkk7
              have hkO7 := Out.step hkO6 hkk7 HF6.out
              have HF7 := Lib.hid (HF6.out.step hdk7 hs6)
              have HI7 := Lib.hid hi7
              have hs7 := hkO7.size
              clear ht hi7 hkk7 hdk7 HI6 HF6
              go_wp2_with fail
              refine (sync_any j HI7.out).mono ?_
              rw [calm_sync HCA.out hlt6]
              rintro e w8 ⟨rfl, ht⟩
              obtain ⟨fs8, hi8, hkk8, hdk8⟩ := ht.is
              have hk8 : Kept Kno w w8 := HI7.out.kept hk7 (Nat.le_refl _) hkk8
              have hkO8 := Out.step hkO7 hkk8 HF7.out
              have HF8 := Lib.hid (HF7.out.step hdk8 hs7)
              have HI8 := Lib.hid hi8
              clear ht hi8 hkk8 hdk8 HI7 HF7
              go_wp2
              go_roundw
              case rel => exact ⟨j + 1, fs8, by omega, by go_num, HI8.out, hk8, hkO8, HF8.out, hkO8.size⟩
              case measure => simp [intOf]; omega
            · have hj8 : ¬ (j : Int) < 8 := by omega
              go_wp2_with fail
              refine (crash_any _ [] HI6.out (fun w1 _ => keep_nil w1)).mono ?_
              rw [calm_crash HCA.out]
              rintro e w7 ⟨rfl, ht⟩
              obtain ⟨fs7, hi7, hkk7, hdk7⟩ := ht.is
              have hk7 : Kept Kno w w7 := HI6.out.kept hk6 (Nat.le_refl _) hkk7
              have hkO7 := Out.step hkO6 hkk7 HF6.out
              have HI7 := Lib.hid hi7
              clear ht hi7 hkk7 hdk7 HI6 HF6
              go_wp2_with fail
              refine (files_any w.heap.size B fs7 a1 w7 HI7.out).mono ?_
              rw [HCL.out]
              rintro e w8 ⟨v8, vs8, rfl, hls8, hkk8⟩
              have hk8 : Kept Kno w w8 := hk7.then0 hkk8
              have HL8' := Lib.hid hls8
              have HLa := Lib.hid (HLS.out.out (Out.step0 hkO7 hkk8))
              clear hls8 hkk8 HI7
              go_wp2_with fail
              refine (same_any _ _ _ _ _ _ a.ls a.ls w8 HL8'.out HLa.out (by rw [HL8.out]; omega) (by rw [HL8.out]; omega)).mono ?_
              rw [decide_eq_true (Eq.refl a.ls)]
              rintro e w9 ⟨rfl, hkk9⟩
              have hk9' : Kept Kno w w9 := hk8.then0 hkk9
              go_wp2_with fail
              refine (begun_any _).mono ?_
              rintro e w10 ⟨rfl, hk10⟩
              go_wp2
              go_ret
              exact ⟨rfl, hk9'.then0 hk10⟩

theorem keeps_final (r : Int) (cv : Value) (cs : List CallD) (w : World) (hr : (Lit.int .u16 r).wf = true) (hin : CallsIn w cv cs) :
    Calls Try.prog 6 #[.int .u16 r, cv] w (RetNew (.bool true) w) := by
  have hx : 0 ≤ r ∧ r ≤ 65535 := by simpa [Lit.wf, IntKind.min, IntKind.max, IntKind.signed, IntKind.bits] using hr
  exact keeps_walk r hx.1 hx.2 cv cs w hin
end Go.Proofs.Ytpkpinkjjknbdaa
