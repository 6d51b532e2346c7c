/-
  DiskCopies: the walk: for every room and all lists of calls the law returns true, and changes nothing that was there.
-/
import Derived.Test.YtpkpinkjjknbdaaDiskKeeps
namespace Go.Proofs.Ytpkpinkjjknbdaa
open Go.RowKit
set_option linter.unusedVariables false

theorem info_errno : (Try.prog.info? 24).map (fun i => (i.zero, i.size, i.bytes)) = some (some (.int .i64 0), 1, 8) := by kernel_rfl

def playsTo (a : Ab) (cs : List CallD) : Ab := cs.foldl (fun a c => (a.play c).1) a
def codesTo : Ab → List CallD → List Int
  | _, [] => []
  | a, c :: cs => (a.play c).2 :: codesTo (a.play c).1 cs
theorem playsTo_snoc (a : Ab) (cs : List CallD) (c : CallD) : playsTo a (cs ++ [c]) = ((playsTo a cs).play c).1 := by simp [playsTo]
theorem codesTo_snoc (a : Ab) (cs : List CallD) (c : CallD) : codesTo a (cs ++ [c]) = codesTo a cs ++ [((playsTo a cs).play c).2] := by
  induction cs generalizing a with
  | nil => rfl
  | cons d cs ih => simp only [List.cons_append, codesTo, ih]; rfl
theorem codesTo_length (a : Ab) (cs : List CallD) : (codesTo a cs).length = cs.length := by
  induction cs generalizing a with
  | nil => rfl
  | cons d cs ih => simp only [codesTo, List.length_cons, ih]
theorem playsTo_take (a : Ab) (cs : List CallD) (k : Nat) (c : CallD) (h : cs[k]? = some c) : playsTo a (cs.take (k + 1)) = ((playsTo a (cs.take k)).play c).1 := by
  rw [List.take_add_one, h]; exact playsTo_snoc _ _ _
theorem codesTo_take (a : Ab) (cs : List CallD) (k : Nat) (c : CallD) (h : cs[k]? = some c) : codesTo a (cs.take (k + 1)) = codesTo a (cs.take k) ++ [((playsTo a (cs.take k)).play c).2] := by
  rw [List.take_add_one, h]; exact codesTo_snoc _ _ _
theorem codesTo_at (a : Ab) (cs : List CallD) (k n : Nat) (c : CallD) (h : cs[k]? = some c) (hk : k < n) : (codesTo a (cs.take n))[k]? = some ((playsTo a (cs.take k)).play c).2 := by
  induction cs generalizing a k n with
  | nil => simp at h
  | cons d cs ih =>
    cases n with
    | zero => omega
    | succ n =>
      cases k with
      | zero => simp at h; subst h; rfl
      | succ k =>
        simp only [List.take_succ_cons, codesTo, List.getElem?_cons_succ]
        have := ih (a.play d).1 k n (by simpa using h) (by omega)
        rw [this]
        rfl

/-- The codes, in a row of the law's own. -/
def Cod (w : World) (base : Nat) (v : Value) (zs : List Int) : Prop := w.ownsRow base 24 1 v zs.length (zs.map (.int .i64))
theorem Cod.at {w : World} {base i : Nat} {v : Value} {z : Int} {zs : List Int} (h : Cod w base v zs) (hz : zs[i]? = some z) : ∃ g cap, v = .slice (some ⟨g, 0, none⟩) zs.length cap ∧ w.cell? ⟨g, i, none⟩ = some (.int .i64 z) := by
  have hi : i < zs.length := (List.getElem?_eq_some_iff.1 hz).1
  rcases h.2 with ⟨h3, h4⟩ | ⟨g, cap, cur, h3, hb, hh, hnc, hcm, hs, ht⟩
  · omega
  · refine ⟨g, cap, h3, ?_⟩
    rw [cell_of_row w g i cur _ (0, 0) hh]
    have hx : (cur.toList.take (zs.length * 1))[i]? = some (Value.int .i64 z) := by rw [ht, List.getElem?_map, hz]; rfl
    rw [List.getElem?_take] at hx
    split at hx
    · simpa using hx
    · cases hx
/-- A row of another type is none of a disk's blocks. -/
theorem row_not_dk {w : World} {base b2 B n : Nat} {e : TypeId} {size : Nat} {v : Value} {xs : List Value} {fs : List File} {a : Ab} (h : w.ownsRow b2 e size v n xs) (hi : Is w base B fs a) (h1 : e ≠ 65) (h2 : 5 ≠ e) : ∀ k, v.ownBlock = some k → ¬ DK B fs k := by
  intro k hk hd
  rcases hd with rfl | ⟨f, hf, he⟩
  · exact own_blk_ne h hi.1.blk h1 hk
  · rcases h.2 with ⟨h3, h4⟩ | ⟨g, cap, cur, h3, hb, hh, hnc, hcm, hs, ht⟩
    · rw [h3] at hk; simp [Value.ownBlock] at hk
    · rw [h3] at hk
      have : g = k := by simpa [Value.ownBlock] using hk
      subst this
      exact own_blk_ne (hi.1.files f hf).1 (t := e) (cs := cur) hh h2 he
theorem Is.keptRow {S : Nat → Prop} {w w' : World} {base B : Nat} {fs : List File} {a : Ab} (h : Is w base B fs a) (hk : Kept S w w') (hS : ∀ k, DK B fs k → ¬ S k) : Is w' base B fs a :=
  ⟨h.1.kept hk (hS _ (.inl rfl)) (fun f hf k h1 => hS k (.inr ⟨f, hf, h1⟩)), h.2⟩

def Copy2 (w w3 : World) (lo c0 B n : Nat) (fs : List File) (a : Ab) (cs : List CallD) (codes y i : Value) (wr : World) : Prop :=
  ∃ (k By : Nat) (fsy : List File), k ≤ n ∧ i = .int .i64 k ∧ y = .pointer (some ⟨By, 0, none⟩) ∧ Is wr c0 By fsy (playsTo a (cs.take k)) ∧ Is wr w.heap.size B fs a ∧ Kept Kno w wr ∧
    Cod wr w3.heap.size codes (codesTo a (cs.take k)) ∧ Kept (Out lo w3.heap.size) w3 wr ∧ Far lo w3.heap.size By fsy

def Copy3 (w ws : World) (c0 n : Nat) (a : Ab) (cs : List CallD) (d i : Value) (wr : World) : Prop :=
  ∃ (k B : Nat) (fs : List File), k ≤ n ∧ i = .int .i64 k ∧ d = .pointer (some ⟨B, 0, none⟩) ∧ Is wr w.heap.size B fs (playsTo a (cs.take k)) ∧ Kept Kno w wr ∧ Kept (Out c0 ws.heap.size) ws wr ∧ Far c0 ws.heap.size B fs

set_option maxRecDepth 100000 in
set_option maxHeartbeats 8000000 in
theorem copies_walk (r : Int) (hr0 : 0 ≤ r) (hr1 : r ≤ 65535) (cv : Value) (cs : List CallD) (cv2 : Value) (cs2 : List CallD) (w : World) (hin : CallsIn w cv cs) (hin2 : CallsIn w cv2 cs2) :
    Calls Try.prog 9 #[.int .u16 r, cv, cv2] w (RetNew (.bool true) w) := by
  obtain ⟨i0, hi0, hz0, hz1, hz2⟩ := info_parts info_errno
  obtain ⟨A, cap, rfl, hlc, hcm, hnil, hcells⟩ := hin
  have HC := Lib.hid hcells
  have m4 : cap ≤ 9223372036854775807 := by simp only [maxLen] at hcm; omega
  obtain ⟨n, hmin, q1, q2⟩ : ∃ m : Nat, (if (200 : Int) < (cs.length : Int) then (200 : Int) else (cs.length : Int)) = (m : Int) ∧ m ≤ cs.length ∧ m ≤ 200 := min_nat cs.length 200
  have q3 : n ≤ cap := by omega
  have q4 : (n : Int) ≤ (cap : Int) := by omega
  have q5 : (0 : Int) ≤ (n : Int) := by omega
  have ncs : cs.length ≤ 9223372036854775807 := by omega
  clear hcells hnil hcm
  obtain ⟨A2, cap2, rfl, hlcb, hcmb, hnilb, hcellsb⟩ := hin2
  have HC2 := Lib.hid hcellsb
  have m4b : cap2 ≤ 9223372036854775807 := by simp only [maxLen] at hcmb; omega
  obtain ⟨n2, hminb, q1b, q2b⟩ : ∃ m : Nat, (if (200 : Int) < (cs2.length : Int) then (200 : Int) else (cs2.length : Int)) = (m : Int) ∧ m ≤ cs2.length ∧ m ≤ 200 := min_nat cs2.length 200
  have q3b : n2 ≤ cap2 := by omega
  have q4b : (n2 : Int) ≤ (cap2 : Int) := by omega
  have q5b : (0 : Int) ≤ (n2 : Int) := by omega
  have ncsb : cs2.length ≤ 9223372036854775807 := by omega
  clear hcellsb hnilb hcmb
  have hm0 : 0 ≤ r % 4001 := Int.emod_nonneg _ (by decide)
  have hm1 : r % 4001 ≤ 4000 := by have := Int.emod_lt_of_pos r (show (0 : Int) < 4001 by decide); omega
  go_enter Try.func9, Try.ntmps9
  go_wp2_with fail
  refine (made_any r _ hr0 hr1).mono ?_
  rintro e w1 ⟨rfl, hw1⟩
  have hk1 : Kept Kno w w1 := by rw [hw1]; exact (Kept.refl _ _).alloc _
  have hi1 : Is w1 w.heap.size w.heap.size (List.replicate 8 noFile) (ab0 (r % 4001)) := by rw [hw1]; exact is_new w _ _ (Nat.le_refl _) hm0 (by omega)
  have HI1 := Lib.hid hi1
  clear hw1 hi1
  generalize hR : r % 4001 = R at HI1 hm0 hm1
  go_wp2_with fail
  go_loopw [7, 30] (fun d i wr => MidRel w R n d i wr) (fun _ i _ => n - (intOf i).toNat)
  case atStart => exact ⟨0, w.heap.size, _, _, Nat.zero_le _, rfl, rfl, HI1.out, rfl, hk1⟩
  case round =>
    obtain ⟨k, B, fs, a, hk, rfl, rfl, hi, hroom, hkr⟩ := hrel
    have HI := Lib.hid hi
    have HR := Lib.hid hroom
    clear hi hroom
    by_cases hlt : k < n
    · have hlow := HI.out.1.low
      obtain ⟨c, hc⟩ : ∃ c, cs[k]? = some c := ⟨cs[k]'(by omega), List.getElem?_eq_getElem _⟩
      have HCK := Lib.hid hc
      obtain ⟨g, o, rfl, hat⟩ := HC.out (by omega)
      obtain ⟨c0, c1, c2, c3, c4, hok⟩ := (hat k c hc).kept hkr
      obtain ⟨kind, file, nn, b, l, keep, ks⟩ := c
      have hokw := (hat k _ hc).2.2.2.2.2
      simp only at c0 c1 c2 c3 c4
      obtain ⟨hbs, hll, hkeep, hnn⟩ := hok
      simp only at hbs hll hkeep hnn
      obtain ⟨Ab, capb, rfl, hb1, -⟩ := hbs
      obtain ⟨Ak, capk, rfl, -⟩ := hkeep
      have hk0 : (0 : Int) ≤ (k : Int) := by omega
      have hk9 : (k : Int) < (n : Int) := by omega
      have HOK := Lib.hid hokw
      clear hokw hat hc
      go_wp2_with fail
      have hkA : Kept Kno w (wr.alloc (.cells #[.int .i64 kind, .int .i64 file, .int .i64 nn, .slice Ab l.length capb, .slice Ak ks.length capk] 45)) := hkr.alloc _
      have hkrA : Kept Kno wr (wr.alloc (.cells #[.int .i64 kind, .int .i64 file, .int .i64 nn, .slice Ab l.length capb, .slice Ak ks.length capk] 45)) := (Kept.refl _ _).alloc _
      have HBA := Lib.hid (Blk.new wr 45 #[.int .i64 kind, .int .i64 file, .int .i64 nn, .slice Ab l.length capb, .slice Ak ks.length capk])
      have hzA : wr.heap.size < (wr.alloc (.cells #[.int .i64 kind, .int .i64 file, .int .i64 nn, .slice Ab l.length capb, .slice Ak ks.length capk] 45)).heap.size := by simp
      generalize (wr.alloc (.cells #[.int .i64 kind, .int .i64 file, .int .i64 nn, .slice Ab l.length capb, .slice Ak ks.length capk] 45)) = wA at hkA hkrA HBA hzA ⊢
      clear c0 c1 c2 c3 c4
      have HIA := Lib.hid (HI.out.kept0 hkrA)
      refine (play_any w.heap.size B fs a ⟨kind, file, nn, .slice Ab l.length capb, l, .slice Ak ks.length capk, ks⟩ wA HIA.out (HOK.out.kept0 hkA) (fun w1 h => keep_far HOK.out.2.2.1 hkA hlow h)).mono ?_
      rintro e w3 ⟨B', rfl, fs', hi3, hkk3, -⟩
      have hk3 : Kept Kno w w3 := HIA.out.kept hkA (Nat.le_refl _) hkk3
      have HI3 := Lib.hid hi3
      clear hi3 hkk3
      have hpr := play_room a ⟨kind, file, nn, .slice Ab l.length capb, l, .slice Ak ks.length capk, ks⟩
      rw [HR.out] at hpr
      have HPR := Lib.hid hpr
      clear hpr
      generalize (a.play ⟨kind, file, nn, .slice Ab l.length capb, l, .slice Ak ks.length capk, ks⟩) = p at HI3 HPR ⊢
      obtain ⟨a', z⟩ := p
      simp only at HI3 HPR ⊢
      go_wp2
      go_roundw
      case rel => exact ⟨k + 1, B', fs', a', by omega, by go_num, rfl, HI3.out, HPR.out, hk3⟩
      case measure => simp [intOf]; omega
    · have hk9 : ¬ (k : Int) < (n : Int) := by omega
      have hdk0 : ∀ k, DK B fs k → k < wr.heap.size := fun k h => (HI.out.low h).2
      have HDK0 := Lib.hid hdk0
      have hlen8 : a.ls.length = 8 := HI.out.ls_len
      have HL8 := Lib.hid hlen8
      clear hdk0 hlen8
      go_wp2_with fail
      refine (copy_turn HI.out).mono ?_
      rintro e w2 ⟨gs, rfl, hi2, hkk2⟩
      have HX2 := Lib.hid hi2
      have HI2 := Lib.hid (HI.out.kept0 hkk2)
      have hk2 : Kept Kno w w2 := hkr.then0 hkk2
      have hs2 := hkk2.size
      have hs0 := hkr.size
      clear hi2 hkk2 HI hkr
      generalize wr.heap.size = c0 at HX2 hs2 HDK0 hs0
      go_wp2_with fail
      refine (files_any w.heap.size B fs a w2 HI2.out).mono ?_
      rintro e w3 ⟨v, vs, rfl, hls, hkk3⟩
      have hk3 : Kept Kno w w3 := hk2.then0 hkk3
      have HI3 := Lib.hid (HI2.out.kept0 hkk3)
      have HX3 := Lib.hid (HX2.out.kept0 hkk3)
      have HLS := Lib.hid hls
      have hs3 := hkk3.size
      have HFX := Lib.hid (HX2.out.far w3.heap.size)
      have HDX : Hid (∀ k, DK c0 gs k → k < w2.heap.size) := Lib.hid (fun k h => (HX2.out.low h).2)
      clear hls hkk3 HI2 HX2
      generalize w2.heap.size = lo at HLS hs2 hs3 HFX HDX
      go_wp2_with fail
      refine (files_any c0 c0 gs a w3 HX3.out).mono ?_
      rintro e w4 ⟨v4, vs4, rfl, hls4, hkk4⟩
      have hk4 : Kept Kno w w4 := hk3.then0 hkk4
      have HI4 := Lib.hid (HI3.out.kept0 hkk4)
      have HX4 := Lib.hid (HX3.out.kept0 hkk4)
      have HL4 := Lib.hid hls4
      have hkO4 : Kept (Out lo w3.heap.size) w3 w4 := hkk4.mono (fun _ _ e => e.elim)
      clear hls4 hkk4 HI3 HX3
      go_wp2_with fail
      refine (same_any _ _ _ _ _ _ a.ls a.ls w4 HL4.out (HLS.out.out hkO4) (by rw [HL8.out]; omega) (by rw [HL8.out]; omega)).mono ?_
      rw [decide_eq_true (Eq.refl a.ls)]
      rintro e w5 ⟨rfl, hkk5⟩
      have hk5 : Kept Kno w w5 := hk4.then0 hkk5
      have HI5 := Lib.hid (HI4.out.kept0 hkk5)
      have HX5 := Lib.hid (HX4.out.kept0 hkk5)
      have hkO5 := Out.step0 hkO4 hkk5
      clear hkk5 HI4 HX4 HL4
      go_wp2_with fail
      refine (off_any _ a.off _ HX5.out.1.c_off).mono ?_
      rintro e w6 ⟨rfl, rfl⟩
      go_wp2_with fail
      refine (off_any _ a.off _ HI5.out.1.c_off).mono ?_
      rintro e w6 ⟨rfl, rfl⟩
      go_wp2_with fail
      go_loopw [12, 13, 70] (fun codes y i wr => Copy2 w w3 lo c0 B n2 fs a cs2 codes y i wr) (fun _ _ i _ => n2 - (intOf i).toNat)
      case atStart => exact ⟨0, c0, gs, Nat.zero_le _, rfl, rfl, HX5.out, HI5.out, hk5, World.ownsRow_nil _ _ _ _, hkO5, HFX.out⟩
      case round =>
        obtain ⟨k', By, fsy, hk', rfl, rfl, hiy, hid, hkr, hcod, hkO, hfar⟩ := hrel
        have HIY := Lib.hid hiy
        have HID := Lib.hid hid
        have HCOD := Lib.hid hcod
        have HFAR := Lib.hid hfar
        obtain ⟨Ac, capc, hcv⟩ := own_form hcod
        rw [codesTo_length, List.length_take] at hcv
        have hmink : min k' cs2.length = k' := by omega
        rw [hmink] at hcv
        subst hcv
        clear hiy hid hcod hfar hmink
        by_cases hlt2 : k' < n2
        · have hlow := Nat.le_trans hs0 HIY.out.1.low
          obtain ⟨c, hc⟩ : ∃ c, cs2[k']? = some c := ⟨cs2[k']'(by omega), List.getElem?_eq_getElem _⟩
          have HCK := Lib.hid hc
          obtain ⟨g, o, rfl, hat⟩ := HC2.out (by omega)
          obtain ⟨c0, c1, c2, c3, c4, hok⟩ := (hat k' c hc).kept hkr
          obtain ⟨kind, file, nn, b, l, keep, ks⟩ := c
          have hokw := (hat k' _ hc).2.2.2.2.2
          simp only at c0 c1 c2 c3 c4
          obtain ⟨hbs, hll, hkeep, hnn⟩ := hok
          simp only at hbs hll hkeep hnn
          obtain ⟨Ab, capb, rfl, hb1, -⟩ := hbs
          obtain ⟨Ak, capk, rfl, -⟩ := hkeep
          have hk0 : (0 : Int) ≤ (k' : Int) := by omega
          have hk9 : (k' : Int) < (n2 : Int) := by omega
          have HOK := Lib.hid hokw
          clear hokw hat hc
          go_wp2_with fail
          have hkA : Kept Kno w (wr.alloc (.cells #[.int .i64 kind, .int .i64 file, .int .i64 nn, .slice Ab l.length capb, .slice Ak ks.length capk] 45)) := hkr.alloc _
          have hkrA : Kept Kno wr (wr.alloc (.cells #[.int .i64 kind, .int .i64 file, .int .i64 nn, .slice Ab l.length capb, .slice Ak ks.length capk] 45)) := (Kept.refl _ _).alloc _
          have HBA := Lib.hid (Blk.new wr 45 #[.int .i64 kind, .int .i64 file, .int .i64 nn, .slice Ab l.length capb, .slice Ak ks.length capk])
          have hzA : wr.heap.size < (wr.alloc (.cells #[.int .i64 kind, .int .i64 file, .int .i64 nn, .slice Ab l.length capb, .slice Ak ks.length capk] 45)).heap.size := by simp
          generalize (wr.alloc (.cells #[.int .i64 kind, .int .i64 file, .int .i64 nn, .slice Ab l.length capb, .slice Ak ks.length capk] 45)) = wA at hkA hkrA HBA hzA ⊢
          clear c0 c1 c2 c3 c4
          have HIA := Lib.hid (HIY.out.kept0 hkrA)
          have HDA := Lib.hid (HID.out.kept0 hkrA)
          have hkOA := Out.step0 hkO hkrA
          have HCA := Lib.hid (own_kept HCOD.out hkrA (fun _ _ h => h))
          refine (play_any c0 By fsy _ ⟨kind, file, nn, .slice Ab l.length capb, l, .slice Ak ks.length capk, ks⟩ wA HIA.out (HOK.out.kept0 hkA) (fun w1 h => keep_far HOK.out.2.2.1 hkA hlow h)).mono ?_
          rintro e w7 ⟨B', rfl, fs', hi7, hkk7, hdk7⟩
          have hk7 : Kept Kno w w7 := HIA.out.kept hkA hs0 hkk7
          have HI7 := Lib.hid hi7
          have HD7 := Lib.hid (HDA.out.keptRow hkk7 (fun k h1 h2 => by have := HDK0.out k h1; have := (HIA.out.low h2).1; omega))
          have hkO7 := Out.step hkOA hkk7 HFAR.out
          have HF7 := Lib.hid (HFAR.out.step hdk7 (hkOA.size))
          have HC7 := Lib.hid (own_kept HCA.out hkk7 (row_not_dk HCA.out HIA.out (by decide) (by decide)))
          clear hi7 hkk7 hdk7 HIA HDA HCA
          have HT := Lib.hid (playsTo_take a cs2 k' _ HCK.out)
          have HTC := Lib.hid (codesTo_take a cs2 k' _ HCK.out)
          generalize ((playsTo a (cs2.take k')).play ⟨kind, file, nn, .slice Ab l.length capb, l, .slice Ak ks.length capk, ks⟩) = p at HI7 HT HTC ⊢
          obtain ⟨a', z⟩ := p
          simp only at HI7 HT HTC ⊢
          have hzl : ((codesTo a (cs2.take k')).map (Value.int .i64)).length = k' := by rw [List.length_map, codesTo_length, List.length_take]; omega
          have hro : w7.ownsRow w3.heap.size 24 1 (.slice Ac k' capc) k' ((codesTo a (cs2.take k')).map (Value.int .i64)) := by
            have h9 := HC7.out
            rw [codesTo_length, List.length_take, show min k' cs2.length = k' by omega] at h9
            exact h9
          have HRO := Lib.hid hro
          have m1 : k' + 1 ≤ maxLen := by simp only [maxLen]; omega
          have hs7 : w3.heap.size ≤ w7.heap.size := hkO7.size
          clear hzl hro
          go_wp2_with (at_builtin; go_must (refine wpList_append_rd _ rfl _ _ 58 rfl w3.heap.size 24 i0 _ 1 8 Try.underlying58 hi0 hz0 hz1 hz2 rfl (by decide) (.slice Ac k' capc) k' ((codesTo a (cs2.take k')).map (Value.int .i64)) rfl (HRO.out.alloc _) _ 1 [.int .i64 z] rfl (Rd.one _ _ _ rfl) (by simp [Value.oneCell']) m1 (by omega) (by simp; omega) ?_); intro A8 cap8 w8 hown8 hg8 hat8)
          go_roundw
          case rel =>
            have hkr7 : Kept Kno w7 (w7.alloc (.cells #[.int .i64 z] 24)) := (Kept.refl _ _).alloc _
            have hkc : Kept (fun k => (Value.slice Ac k' capc).ownBlock = some k) (w7.alloc (.cells #[.int .i64 z] 24)) w8 := (Kept.refl _ _).grown hg8 (fun k _ e => e)
            have hIy := HI7.out.kept0 hkr7
            have hId := HD7.out.kept0 hkr7
            have hrow : (w7.alloc (.cells #[.int .i64 z] 24)).ownsRow w3.heap.size 24 1 (.slice Ac k' capc) k' ((codesTo a (cs2.take k')).map (Value.int .i64)) := HRO.out.alloc _
            refine ⟨k' + 1, B', fs', by omega, by go_num, rfl, ?_, ?_, ?_, ?_, ?_, HF7.out⟩
            · rw [HT.out]
              exact hIy.keptRow hkc (fun k h1 h2 => row_not_dk hrow hIy (by decide) (by decide) k h2 h1)
            · exact hId.keptRow hkc (fun k h1 h2 => row_not_dk hrow hId (by decide) (by decide) k h2 h1)
            · exact (hk7.alloc _).grown hg8 (fun k hk e => by have := (own_base HRO.out e).1; have := hk3.size; omega)
            · unfold Cod
              rw [HTC.out, List.length_append, codesTo_length, List.length_take, show min k' cs2.length = k' by omega, List.map_append]
              exact hown8
            · exact (Out.step0 hkO7 hkr7).trans hkc (fun k hk h => .inr (own_base HRO.out h).1)
          case measure => simp [intOf]; omega
        · have hk99 : ¬ (k' : Int) < (n2 : Int) := by omega
          have hkn : k' = n2 := by omega
          subst hkn
          go_wp2_with fail
          refine (files_any w.heap.size B fs a wr HID.out).mono ?_
          rintro e w7 ⟨v7, vs7, rfl, hls7, hkk7⟩
          have hk7 : Kept Kno w w7 := hkr.then0 hkk7
          have HI7 := Lib.hid (HID.out.kept0 hkk7)
          have HY7 := Lib.hid (HIY.out.kept0 hkk7)
          have HC7 := Lib.hid (own_kept HCOD.out hkk7 (fun _ _ h => h))
          have HL7 := Lib.hid hls7
          have hkO7 := Out.step0 hkO hkk7
          clear hls7 hkk7 HID HIY HCOD
          go_wp2_with fail
          refine (same_any _ _ _ _ _ _ a.ls a.ls w7 HL7.out (HLS.out.out hkO7) (by rw [HL8.out]; omega) (by rw [HL8.out]; omega)).mono ?_
          rw [decide_eq_true (Eq.refl a.ls)]
          rintro e w8 ⟨rfl, hkk8⟩
          have hk8 : Kept Kno w w8 := hk7.then0 hkk8
          have HI8 := Lib.hid (HI7.out.kept0 hkk8)
          have HY8 := Lib.hid (HY7.out.kept0 hkk8)
          have HC8 := Lib.hid (own_kept HC7.out hkk8 (fun _ _ h => h))
          have hs8 : w3.heap.size ≤ w8.heap.size := (Out.step0 hkO7 hkk8).size
          clear hkk8 HI7 HY7 HC7 HL7
          have HF8 : Hid (Far c0 w8.heap.size B fs) := Lib.hid (fun k h1 _ h3 => by have := HDK0.out k h3; omega)
          go_wp2_with fail
          go_loopw [7, 98] (fun d i wr => Copy3 w w8 c0 k' a cs2 d i wr) (fun _ i _ => k' - (intOf i).toNat)
          case atStart => exact ⟨0, B, fs, Nat.zero_le _, rfl, rfl, HI8.out, hk8, Kept.refl _ _, HF8.out⟩
          case round =>
            obtain ⟨j, Bd, fsd, hj, rfl, rfl, hid, hkr3, hkO3, hfar3⟩ := hrel
            have HID := Lib.hid hid
            have HFAR3 := Lib.hid hfar3
            clear hid hfar3
            by_cases hlt3 : j < k'
            · have hlow := HID.out.1.low
              obtain ⟨c, hc⟩ : ∃ c, cs2[j]? = some c := ⟨cs2[j]'(by omega), List.getElem?_eq_getElem _⟩
              have HCK := Lib.hid hc
              obtain ⟨g, o, rfl, hat⟩ := HC2.out (by omega)
              obtain ⟨c0, c1, c2, c3, c4, hok⟩ := (hat j c hc).kept hkr3
              obtain ⟨kind, file, nn, b, l, keep, ks⟩ := c
              have hokw := (hat j _ hc).2.2.2.2.2
              simp only at c0 c1 c2 c3 c4
              obtain ⟨hbs, hll, hkeep, hnn⟩ := hok
              simp only at hbs hll hkeep hnn
              obtain ⟨Ab, capb, rfl, hb1, -⟩ := hbs
              obtain ⟨Ak, capk, rfl, -⟩ := hkeep
              have hk0 : (0 : Int) ≤ (j : Int) := by omega
              have hk9 : (j : Int) < (k' : Int) := by omega
              have HOK := Lib.hid hokw
              clear hokw hat hc
              have hzj := codesTo_at a cs2 j k' _ HCK.out hlt3
              have hcr : Cod wr w3.heap.size (.slice Ac k' capc) (codesTo a (cs2.take k')) := own_kept HC8.out hkO3 (fun k hk h => by
                have h1 := own_base HC8.out hk
                unfold Out at h
                omega)
              obtain ⟨gc, capc', hcv, -⟩ := Cod.at hcr hzj
              injection hcv with e1 e2 e3
              subst e1 e3
              have HZJ := Lib.hid hzj
              have HCR := Lib.hid hcr
              clear hzj hcr e2
              go_wp2_with fail
              have hkA : Kept Kno w (wr.alloc (.cells #[.int .i64 kind, .int .i64 file, .int .i64 nn, .slice Ab l.length capb, .slice Ak ks.length capk] 45)) := hkr3.alloc _
              have hkrA : Kept Kno wr (wr.alloc (.cells #[.int .i64 kind, .int .i64 file, .int .i64 nn, .slice Ab l.length capb, .slice Ak ks.length capk] 45)) := (Kept.refl _ _).alloc _
              have HBA := Lib.hid (Blk.new wr 45 #[.int .i64 kind, .int .i64 file, .int .i64 nn, .slice Ab l.length capb, .slice Ak ks.length capk])
              have hzA : wr.heap.size < (wr.alloc (.cells #[.int .i64 kind, .int .i64 file, .int .i64 nn, .slice Ab l.length capb, .slice Ak ks.length capk] 45)).heap.size := by simp
              generalize (wr.alloc (.cells #[.int .i64 kind, .int .i64 file, .int .i64 nn, .slice Ab l.length capb, .slice Ak ks.length capk] 45)) = wA at hkA hkrA HBA hzA ⊢
              clear c0 c1 c2 c3 c4
              have HIA := Lib.hid (HID.out.kept0 hkrA)
              have hkOA := Out.step0 hkO3 hkrA
              refine (play_any w.heap.size Bd fsd _ ⟨kind, file, nn, .slice Ab l.length capb, l, .slice Ak ks.length capk, ks⟩ wA HIA.out (HOK.out.kept0 hkA) (fun w1 h => keep_far HOK.out.2.2.1 hkA hlow h)).mono ?_
              rintro e w9 ⟨B', rfl, fs', hi9, hkk9, hdk9⟩
              have hk9' : Kept Kno w w9 := HIA.out.kept hkA (Nat.le_refl _) hkk9
              have HI9 := Lib.hid hi9
              have hkO9 := Out.step hkOA hkk9 HFAR3.out
              have HF9 := Lib.hid (HFAR3.out.step hdk9 hkOA.size)
              have hcr9 : Cod w9 w3.heap.size (.slice (some ⟨gc, 0, none⟩) k' capc) (codesTo a (cs2.take k')) := own_kept HC8.out hkO9 (fun k hk h => by
                have h1 := own_base HC8.out hk
                unfold Out at h
                omega)
              obtain ⟨gc', capc', hcv, hcell⟩ := Cod.at hcr9 HZJ.out
              injection hcv with e1 e2 e3
              injection e1 with e1
              injection e1 with e1
              subst e1
              clear hi9 hkk9 hdk9 HIA HCR HZJ hcr9 e2 e3
              have HT := Lib.hid (playsTo_take a cs2 j _ HCK.out)
              generalize ((playsTo a (cs2.take j)).play ⟨kind, file, nn, .slice Ab l.length capb, l, .slice Ak ks.length capk, ks⟩) = p at HI9 HT hcell ⊢
              obtain ⟨a', z⟩ := p
              simp only at HI9 HT hcell ⊢
              go_wp2
              go_roundw
              case rel => exact ⟨j + 1, B', fs', by omega, by go_num, rfl, by rw [HT.out]; exact HI9.out, hk9', hkO9, HF9.out⟩
              case measure => simp [intOf]; omega
            · have hj9 : ¬ (j : Int) < (k' : Int) := by omega
              have hjk : j = k' := by omega
              subst hjk
              have HY9 : Hid (Is wr c0 By fsy (playsTo a (cs2.take j))) := Lib.hid (HY8.out.keptRow hkO3 (fun k h1 h2 => by
                have h3 := HY8.out.low h1
                unfold Out at h2
                omega))
              have hlenp : (playsTo a (cs2.take j)).ls.length = 8 := HID.out.ls_len
              have HLP := Lib.hid hlenp
              clear hlenp
              go_wp2_with fail
              refine (files_any w.heap.size Bd fsd _ wr HID.out).mono ?_
              rintro e w9 ⟨v9, vs9, rfl, hls9, hkk9⟩
              have HL9 := Lib.hid hls9
              have hk9' : Kept Kno w w9 := hkr3.then0 hkk9
              have HY10 := Lib.hid (HY9.out.kept0 hkk9)
              clear hls9 hkk9 HID HY9
              go_wp2_with fail
              refine (files_any c0 By fsy _ w9 HY10.out).mono ?_
              rintro e w10 ⟨v10, vs10, rfl, hls10, hkk10⟩
              have HL10 := Lib.hid hls10
              have HL9' := Lib.hid (HL9.out.kept0 hkk10)
              have hk10 : Kept Kno w w10 := hk9'.then0 hkk10
              clear hls10 hkk10 HL9 HY10
              go_wp2_with fail
              refine (same_any _ _ _ _ _ _ _ _ w10 HL9'.out HL10.out (by rw [HLP.out]; omega) (by rw [HLP.out]; omega)).mono ?_
              rw [decide_eq_true (Eq.refl _)]
              rintro e w11 ⟨rfl, hkk11⟩
              have hk11 : Kept Kno w w11 := hk10.then0 hkk11
              go_wp2_with fail
              refine (begun_any _).mono ?_
              rintro e w12 ⟨rfl, hk12⟩
              go_wp2
              go_ret
              exact ⟨rfl, hk11.then0 hk12⟩

theorem copies_final (r : Int) (cv : Value) (cs : List CallD) (cv2 : Value) (cs2 : List CallD) (w : World) (hr : (Lit.int .u16 r).wf = true) (hin : CallsIn w cv cs) (hin2 : CallsIn w cv2 cs2) :
    Calls Try.prog 9 #[.int .u16 r, cv, cv2] w (RetNew (.bool true) w) := by
  have hx : 0 ≤ r ∧ r ≤ 65535 := by simpa [Lit.wf, IntKind.min, IntKind.max, IntKind.signed, IntKind.bits] using hr
  exact copies_walk r hx.1 hx.2 cv cs cv2 cs2 w hin hin2
end Go.Proofs.Ytpkpinkjjknbdaa

