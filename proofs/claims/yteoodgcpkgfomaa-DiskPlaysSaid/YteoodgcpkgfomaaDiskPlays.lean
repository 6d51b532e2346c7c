/-
  DiskPlays: the walk: for every room and every list of calls the law returns true, and changes nothing that was there.
-/
import Derived.Test.YteoodgcpkgfomaaDiskR10
import Derived.Test.YteoodgcpkgfomaaDiskAb
import Derived.Deep.CutBlock
namespace Go.Proofs.Yteoodgcpkgfomaa
open Go.RowKit
set_option linter.unusedVariables false

theorem keep_farR {w w' w1 : World} {B : Nat} {v : Value} {ks : List Int} (h : KeepIn w v ks) (hk : Kept Kno w w') (hB : w.heap.size ≤ B) (h1 : Kept (Kone B) w' w1) : KeepIn w1 v ks :=
  h.kept0 (hk.trans h1 (fun i hi e => by unfold Kone at e; omega))

/-- The rows of the disk's files and of the reference's files are apart. -/
def Sep (fs : List File) (vs : List Value) : Prop := ∀ f ∈ fs, ∀ v ∈ vs, ∀ k, f.v.ownBlock = some k → v.ownBlock ≠ some k

/-- A disk and the reference's disk, both as a. -/
structure Two (w : World) (base B C : Nat) (fs : List File) (vs : List Value) (a : Ab) : Prop where
  is : Is w base B fs a
  ris : RIs w base C vs a
  sep : Sep fs vs

section
variable {w w' : World} {base B C : Nat} {fs : List File} {vs : List Value} {a : Ab}
theorem Two.kept0 (h : Two w base B C fs vs a) (hk : Kept Kno w w') : Two w' base B C fs vs a := ⟨h.is.kept0 hk, h.ris.kept0 hk, h.sep⟩
theorem two_ne (h1 : Is w base B fs a) {a2 : Ab} (h2 : RIs w base C vs a2) : ¬ DK B fs C := by
  rintro (e | ⟨f, hf, he⟩)
  · exact Blk.ne_ h2.blk h1.1.blk (by decide) e
  · exact own_blk_ne (h1.1.files f hf).1 h2.blk (by decide) he
theorem two_row (h1 : Is w base B fs a) {a2 : Ab} (h2 : RIs w base C vs a2) (hs : Sep fs vs) {v : Value} (hv : v ∈ vs) {k : Nat} (hk : v.ownBlock = some k) : ¬ DK B fs k := by
  rintro (e | ⟨f, hf, he⟩)
  · subst e
    obtain ⟨i, hi⟩ := List.mem_iff_getElem?.1 hv
    have hl := h2.vlen
    have hl2 := h2.len
    have hlt : i < vs.length := (List.getElem?_eq_some_iff.1 hi).1
    exact own_blk_ne (h2.files i v _ hi (List.getElem?_eq_getElem (by omega))).1 h1.1.blk (by decide) hk
  · exact hs f hf v hv k he hk
/-- The disk's turn. -/
theorem Two.play {B' : Nat} {fs' : List File} {a' : Ab} (h : Two w base B C fs vs a) (hi : Is w' base B' fs' a') (hk : Kept (DK B fs) w w') (hd : ∀ k, DK B' fs' k → DK B fs k ∨ w.heap.size ≤ k) :
    RIs w' base C vs a ∧ Sep fs' vs := by
  refine ⟨h.ris.kept hk (two_ne h.is h.ris) (fun v hv k e => two_row h.is h.ris h.sep hv e), fun f hf v hv k e e2 => ?_⟩
  rcases hd k (.inr ⟨f, hf, e⟩) with h3 | h3
  · exact two_row h.is h.ris h.sep hv e2 h3
  · have := (h.ris.vlow hv e2).2
    omega
/-- The reference's turn. -/
theorem two_model {C' : Nat} {vs' : List Value} {a' : Ab} (hi : Is w base B fs a') (hr : RIs w base C vs a) (hs : Sep fs vs) (hr' : RIs w' base C' vs' a') (hv : VsFrom vs vs' w.heap.size) (hk : Kept (Kone C) w w') :
    Two w' base B C' fs vs' a' := by
  have hne := two_ne hi hr
  refine ⟨⟨hi.1.kept hk (fun e => hne (.inl e.symm)) (fun f hf k he e => hne (.inr ⟨f, hf, by unfold Kone at e; subst e; exact he⟩)), hi.2⟩, hr', fun f hf v hv' k e e2 => ?_⟩
  rcases hv v hv' k e2 with ⟨u, hu, h3⟩ | h3
  · exact hs f hf u hu k e h3
  · have := (own_base (hi.1.files f hf).1 e).2
    omega
end

def PlaysRel (w : World) (n : Nat) (d m i : Value) (wr : World) : Prop :=
  ∃ (k B C : Nat) (fs : List File) (vs : List Value) (a : Ab), k ≤ n ∧ i = .int .i64 k ∧ d = .pointer (some ⟨B, 0, none⟩) ∧ m = .pointer (some ⟨C, 0, none⟩) ∧ Two wr w.heap.size B C fs vs a ∧ Kept Kno w wr

def PlaysIn (w : World) (B C G : Nat) (fs : List File) (vs : List Value) (a : Ab) (file : Int) (i : Value) (wr : World) : Prop :=
  ∃ j : Nat, j ≤ 6 ∧ i = .int .i64 j ∧ Two wr w.heap.size B C fs vs a ∧ Kept Kno w wr ∧ Blk wr G 3 #[.int .i64 file, .int .i64 0, .int .i64 1, .int .i64 7, .int .i64 (-1), .int .i64 8]

theorem six_at {w : World} {G : Nat} {file : Int} (h : Blk w G 3 #[.int .i64 file, .int .i64 0, .int .i64 1, .int .i64 7, .int .i64 (-1), .int .i64 8]) {j : Nat} (hj : j < 6) : ∃ x : Int, w.cell? ⟨G, j, none⟩ = some (.int .i64 x) := by
  rw [h.cell]
  match j, hj with
  | 0, _ => exact ⟨_, rfl⟩
  | 1, _ => exact ⟨_, rfl⟩
  | 2, _ => exact ⟨_, rfl⟩
  | 3, _ => exact ⟨_, rfl⟩
  | 4, _ => exact ⟨_, rfl⟩
  | 5, _ => exact ⟨_, rfl⟩

set_option maxRecDepth 100000 in
set_option maxHeartbeats 8000000 in
theorem plays_walk (r : Int) (hr0 : 0 ≤ r) (hr1 : r ≤ 65535) (cv : Value) (cs : List CallD) (w : World) (hin : CallsIn w cv cs) :
    Calls Try.prog 3 #[.int .u16 r, cv] w (RetNew (.bool true) w) := by
  obtain ⟨A, cap, rfl, hlc, hcm, hnil, hcells⟩ := hin
  have HC := Lib.hid hcells
  have HNil := Lib.hid hnil
  have m4 : cap ≤ 9223372036854775807 := by simp only [maxLen] at hcm; omega
  obtain ⟨n, hmin, q1, q2⟩ : ∃ m : Nat, (if (200 : Int) < (cs.length : Int) then (200 : Int) else (cs.length : Int)) = (m : Int) ∧ m ≤ cs.length ∧ m ≤ 200 := min_nat cs.length 200
  have q3 : n ≤ cap := by omega
  have q4 : (n : Int) ≤ (cap : Int) := by omega
  have q5 : (0 : Int) ≤ (n : Int) := by omega
  have hm0 : 0 ≤ r % 4001 := Int.emod_nonneg _ (by decide)
  have hm1 : r % 4001 ≤ 4000 := by have := Int.emod_lt_of_pos r (show (0 : Int) < 4001 by decide); omega
  have ncs : cs.length ≤ 9223372036854775807 := by omega
  clear hcells hnil hcm
  go_enter Try.func3, Try.ntmps3
  go_wp2_with fail
  refine (made_any r _ hr0 hr1).mono ?_
  rintro e w1 ⟨rfl, hw1⟩
  have hk1 : Kept Kno w w1 := by rw [hw1]; exact (Kept.refl _ _).alloc _
  have hi1 : Is w1 w.heap.size w.heap.size (List.replicate 8 noFile) (ab0 (r % 4001)) := by rw [hw1]; exact is_new w _ _ (Nat.le_refl _) hm0 (by omega)
  have HI1 := Lib.hid hi1
  clear hw1 hi1
  go_wp2_with fail
  refine (rnew_any _ _ hm0 (by omega)).mono ?_
  rintro e w2 ⟨rfl, hw2⟩
  have hkk2 : Kept Kno w1 w2 := by rw [hw2]; exact (Kept.refl _ _).alloc _
  have hr2 : RIs w2 w.heap.size w1.heap.size (List.replicate 8 nilB) (ab0 (r % 4001)) := by rw [hw2]; exact ris_new w1 _ _ hk1.size hm0 (by omega)
  have ht2 : Two w2 w.heap.size w.heap.size w1.heap.size (List.replicate 8 noFile) (List.replicate 8 nilB) (ab0 (r % 4001)) := ⟨HI1.out.kept0 hkk2, hr2, fun f hf v hv k e => by
    rw [List.mem_replicate] at hf
    rw [hf.2] at e
    cases e⟩
  have hk2 : Kept Kno w w2 := hk1.then0 hkk2
  have HT2 := Lib.hid ht2
  clear hw2 hr2 ht2 hkk2 HI1
  go_wp2_with fail
  go_loopw [5, 6, 39] (fun d m i wr => PlaysRel w n d m i wr) (fun _ _ i _ => n - (intOf i).toNat)
  case atStart => exact ⟨0, w.heap.size, w1.heap.size, _, _, _, Nat.zero_le _, rfl, rfl, rfl, HT2.out, hk2⟩
  case round =>
    obtain ⟨k, B, C, fs, vs, a, hk, rfl, rfl, rfl, ht, hkr⟩ := hrel
    have HT := Lib.hid ht
    clear ht HT2 hk1 hk2
    by_cases hlt : k < n
    · obtain ⟨c, hc⟩ : ∃ c, cs[k]? = some c := ⟨cs[k]'(by omega), List.getElem?_eq_getElem _⟩
      obtain ⟨g, o, rfl, hat⟩ := HC.out (by omega)
      obtain ⟨c0, c1, c2, c3, c4, hok⟩ := (hat k c hc).kept hkr
      obtain ⟨kind, file, nn, b, l, keep, ks⟩ := c
      have hblk : g < w.heap.size := World.block_lt_of_cell? w _ (hat k _ hc).1
      have hokw := (hat k _ hc).2.2.2.2.2
      simp only at c0 c1 c2 c3 c4
      obtain ⟨hbs, hll, hkeep, hnn⟩ := hok
      simp only at hbs hll hkeep hnn
      obtain ⟨Ab, capb, rfl, hb1, -⟩ := hbs
      obtain ⟨Ak, capk, rfl, -⟩ := hkeep
      have hk0 : (0 : Int) ≤ (k : Int) := by omega
      have hk9 : (k : Int) < (n : Int) := by omega
      clear hat hc
      have HOK := Lib.hid hokw
      clear hokw
      go_wp2_with fail
      have hkA : Kept Kno w (wr.alloc (.cells #[.int .i64 kind, .int .i64 file, .int .i64 nn, .slice Ab l.length capb, .slice Ak ks.length capk] 33)) := hkr.alloc _
      have HTA := Lib.hid (HT.out.kept0 ((Kept.refl Kno wr).alloc (.cells #[.int .i64 kind, .int .i64 file, .int .i64 nn, .slice Ab l.length capb, .slice Ak ks.length capk] 33)))
      have HBA := Lib.hid (Blk.new wr 33 #[.int .i64 kind, .int .i64 file, .int .i64 nn, .slice Ab l.length capb, .slice Ak ks.length capk])
      have HDKA : Hid (∀ k, DK B fs k → k < wr.heap.size) := Lib.hid (fun k h => (HT.out.is.low h).2)
      have hCA : C < wr.heap.size := HT.out.ris.blk.lt
      have hzw := hkr.size
      generalize (wr.alloc (.cells #[.int .i64 kind, .int .i64 file, .int .i64 nn, .slice Ab l.length capb, .slice Ak ks.length capk] 33)) = wA at hkA HTA HBA ⊢
      clear c0 c1 c2 c3 c4 HT hkr
      obtain ⟨wo, rfl⟩ : ∃ wo : World, wo = wr := ⟨_, rfl⟩
      refine (play_any w.heap.size B fs a ⟨kind, file, nn, .slice Ab l.length capb, l, .slice Ak ks.length capk, ks⟩ wA HTA.out.is (HOK.out.kept0 hkA) (fun w1 h => keep_farR HOK.out.2.2.1 hkA HTA.out.is.1.low h)).mono ?_
      rintro e w3 ⟨B', rfl, fs', hi3, hkk3, hdk3⟩
      have hk3 : Kept Kno w w3 := HTA.out.is.kept hkA (Nat.le_refl _) hkk3
      obtain ⟨hr3, hs3⟩ := HTA.out.play hi3 hkk3 hdk3
      have HI3 := Lib.hid hi3
      have HR3 := Lib.hid hr3
      have HS3 := Lib.hid hs3
      have HB3 := Lib.hid (HBA.out.kept hkk3 (fun h => absurd (HDKA.out _ h) (Nat.lt_irrefl _)))
      have d0 := HB3.out.cell 0
      have d1 := HB3.out.cell 1
      have d2 := HB3.out.cell 2
      have d3 := HB3.out.cell 3
      have d4 := HB3.out.cell 4
      simp only [List.getElem?_toArray, List.getElem?_cons_succ, List.getElem?_cons_zero] at d0 d1 d2 d3 d4
      clear hi3 hkk3 hdk3 hr3 hs3 HTA HBA
      go_wp2_with fail
      refine (model_any w.heap.size C vs a ⟨kind, file, nn, .slice Ab l.length capb, l, .slice Ak ks.length capk, ks⟩ w3 HR3.out (HOK.out.kept0 hk3) (fun w1 h => keep_farR HOK.out.2.2.1 hk3 HR3.out.low h)).mono ?_
      rintro e w4 ⟨C', rfl, vs', hr4, hv4, hkk4⟩
      have hk4 : Kept Kno w w4 := hk3.trans hkk4 (fun i hi e => by have := HR3.out.low; unfold Kone at e; omega)
      have HT4 := Lib.hid (two_model HI3.out HR3.out HS3.out hr4 hv4 hkk4)
      have HB4 := Lib.hid (HB3.out.kept hkk4 (fun e => by unfold Kone at e; omega))
      clear hr4 hv4 hkk4 d0 d1 d2 d3 d4 HI3 HR3 HS3 HB3
      generalize (a.play ⟨kind, file, nn, .slice Ab l.length capb, l, .slice Ak ks.length capk, ks⟩) = p at HT4 ⊢
      obtain ⟨a', z⟩ := p
      simp only at HT4 ⊢
      go_wp2_with fail
      refine (off_any B' a'.off _ HT4.out.is.1.c_off).mono ?_
      rintro e w5 ⟨rfl, rfl⟩
      go_wp2_with fail
      refine (roff_any HT4.out.ris).mono ?_
      rintro e w5 ⟨rfl, rfl⟩
      go_wp2_with fail
      refine (used_any w.heap.size B' a'.room a'.plan fs' a'.off _ HT4.out.is.1).mono ?_
      rw [HT4.out.is.used]
      rintro e w5 ⟨rfl, rfl⟩
      go_wp2_with fail
      refine (rused_any HT4.out.ris).mono ?_
      rintro e w5 ⟨rfl, rfl⟩
      have d1 := HB4.out.cell 1
      simp only [List.getElem?_toArray, List.getElem?_cons_succ, List.getElem?_cons_zero] at d1
      go_wp2_with fail
      have hk5 : Kept Kno w (w4.alloc (.cells #[.int .i64 file, .int .i64 0, .int .i64 1, .int .i64 7, .int .i64 (-1), .int .i64 8] 3)) := hk4.alloc _
      have HT5 := Lib.hid (HT4.out.kept0 ((Kept.refl Kno w4).alloc (.cells #[.int .i64 file, .int .i64 0, .int .i64 1, .int .i64 7, .int .i64 (-1), .int .i64 8] 3)))
      have HB5 := Lib.hid (Blk.new w4 3 #[.int .i64 file, .int .i64 0, .int .i64 1, .int .i64 7, .int .i64 (-1), .int .i64 8])
      generalize (w4.alloc (.cells #[.int .i64 file, .int .i64 0, .int .i64 1, .int .i64 7, .int .i64 (-1), .int .i64 8] 3)) = w5 at hk5 HT5 HB5 ⊢
      clear d1 HT4 HB4
      go_loopw [80] (fun i wr => PlaysIn w B' C' w4.heap.size fs' vs' a' file i wr) (fun i _ => 6 - (intOf i).toNat)
      case atStart => exact ⟨0, by omega, rfl, HT5.out, hk5, HB5.out⟩
      case round =>
        obtain ⟨j, hj, rfl, htq, hkq, hbq⟩ := hrel
        by_cases hl6 : j < 6
        · obtain ⟨x, hx⟩ := six_at hbq hl6
          have HTQ := Lib.hid htq
          have HBQ := Lib.hid hbq
          have hj0 : (0 : Int) ≤ (j : Int) := by omega
          have hj6 : (j : Int) < 6 := by omega
          clear htq hbq HT5 HB5
          go_wp2_with fail
          refine (read_any x HTQ.out.is).mono ?_
          rintro e w6 ⟨A1, cap1, rfl, hown1, hk6⟩
          have HO1 := Lib.hid hown1
          clear hown1
          go_wp2_with fail
          refine (rread_any x (HTQ.out.kept0 hk6).ris).mono ?_
          rintro e w7 ⟨A2, cap2, rfl, hown2, hk7⟩
          have HO2 := Lib.hid hown2
          have HT7 := Lib.hid (HTQ.out.kept0 (hk6.then0 hk7))
          clear hown2
          go_wp2_with fail
          refine (size_any x HT7.out.is).mono ?_
          rintro e w8 ⟨rfl, rfl⟩
          go_wp2_with fail
          refine (rsize_any x HT7.out.ris).mono ?_
          rintro e w8 ⟨rfl, rfl⟩
          go_wp2_with fail
          refine (equal_any _ _ _ _ _ (OwnB.bs (own_kept HO1.out hk7 (fun _ _ h => h))) (OwnB.bs HO2.out)).mono ?_
          rw [decide_eq_true (Eq.refl (a'.read x).1)]
          rintro e w8 ⟨rfl, rfl⟩
          have HB7 := Lib.hid ((HBQ.out.kept hk6 (fun h => h)).kept hk7 (fun h => h))
          go_wp2
          go_roundw
          case rel => exact ⟨j + 1, by omega, by go_num, HT7.out, (hkq.then0 hk6).then0 hk7, HB7.out⟩
          case measure => simp [intOf]; omega
        · have hj6 : ¬ (j : Int) < 6 := by omega
          have HTQ := Lib.hid htq
          clear htq hbq HT5 HB5
          go_wp2
          go_roundw
          case rel => exact ⟨k + 1, B', C', fs', vs', a', by omega, by go_num, rfl, rfl, HTQ.out, hkq⟩
          case measure => simp [intOf]; omega
    · have hk9 : ¬ (k : Int) < (n : Int) := by omega
      go_wp2_with fail
      refine (begun_any _).mono ?_
      rintro e w2 ⟨rfl, hk2⟩
      go_wp2
      go_ret
      exact ⟨rfl, hkr.then0 hk2⟩

theorem plays_final (r : Int) (cv : Value) (cs : List CallD) (w : World) (hr : (Lit.int .u16 r).wf = true) (hin : CallsIn w cv cs) :
    Calls Try.prog 3 #[.int .u16 r, cv] w (RetNew (.bool true) w) := by
  have hx : 0 ≤ r ∧ r ≤ 65535 := by simpa [Lit.wf, IntKind.min, IntKind.max, IntKind.signed, IntKind.bits] using hr
  exact plays_walk r hx.1 hx.2 cv cs w hin

end Go.Proofs.Yteoodgcpkgfomaa
