/-
  Disk: the contracts of files and same.
-/
import Derived.Test.YtpkpinkjjknbdaaDiskPlay
namespace Go.Proofs.Ytpkpinkjjknbdaa
open Go.RowKit
set_option linter.unusedVariables false

theorem info_bytes : (Try.prog.info? 33).map (fun i => (i.zero, i.size, i.bytes)) = some (some (.slice none 0 0), 1, 24) := by kernel_rfl

/-- A list of lists of bytes: the row v has the slices vs, which are the bytes ls, all of it from base on. -/
def Ls (w : World) (base : Nat) (v : Value) (vs : List Value) (ls : List (List UInt8)) : Prop :=
  w.ownsRow base 33 1 v vs.length vs ∧ vs.length = ls.length ∧ ∀ (i : Nat) (x : Value) (l : List UInt8), vs[i]? = some x → ls[i]? = some l → OwnB w base 5 x l

theorem Ls.kept {S : Nat → Prop} {w w' : World} {base : Nat} {v : Value} {vs : List Value} {ls : List (List UInt8)} (h : Ls w base v vs ls) (hk : Kept S w w') (hS : ∀ k, base ≤ k → k < w.heap.size → ¬ S k) : Ls w' base v vs ls :=
  ⟨own_kept h.1 hk (fun k hk' => hS k (own_base h.1 hk').1 (own_base h.1 hk').2), h.2.1, fun i x l hx hl => own_kept (h.2.2 i x l hx hl) hk (fun k hk' => hS k (own_base (h.2.2 i x l hx hl) hk').1 (own_base (h.2.2 i x l hx hl) hk').2)⟩
theorem Ls.kept0 {w w' : World} {base : Nat} {v : Value} {vs : List Value} {ls : List (List UInt8)} (h : Ls w base v vs ls) (hk : Kept Kno w w') : Ls w' base v vs ls := h.kept hk (fun _ _ _ h => h)
theorem Ls.at {w : World} {base i : Nat} {v x : Value} {vs : List Value} {ls : List (List UInt8)} (h : Ls w base v vs ls) (hx : vs[i]? = some x) : ∃ g cap, v = .slice (some ⟨g, 0, none⟩) vs.length cap ∧ w.cell? ⟨g, i, none⟩ = some x := by
  have hi : i < vs.length := (List.getElem?_eq_some_iff.1 hx).1
  rcases h.1.2 with ⟨h3, h4⟩ | ⟨g, cap, cur, h3, hb, hh, hnc, hcm, hs, ht⟩
  · omega
  · refine ⟨g, cap, h3, ?_⟩
    rw [cell_of_row w g i cur _ (0, 0) hh]
    rw [← ht, List.getElem?_take] at hx
    split at hx
    · simpa using hx
    · cases hx
theorem Ls.form {w : World} {base : Nat} {v : Value} {vs : List Value} {ls : List (List UInt8)} (h : Ls w base v vs ls) : ∃ A cap, v = .slice A ls.length cap := by
  obtain ⟨A, cap, hv⟩ := own_form h.1
  exact ⟨A, cap, by rw [hv, h.2.1]⟩

theorem equal_quiet {v u : Value} {l m : List UInt8} {w : World} (hv : Bs w v l) (hu : Bs w u m) (n : Nat) :
    Calls Try.prog 18 #[v, u] (w.drewN n) fun e w' => e = .returned (.bool (decide (l = m))) ∧ w' = w.drewN n :=
  (equal_any v u l m (w.drewN n) (Rd.drewN hv n) (Rd.drewN hu n)).mono fun _ _ ⟨a, b⟩ => ⟨a, b.symm⟩

def SameRel (la lb : List (List UInt8)) (w : World) (i : Value) (wr : World) : Prop :=
  ∃ k : Nat, k ≤ la.length ∧ i = .int .i64 k ∧ la.take k = lb.take k ∧ Kept Kno w wr

theorem take_next {α : Type} {la lb : List α} {k : Nat} {x y : α} (h : la.take k = lb.take k) (hx : la[k]? = some x) (hy : lb[k]? = some y) (e : x = y) : la.take (k + 1) = lb.take (k + 1) := by
  rw [List.take_add_one, List.take_add_one, h, hx, hy, e]

set_option maxHeartbeats 2000000 in
theorem same_any (ba bb : Nat) (va vb : Value) (xs ys : List Value) (la lb : List (List UInt8)) (w : World) (ha : Ls w ba va xs la) (hb : Ls w bb vb ys lb) (hn : la.length ≤ 1000000) (hm : lb.length ≤ 1000000) :
    Calls Try.prog 24 #[va, vb] w fun e w' => e = .returned (.bool (decide (la = lb))) ∧ Kept Kno w w' := by
  have HA := Lib.hid ha
  have HB := Lib.hid hb
  obtain ⟨Aa, capa, rfl⟩ := ha.form
  obtain ⟨Ab, capb, rfl⟩ := hb.form
  clear ha hb
  by_cases hl : la.length = lb.length
  · have HL := Lib.hid hl
    have hl1 : ((la.length : Int) == (lb.length : Int)) = true := by rw [hl]; simp
    have hl2 : ((la.length : Int) != (lb.length : Int)) = false := by rw [hl]; simp
    have hl3 : (la.length : Int) = (lb.length : Int) := by omega
    have hl4 := hl
    clear hl3 hl4
    clear hl
    go_enter Try.func24, Try.ntmps24
    go_wp2_with fail
    go_loopw [13] (fun i wr => SameRel la lb w i wr) (fun i _ => la.length - (intOf i).toNat)
    case atStart => exact ⟨0, Nat.zero_le _, rfl, rfl, Kept.refl _ _⟩
    case round =>
      obtain ⟨k, hk, rfl, htk, hkk⟩ := hrel
      have HT := Lib.hid htk
      clear htk
      by_cases hlt : k < la.length
      · have ha := HA.out.kept0 hkk
        have hb := HB.out.kept0 hkk
        have hlb : k < lb.length := by have := HL.out; omega
        have hxl : k < xs.length := by rw [ha.2.1]; exact hlt
        have hyl : k < ys.length := by rw [hb.2.1]; exact hlb
        have hx := List.getElem?_eq_getElem hxl
        have hy := List.getElem?_eq_getElem hyl
        have hla := List.getElem?_eq_getElem hlt
        have hlb' := List.getElem?_eq_getElem hlb
        generalize xs[k] = x at hx
        generalize ys[k] = y at hy
        generalize la[k] = p at hla
        generalize lb[k] = q at hlb'
        obtain ⟨ga, ca, hva, c1⟩ := ha.at hx
        obtain ⟨gb, cb, hvb, c2⟩ := hb.at hy
        have hox := ha.2.2 k x p hx hla
        have hoy := hb.2.2 k y q hy hlb'
        have HBX := Lib.hid hox.bs
        have HBY := Lib.hid hoy.bs
        obtain ⟨Ax, cx, hxv⟩ := own_form hox
        obtain ⟨Ay, cy, hyv⟩ := own_form hoy
        subst hxv hyv
        injection hva with e1 e2 e3
        injection hvb with e4 e5 e6
        subst e1 e3 e4 e6
        have HLA := Lib.hid hla
        have HLB := Lib.hid hlb'
        have hk0 : (0 : Int) ≤ (k : Int) := by omega
        have hk1 : (k : Int) < (la.length : Int) := by omega
        have hk2 : (k : Int) < (lb.length : Int) := by omega
        clear ha hb hx hy hla hlb' hox hoy e2 e5
        by_cases hpq : p = q
        · have HPQ := Lib.hid hpq
          have hdec : decide (p = q) = true := by simp [hpq]
          have hq : ∀ n, Calls Try.prog 18 #[.slice Ax p.length cx, .slice Ay q.length cy] (wr.drewN n) fun e w' => e = .returned (.bool true) ∧ w' = wr.drewN n := fun n => by have h9 := equal_quiet HBX.out HBY.out n; rwa [hdec] at h9
          have HQ := Lib.hid hq
          clear hq
          clear hpq
          go_wp2_with fail
          go_quiet ((go_at_call 18; exact Calls.quiet_of_same (HQ.out _)))
          go_wp2
          go_roundw
          case rel => exact ⟨k + 1, by omega, by go_num, take_next HT.out HLA.out HLB.out HPQ.out, hkk.drewN _⟩
          case measure => simp [intOf]; omega
        · have hdec : decide (p = q) = false := by simp [hpq]
          have hq : ∀ n, Calls Try.prog 18 #[.slice Ax p.length cx, .slice Ay q.length cy] (wr.drewN n) fun e w' => e = .returned (.bool false) ∧ w' = wr.drewN n := fun n => by have h9 := equal_quiet HBX.out HBY.out n; rwa [hdec] at h9
          have HQ := Lib.hid hq
          clear hq
          have hne : decide (la = lb) = false := by
            simp only [decide_eq_false_iff_not]
            intro e
            have h1 := HLA.out
            have h2 := HLB.out
            rw [e, h2] at h1
            injection h1 with h1
            exact hpq h1.symm
          have HNE := Lib.hid hne
          clear hpq hne
          go_wp2_with fail
          go_quiet ((go_at_call 18; exact Calls.quiet_of_same (HQ.out _)))
          go_wp2
          go_ret
          exact ⟨by rw [HNE.out]; rfl, hkk.drewN _⟩
      · have hk9 : ¬ (k : Int) < (la.length : Int) := by omega
        have hka : k = la.length := by omega
        have hee : decide (la = lb) = true := by
          have := HT.out
          rw [List.take_of_length_le (by omega), List.take_of_length_le (by have := HL.out; omega)] at this
          simp [this]
        have HEE := Lib.hid hee
        clear hee hka
        go_wp2
        go_ret
        exact ⟨by rw [HEE.out]; rfl, hkk⟩
  · have e2 : decide (la = lb) = false := by simp; exact fun h => hl (by rw [h])
    rw [e2]
    have hl1 : ((la.length : Int) == (lb.length : Int)) = false := by simp; omega
    have hl2 : ((la.length : Int) != (lb.length : Int)) = true := by simp; omega
    clear e2
    go_enter Try.func24, Try.ntmps24
    go_wp2
    go_ret
    exact ⟨rfl, Kept.refl _ _⟩

def keepAll : List Int := List.replicate 8 16777216
def Ab.ls (a : Ab) : List (List UInt8) := a.fs.map (·.1)

def FilesOk (ls : List (List UInt8)) (w : World) (e : Ending) (w' : World) : Prop :=
  ∃ v vs, e = .returned v ∧ Ls w' w.heap.size v vs ls ∧ Kept Kno w w'

def FillRel (w w1 : World) (g : Nat) (i : Value) (wr : World) : Prop :=
  ∃ k : Nat, k ≤ 8 ∧ i = .int .i64 k ∧ Kept (Kone g) w1 wr ∧ Blk wr g 3 (List.replicate k (Value.int .i64 16777216) ++ List.replicate (8 - k) (Value.int .i64 0)).toArray

theorem fill_step {w w1 wr : World} {g k : Nat} (hk : k < 8) (hkk : Kept (Kone g) w1 wr) (hb : Blk wr g 3 (List.replicate k (Value.int .i64 16777216) ++ List.replicate (8 - k) (Value.int .i64 0)).toArray) :
    FillRel w w1 g (.int .i64 ((k : Int) + 1)) (wr.setCell ⟨g, k, none⟩ (.int .i64 16777216)) := by
  refine ⟨k + 1, by omega, by go_num, hkk.setIn (p := ⟨g, k, none⟩) (Eq.refl g) _, ?_⟩
  have := hb.set_ k (.int .i64 16777216)
  rcases k with _ | _ | _ | _ | _ | _ | _ | _ | k
  all_goals first | exact this | omega

def FilesRel (w : World) (ls : List (List UInt8)) (B : Nat) (fs : List File) (a : Ab) (s i : Value) (wr : World) : Prop :=
  ∃ (k : Nat) (vs : List Value), k ≤ 8 ∧ i = .int .i64 k ∧ vs.length = k ∧ Ls wr w.heap.size s vs (ls.take k) ∧ Is wr w.heap.size B fs a ∧ Kept Kno w wr


theorem crash_all (fs : List (List UInt8 × Nat)) (hl : fs.length = 8) (h : ∀ f ∈ fs, f.2 ≤ f.1.length ∧ f.1.length ≤ 16777216) : crashTo 8 fs keepAll = fs.map fun f => (f.1, f.1.length) := by
  apply List.ext_getElem?
  intro i
  rw [crashTo_at, List.getElem?_map]
  cases hq : fs[i]? with
  | none => rfl
  | some f =>
    have hi : i < fs.length := (List.getElem?_eq_some_iff.1 hq).1
    obtain ⟨h1, h2⟩ := h f (List.mem_of_getElem? hq)
    have e1 : keepAll[i]? = some 16777216 := by
      unfold keepAll
      rw [List.getElem?_replicate, if_pos (by omega)]
    have e2 : crashN f (some 16777216) = f.1.length := by
      have : (16777216 : Int).toNat = 16777216 := rfl
      simp only [crashN, this]
      omega
    simp only [Option.map_some, if_pos (show i < 8 by omega), e1, crashF, e2, List.take_length]

theorem Is.sizes {w : World} {base B : Nat} {fs : List File} {a : Ab} (h : Is w base B fs a) : ∀ f ∈ a.fs, f.2 ≤ f.1.length ∧ f.1.length ≤ 16777216 := by
  intro f hf
  rw [← h.2, List.mem_map] at hf
  obtain ⟨g, hg, rfl⟩ := hf
  have h1 := (h.1.files g hg).2
  have h2 := used_le hg
  have h3 := h.1.fits
  have h4 := h.1.room1
  refine ⟨h1, ?_⟩
  simp only [File.ab]
  omega

theorem ls_append {w1 w2 : World} {base : Nat} {v v2 x : Value} {vs : List Value} {ls : List (List UInt8)} {l : List UInt8} (h : Ls w1 base v vs ls) (hx : OwnB w1 base 5 x l)
    (hown : w2.ownsRow base 33 1 v2 (vs.length + 1) (vs ++ [x])) (hg : w1.grownBy w2 v.ownBlock) : Ls w2 base v2 (vs ++ [x]) (ls ++ [l]) := by
  have hk : Kept (fun k => v.ownBlock = some k) w1 w2 := (Kept.refl _ _).grown hg (fun k _ e => e)
  have hne : ∀ {u : Value} {m : List UInt8}, OwnB w1 base 5 u m → ∀ k, u.ownBlock = some k → ¬ v.ownBlock = some k := by
    intro u m hu k hk1 hk2
    rcases h.1.2 with ⟨h3, h4⟩ | ⟨g, cap, cur, h3, hb, hh, hnc, hcm, hs, ht⟩
    · subst h3; simp [Value.ownBlock] at hk2
    · subst h3
      have : g = k := by simpa [Value.ownBlock] using hk2
      subst this
      exact own_blk_ne hu (t := 33) (cs := cur) hh (by decide) hk1
  refine ⟨by rw [List.length_append]; exact hown, by simp [h.2.1], fun i y m hy hm => ?_⟩
  by_cases hi : i < vs.length
  · rw [List.getElem?_append_left hi] at hy
    rw [List.getElem?_append_left (by rw [← h.2.1]; exact hi)] at hm
    have ho := h.2.2 i y m hy hm
    exact own_kept ho hk (hne ho)
  · rw [List.getElem?_append_right (by omega)] at hy
    rw [List.getElem?_append_right (by rw [← h.2.1]; omega)] at hm
    have h0 : i - vs.length = 0 := by
      rcases Nat.eq_zero_or_pos (i - vs.length) with h0 | h0
      · exact h0
      · rw [List.getElem?_eq_none (by simp; omega)] at hy; cases hy
    have h1 : i - ls.length = 0 := by rw [← h.2.1]; exact h0
    rw [h0] at hy
    rw [h1] at hm
    simp at hy hm
    subst hy hm
    exact own_kept hx hk (hne hx)

theorem keep_fill {w : World} {g : Nat} (hb : Blk w g 3 (List.replicate 8 (Value.int .i64 16777216)).toArray) : KeepIn w (.slice (some ⟨g, 0, none⟩) 8 8) keepAll := by
  refine ⟨some ⟨g, 0, none⟩, 8, rfl, by decide, by decide, fun _ => ⟨g, 0, rfl, fun i x hx => ?_⟩⟩
  rw [Nat.zero_add, hb.cell]
  unfold keepAll at hx
  rw [List.getElem?_replicate] at hx
  split at hx
  · rename_i hi
    injection hx with hx
    subst hx
    rw [List.getElem?_toArray, List.getElem?_replicate, if_pos hi]
  · cases hx

theorem info_int : (Try.prog.info? 3).map (fun i => (i.zero, i.size, i.bytes)) = some (some (.int .i64 0), 1, 8) := by kernel_rfl
theorem make8 (w : World) : (Instr.makeSlice 22 (.int .i64 8) (.int .i64 8)).run Try.prog w = .ok (.slice (some ⟨w.heap.size, 0, none⟩) 8 8) (w.alloc (.cells #[Value.int .i64 0, Value.int .i64 0, Value.int .i64 0, Value.int .i64 0, Value.int .i64 0, Value.int .i64 0, Value.int .i64 0, Value.int .i64 0] 3)) := by
  obtain ⟨i0, hi, hz0, hz1, hz2⟩ := info_parts info_int
  have h := run_makeSlice (P := Try.prog) w 22 3 i0 _ Try.underlying22 hi hz0 .i64 .i64 8 8 (by omega) (by omega) (by rw [hz1]; decide) (by rw [hz2]; decide) (by omega)
  rw [hz1] at h
  have e : madeCells (Value.int .i64 0).cells (Int.toNat 8 * 1) = #[Value.int .i64 0, Value.int .i64 0, Value.int .i64 0, Value.int .i64 0, Value.int .i64 0, Value.int .i64 0, Value.int .i64 0, Value.int .i64 0] := by kernel_rfl
  rw [e] at h
  exact h

theorem crash_ls {w : World} {base B : Nat} {fs : List File} {a : Ab} (h : Is w base B fs a) (k : Nat) (l : List UInt8) (hl : a.ls[k]? = some l) : (a.crash keepAll).read k = (l, 0) := by
  have hlen := h.len
  have hk : k < 8 := by have := (List.getElem?_eq_some_iff.1 hl).1; simp only [Ab.ls, List.length_map] at this; omega
  have e1 : (a.crash keepAll).fs = a.fs.map fun f => (f.1, f.1.length) := crash_all a.fs hlen h.sizes
  have e2 : checkOf (a.crash keepAll).off (k : Int) = 0 := checkOf_ok hk
  unfold Ab.read
  rw [if_neg (by rw [e2]; simp), Int.toNat_natCast]
  unfold Ab.file
  rw [e1]
  simp only [Ab.ls, List.getElem?_map] at hl
  cases hq : a.fs[k]? with
  | none => rw [hq] at hl; cases hl
  | some f =>
    rw [hq] at hl
    simp only [Option.map_some, Option.some.injEq] at hl
    simp [List.getD, hq, hl]

set_option maxHeartbeats 4000000 in
theorem files_any (base B : Nat) (fs : List File) (a : Ab) (w : World) (h : Is w base B fs a) :
    Calls Try.prog 22 #[.pointer (some ⟨B, 0, none⟩)] w (FilesOk a.ls w) := by
  obtain ⟨i0, hi, hz0, hz1, hz2⟩ := info_parts info_bytes
  have HI := Lib.hid h
  clear h
  go_enter Try.func22, Try.ntmps22
  go_wp2_with fail
  refine (copy_turn HI.out).mono ?_
  rintro e w1 ⟨gs, rfl, hi1, hk1⟩
  have HI1 := Lib.hid hi1
  have hs1 := hi1.1.blk.lt
  clear hi1
  have mk := make8 w1
  go_wp2_with fail
  clear mk
  have hkA : Kept Kno w (w1.alloc (.cells #[Value.int .i64 0, Value.int .i64 0, Value.int .i64 0, Value.int .i64 0, Value.int .i64 0, Value.int .i64 0, Value.int .i64 0, Value.int .i64 0] 3)) := hk1.alloc _
  have HIA := Lib.hid (HI1.out.kept0 ((Kept.refl Kno w1).alloc (.cells #[Value.int .i64 0, Value.int .i64 0, Value.int .i64 0, Value.int .i64 0, Value.int .i64 0, Value.int .i64 0, Value.int .i64 0, Value.int .i64 0] 3)))
  have HBA := Lib.hid (Blk.new w1 3 #[Value.int .i64 0, Value.int .i64 0, Value.int .i64 0, Value.int .i64 0, Value.int .i64 0, Value.int .i64 0, Value.int .i64 0, Value.int .i64 0])
  generalize w1.alloc (.cells #[Value.int .i64 0, Value.int .i64 0, Value.int .i64 0, Value.int .i64 0, Value.int .i64 0, Value.int .i64 0, Value.int .i64 0, Value.int .i64 0] 3) = wA at hkA HIA HBA ⊢
  go_loopw [17] (fun i wr => FillRel w wA w1.heap.size i wr) (fun i _ => 8 - (intOf i).toNat)
  case atStart => exact ⟨0, by omega, rfl, Kept.refl _ _, HBA.out⟩
  case round =>
    obtain ⟨k, hk, rfl, hkk, hb⟩ := hrel
    by_cases hlt : k < 8
    · have c1 : ∃ x : Int, wr.cell? ⟨w1.heap.size, k, none⟩ = some (.int .i64 x) := by
        rw [hb.cell]
        rcases k with _ | _ | _ | _ | _ | _ | _ | _ | k
        all_goals first | exact ⟨_, rfl⟩ | omega
      obtain ⟨x, c1⟩ := c1
      have c2 := hb.frozen k
      have hk0 : (0 : Int) ≤ (k : Int) := by omega
      have hk8 : (k : Int) < 8 := by omega
      have HB := Lib.hid hb
      have HKK := Lib.hid hkk
      clear hb hkk
      go_wp2
      go_roundw
      case rel => exact fill_step hlt HKK.out HB.out
      case measure => simp [intOf]; omega
    · have hk8 : ¬ (k : Int) < 8 := by omega
      obtain rfl : k = 8 := by omega
      have hne : w1.heap.size ≠ w.heap.size := by omega
      have hfn : ∀ f ∈ gs, ∀ k, f.v.ownBlock = some k → ¬ Kone w1.heap.size k := fun f hf k h1 h2 => by
        unfold Kone at h2
        have := (HI1.out.low (.inr ⟨f, hf, h1⟩)).2
        omega
      have hiF : Is wr w.heap.size w.heap.size gs a := ⟨HIA.out.1.kept hkk (fun h => hne h.symm) hfn, HIA.out.2⟩
      have hkF : Kept Kno w wr := hkA.trans hkk (fun i hi h => by unfold Kone at h; omega)
      have hkeep : ∀ w2, Kept (Kone w.heap.size) wr w2 → KeepIn w2 (.slice (some ⟨w1.heap.size, 0, none⟩) 8 8) keepAll := fun w2 h2 => keep_fill (hb.kept h2 hne)
      have HIF := Lib.hid hiF
      have HKP := Lib.hid hkeep
      clear hb hkk hfn hiF hkeep HIA HBA
      go_wp2_with fail
      refine (crash_any _ keepAll HIF.out HKP.out).mono ?_
      rintro e w2 ⟨rfl, ht⟩
      obtain ⟨fs2, hi2, hkk2, -⟩ := ht.is
      have hk2 : Kept Kno w w2 := HIF.out.kept hkF (Nat.le_refl _) hkk2
      have HI2 := Lib.hid hi2
      have hll : a.ls.length = 8 := by simp only [Ab.ls, List.length_map]; exact HI.out.len
      have HLL := Lib.hid hll
      clear ht hi2 hkk2 HIF HKP hll
      go_wp2_with fail
      go_loopw [6, 7] (fun s i wr => FilesRel w a.ls w.heap.size fs2 (a.crash keepAll) s i wr) (fun _ i _ => 8 - (intOf i).toNat)
      case atStart => exact ⟨0, [], by omega, rfl, rfl, ⟨World.ownsRow_nil _ _ _ _, rfl, fun i x l h => by simp at h⟩, HI2.out, hk2⟩
      case round =>
        obtain ⟨k', vs, hk', rfl, hvl, hls, hir, hkr⟩ := hrel
        have HLS := Lib.hid hls
        obtain ⟨As, caps, rfl⟩ := own_form hls.1
        have HIR := Lib.hid hir
        have HVL := Lib.hid hvl
        clear hls hir hvl
        by_cases hlt' : k' < 8
        · obtain ⟨l, hl⟩ : ∃ l, a.ls[k']? = some l := ⟨a.ls[k']'(by rw [HLL.out]; exact hlt'), List.getElem?_eq_getElem _⟩
          have HLk := Lib.hid hl
          have hk0 : (0 : Int) ≤ (k' : Int) := by omega
          have hk88 : (k' : Int) < 8 := by omega
          clear hl
          go_wp2_with fail
          refine (read_any k' HIR.out).mono ?_
          rw [crash_ls HI.out k' l HLk.out]
          rintro e w3 ⟨A3, cap3, rfl, hown3, hkk3⟩
          have hro : w3.ownsRow w.heap.size 33 1 (.slice As vs.length caps) vs.length vs := own_kept HLS.out.1 hkk3 (fun _ _ h => h)
          have HRO := Lib.hid hro
          have HO3 := Lib.hid hown3
          have hk3 : Kept Kno w w3 := hkr.then0 hkk3
          have m1 : vs.length + 1 ≤ maxLen := by rw [HVL.out]; simp only [maxLen]; omega
          have m2 : (vs.length + 1) * 24 ≤ 140737488355328 := by rw [HVL.out]; omega
          have hbz : w.heap.size ≤ w3.heap.size := hk3.size
          clear hro hown3
          go_wp2_with (at_builtin; go_must (refine wpList_append_rd _ rfl _ _ 46 rfl w.heap.size 33 i0 _ 1 24 Try.underlying46 hi hz0 hz1 hz2 rfl (by decide) (.slice As vs.length caps) vs.length vs rfl (HRO.out.alloc _) _ 1 [.slice A3 l.length cap3] rfl (Rd.one _ _ _ rfl) (by simp [Value.oneCell']) m1 m2 (by simp; omega) ?_); intro A4 cap4 w4 hown4 hg4 hat4)
          go_roundw
          case rel =>
            have hox : OwnB (w3.alloc (.cells #[.slice A3 l.length cap3] 33)) w.heap.size 5 (.slice A3 l.length cap3) l := own_rebase (World.ownsRow.alloc HO3.out _) (fun k hk => by have := (own_base HO3.out hk).1; have := hkr.size; omega)
            have hls3 : Ls (w3.alloc (.cells #[.slice A3 l.length cap3] 33)) w.heap.size (.slice As vs.length caps) vs (a.ls.take k') := HLS.out.kept0 (hkk3.alloc _)
            refine ⟨k' + 1, vs ++ [.slice A3 l.length cap3], by omega, by go_num, by simp [HVL.out], ?_, ?_, ?_⟩
            · have := ls_append hls3 hox hown4 hg4
              rw [List.take_add_one, HLk.out]
              exact this
            · have hkz : Kept (fun k => (Value.slice As vs.length caps).ownBlock = some k) (w3.alloc (.cells #[.slice A3 l.length cap3] 33)) w4 := (Kept.refl _ _).grown hg4 (fun k _ e => e)
              have hir4 := HIR.out.kept0 (hkk3.alloc (.cells #[.slice A3 l.length cap3] 33))
              refine ⟨hir4.1.kept hkz ?_ ?_, hir4.2⟩
              · exact own_blk_ne hls3.1 hir4.1.blk (by decide)
              · intro f hf k h1 h2
                rcases hls3.1.2 with ⟨h3, h4⟩ | ⟨g, cap, cur, h3, hb, hh, hnc, hcm, hs, ht⟩
                · rw [h3] at h2; simp [Value.ownBlock] at h2
                · rw [h3] at h2
                  have : g = k := by simpa [Value.ownBlock] using h2
                  subst this
                  exact own_blk_ne (hir4.1.files f hf).1 (t := 33) (cs := cur) hh (by decide) h1
            · exact (hk3.alloc _).grown hg4 (fun k hk e => by have := (own_base HRO.out e).1; omega)
          case measure => simp [intOf]; omega
        · have hk88 : ¬ (k' : Int) < 8 := by omega
          have hx : FilesOk a.ls w (.returned (.slice As vs.length caps)) wr := by
            have h1 := HLS.out
            rw [List.take_of_length_le (by rw [HLL.out]; omega)] at h1
            exact ⟨_, vs, rfl, h1, hkr⟩
          have HX := Lib.hid hx
          clear hx
          go_wp2
          go_ret
          exact HX.out

end Go.Proofs.Ytpkpinkjjknbdaa
