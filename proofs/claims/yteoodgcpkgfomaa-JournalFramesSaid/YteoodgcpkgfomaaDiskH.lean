/-
  Disk: Crash.
-/
import Derived.Test.YteoodgcpkgfomaaDiskE
namespace Go.Proofs.Yteoodgcpkgfomaa
open Go.RowKit
set_option linter.unusedVariables false

/-- The slice value v reads as the numbers ks. -/
def KeepIn (w : World) (v : Value) (ks : List Int) : Prop :=
  ∃ A cap, v = .slice A ks.length cap ∧ ks.length ≤ cap ∧ cap ≤ maxLen ∧ (0 < ks.length → ∃ g o, A = some ⟨g, o, none⟩ ∧ ∀ i x, ks[i]? = some x → w.cell? ⟨g, o + i, none⟩ = some (.int .i64 x))

theorem KeepIn.kept0 {w w' : World} {v : Value} {ks : List Int} (h : KeepIn w v ks) (hk : Kept Kno w w') : KeepIn w' v ks := by
  obtain ⟨A, cap, h1, h2, h3, h4⟩ := h
  refine ⟨A, cap, h1, h2, h3, fun h0 => ?_⟩
  obtain ⟨g, o, hA, hc⟩ := h4 h0
  exact ⟨g, o, hA, fun i x hx => hk.cell_some (hc i x hx) (fun h => h)⟩
theorem KeepIn.kept {w w' : World} {v : Value} {ks : List Int} {S : Nat → Prop} (h : KeepIn w v ks) (hk : Kept S w w') (hS : ∀ k, v.ownBlock = some k → k < w.heap.size → ¬ S k) : KeepIn w' v ks := by
  obtain ⟨A, cap, rfl, h2, h3, h4⟩ := h
  refine ⟨A, cap, rfl, h2, h3, fun h0 => ?_⟩
  obtain ⟨g, o, rfl, hc⟩ := h4 h0
  exact ⟨g, o, rfl, fun i x hx => hk.cell_some (hc i x hx) (hS g rfl (World.block_lt_of_cell? w ⟨g, o + i, none⟩ (hc i x hx)))⟩

def crashN (f : List UInt8 × Nat) (k : Option Int) : Nat :=
  match k with
  | none => f.2
  | some x => f.2 + min x.toNat (f.1.length - f.2)
def crashF (f : List UInt8 × Nat) (k : Option Int) : List UInt8 × Nat := (f.1.take (crashN f k), crashN f k)
def crashTo (m : Nat) (fs : List (List UInt8 × Nat)) (ks : List Int) : List (List UInt8 × Nat) := fs.mapIdx fun i f => if i < m then crashF f ks[i]? else f

theorem crashTo_zero (fs : List (List UInt8 × Nat)) (ks : List Int) : crashTo 0 fs ks = fs := by
  apply List.ext_getElem?
  intro i
  simp only [crashTo, List.getElem?_mapIdx, Nat.not_lt_zero, if_false]
  cases fs[i]? <;> rfl
theorem crashTo_length (m : Nat) (fs : List (List UInt8 × Nat)) (ks : List Int) : (crashTo m fs ks).length = fs.length := by simp [crashTo]
theorem crashTo_at (m : Nat) (fs : List (List UInt8 × Nat)) (ks : List Int) (i : Nat) : (crashTo m fs ks)[i]? = fs[i]?.map fun f => if i < m then crashF f ks[i]? else f := by
  simp only [crashTo, List.getElem?_mapIdx]
theorem crashTo_succ (m : Nat) (fs : List (List UInt8 × Nat)) (ks : List Int) (f : List UInt8 × Nat) (h : fs[m]? = some f) : (crashTo m fs ks).set m (crashF f ks[m]?) = crashTo (m + 1) fs ks := by
  apply List.ext_getElem?
  intro i
  rw [List.getElem?_set, crashTo_at, crashTo_at, crashTo_length]
  by_cases hi : m = i
  · subst hi
    have : m < fs.length := (List.getElem?_eq_some_iff.1 h).1
    rw [if_pos rfl, if_pos this, h]
    simp
  · simp only [if_neg hi]
    congr 1
    funext g
    by_cases h1 : i < m
    · rw [if_pos h1, if_pos (by omega)]
    · rw [if_neg h1, if_neg (by omega)]

theorem Turn.comp {base B : Nat} {fs fs1 : List File} {ab : Ab} {w w1 w2 : World} (hk : Kept (DK B fs) w w1) (hd : ∀ k, DK B fs1 k → DK B fs k ∨ w.heap.size ≤ k) (h : Turn base B fs1 ab w1 w2) : Turn base B fs ab w w2 := by
  obtain ⟨fs', h1, h2, h3, h4⟩ := h
  refine ⟨fs', h1, h2, hk.trans h3 (fun i hi hS => ?_), fun k hk' => ?_⟩
  · rcases hd i hS with h | h
    · exact h
    · omega
  · rcases h4 k hk' with h | h
    · exact hd k h
    · exact .inr (Nat.le_trans hk.size h)

theorem Turn.then0 {base B : Nat} {fs : List File} {ab : Ab} {w w1 w2 : World} (h : Turn base B fs ab w w1) (hk : Kept Kno w1 w2) : Turn base B fs ab w w2 := by
  obtain ⟨fs', h1, h2, h3, h4⟩ := h
  exact ⟨fs', h1.kept0 hk, h2, h3.then0 hk, h4⟩
theorem Turn.drew {base B : Nat} {fs : List File} {ab : Ab} {w w1 : World} (h : Turn base B fs ab w w1) : Turn base B fs ab w w1.drew := h.then0 (Kept.drew (Kept.refl _ _))

def CrashRel (base B : Nat) (room plan : Int) (fs : List File) (off : Bool) (ks : List Int) (w : World) (i : Value) (wr : World) : Prop :=
  ∃ k : Nat, k ≤ 8 ∧ i = .int .i64 k ∧ Kept (Kone B) w wr ∧ Turn base B fs ⟨room, crashTo k (fs.map File.ab) ks, off, plan⟩ w wr

theorem close_crash {base B i n : Nat} {room plan : Int} {fs fs1 : List File} {off : Bool} {f : File} {w wr : World} {A : Option Addr} {cap : Nat} {ks : List Int}
    (hd : Dsk wr base B room fs1 off plan) (habs : fs1.map File.ab = crashTo i (fs.map File.ab) ks) (hk : Kept (DK B fs) w wr) (hdk : ∀ k, DK B fs1 k → DK B fs k ∨ w.heap.size ≤ k) (hf : fs1[i]? = some f) (hv : f.v = .slice A f.l.length cap)
    (hn : n = crashN f.ab ks[i]?) (hle : n ≤ f.l.length) :
    Turn base B fs ⟨room, crashTo (i + 1) (fs.map File.ab) ks, off, plan⟩ w ((wr.setCell ⟨B, 1 + i * 2, none⟩ (.slice A n cap)).setCell ⟨B, 1 + i * 2 + 1, none⟩ (.int .i64 n)) := by
  have hm := List.mem_of_getElem? hf
  have hown := (hd.files f hm).1
  have hfit := hd.fits
  have h1 : (crashTo i (fs.map File.ab) ks)[i]? = some f.ab := by rw [← habs, List.getElem?_map, hf]; rfl
  have h2 : (fs.map File.ab)[i]? = some f.ab := by
    rw [crashTo_at] at h1
    simp only [Nat.lt_irrefl, if_false, Option.map_id'] at h1
    exact h1
  have e : crashTo (i + 1) (fs.map File.ab) ks = (fs1.map File.ab).set i (f.l.take n, n) := by
    rw [habs, ← crashTo_succ i _ ks f.ab h2, hn]
    rfl
  rw [e]
  refine Turn.comp hk hdk (close_vs hd hf (by rw [List.length_take]; omega) (Kept.refl _ wr) (own_cut (by have h9 : OwnB wr base 5 f.v f.l := hown; rw [hv] at h9; exact h9) hle) (fun k he => .inl (by rw [hv]; cases A <;> exact he)) (by rw [List.length_take]; omega))

set_option maxHeartbeats 4000000 in
theorem crash_loop (base B : Nat) (room plan : Int) (fs : List File) (off : Bool) (keep : Value) (ks : List Int) (w : World) (h : Dsk w base B room fs off plan) (hks : ∀ w1, Kept (Kone B) w w1 → KeepIn w1 keep ks) :
    Calls Try.prog 48 #[.pointer (some ⟨B, 0, none⟩), keep] w fun e w' => e = .returned (.tuple #[]) ∧ Turn base B fs ⟨room, crashTo 8 (fs.map File.ab) ks, false, 0⟩ w w' := by
  have HD := Lib.hid h
  have HK := Lib.hid hks
  obtain ⟨Ak, capk, rfl, hk1, hk2, -⟩ := hks w (Kept.refl _ _)
  have hm4 : ks.length ≤ 9223372036854775807 := by simp only [maxLen] at hk2; omega
  have hm5 : capk ≤ 9223372036854775807 := by simp only [maxLen] at hk2; omega
  clear h hks hk2
  go_enter Try.func48, Try.ntmps48
  go_wp2_with fail
  go_loopw [7] (fun i wr => CrashRel base B room plan fs off ks w i wr) (fun i _ => 8 - (intOf i).toNat)
  case atStart => exact ⟨0, by omega, rfl, Kept.refl _ _, by rw [crashTo_zero]; exact HD.out.turn0 (Kept.refl _ _)⟩
  case round =>
    obtain ⟨k, hk, rfl, hkk, fs1, hd1, habs, hkd, hdk⟩ := hrel
    have HD1 := Lib.hid hd1
    have HA := Lib.hid habs
    have HKK := Lib.hid hkk
    have HKD := Lib.hid hkd
    have HDK := Lib.hid hdk
    clear hd1 habs hkk hkd hdk
    by_cases hlt : k < 8
    · obtain ⟨f, hf⟩ : ∃ f, fs1[k]? = some f := ⟨fs1[k]'(by rw [HD1.out.len]; exact hlt), List.getElem?_eq_getElem (by rw [HD1.out.len]; exact hlt)⟩
      obtain ⟨c1, c2⟩ := HD1.out.c_file hf
      have f1 := HD1.out.blk.frozen (1 + k * 2)
      have f2 := HD1.out.blk.frozen (1 + k * 2 + 1)
      obtain ⟨hown, hsl⟩ := HD1.out.files f (List.mem_of_getElem? hf)
      obtain ⟨A, cap, hv⟩ := own_form hown
      have hcap := own_cap hown hv
      have HV := Lib.hid hv
      have HF := Lib.hid hf
      rw [hv] at c1
      have hu := used_le (List.mem_of_getElem? hf)
      have hr := HD1.out.room1
      have hfi := HD1.out.fits
      have hk0 : (0 : Int) ≤ (k : Int) := by omega
      have hk8 : (k : Int) < 8 := by omega
      have hcl : cap ≤ 9223372036854775807 := by have := hcap.2; simp only [maxLen] at this; omega
      have hcl2 := hcap.1
      clear hf hv hown hcap
      by_cases hkl : k < ks.length
      · obtain ⟨x, hx⟩ : ∃ x, ks[k]? = some x := ⟨ks[k], List.getElem?_eq_getElem hkl⟩
        obtain ⟨Ak', capk', hkv, -, -, hkc⟩ := HK.out wr HKK.out
        injection hkv with e1 e2 e3
        subst e1 e3
        obtain ⟨g, o, rfl, hcell⟩ := hkc (by omega)
        have c3 := hcell k x hx
        have HX := Lib.hid hx
        have hkl2 : (k : Int) < (ks.length : Int) := by omega
        clear hkc hcell hx e2
        have hn0 : (f.s : Int) ≤ f.l.length := by omega
        have hn1 : (f.s : Int) ≤ cap := by omega
        have hn2 : f.s ≤ cap := by omega
        have hd1 : IntKind.i64.wrap ((f.l.length : Int) - f.s) = (f.l.length : Int) - f.s := IntWalk.i64_in _ (by omega)
        have hd0 : ¬ ((f.l.length : Int) - f.s < 0) := by omega
        by_cases hx0 : x < 0
        · have hcn : f.s = crashN f.ab (some x) := by
            have : x.toNat = 0 := by omega
            simp [crashN, this, File.ab]
          have HC := Lib.hid (close_crash HD1.out HA.out HKD.out HDK.out HF.out HV.out (n := f.s) (by rw [HX.out]; exact hcn) hsl)
          clear hcn
          go_wp2_with fail
          go_quiet (fail)
          clear hd1
          go_wp2_with fail
          go_region
          all_goals
            go_wp2
            refine ⟨⟨k + 1, by omega, by go_num, ?_, HC.out.then0 ((Kept.refl _ _).drewN (nq + 1))⟩, by simp [intOf]; omega⟩
            exact (((HKK.out.drewN _).setIn (p := ⟨B, 1 + k * 2, none⟩) (Eq.refl B) _).setIn (p := ⟨B, 1 + k * 2 + 1, none⟩) (Eq.refl B) _)
        · obtain ⟨y, rfl⟩ : ∃ y : Nat, x = (y : Int) := ⟨x.toNat, by omega⟩
          obtain ⟨d, hd⟩ : ∃ d : Nat, f.l.length = f.s + d := ⟨f.l.length - f.s, by omega⟩
          have hcn : f.s + min y d = crashN f.ab (some (y : Int)) := by
            have : f.l.length - f.s = d := by omega
            simp [crashN, File.ab, this]
          have HC := Lib.hid (close_crash HD1.out HA.out HKD.out HDK.out HF.out HV.out (n := f.s + min y d) (by rw [HX.out]; exact hcn) (by omega))
          clear hcn
          have hsub : (f.l.length : Int) - f.s = (d : Int) := by omega
          rw [hsub] at hd1 hd0
          by_cases hyd : y ≤ d
          · rw [Nat.min_eq_left hyd] at HC
            have hy1 : ¬ (d : Int) < (y : Int) := by omega
            have hy2 : (y : Int) ≤ (d : Int) := by omega
            obtain ⟨t, ht⟩ : ∃ t : Nat, t = f.s + y := ⟨_, rfl⟩
            rw [← ht] at HC
            have hn3 : (t : Int) ≤ f.l.length := by omega
            have hn4 : (t : Int) ≤ cap := by omega
            have hn5 : t ≤ cap := by omega
            have hs1 : IntKind.i64.wrap ((f.s : Int) + y) = (t : Int) := by rw [IntWalk.i64_in _ (by omega)]; omega
            clear hd ht
            go_wp2_with fail
            go_quiet (fail)
            clear hd1
            go_wp2_with fail
            go_region
            clear hs1
            all_goals
              go_wp2
              refine ⟨⟨k + 1, by omega, by go_num, ?_, HC.out.then0 ((Kept.refl _ _).drewN (nq + 1))⟩, by simp [intOf]; omega⟩
              exact (((HKK.out.drewN _).setIn (p := ⟨B, 1 + k * 2, none⟩) (Eq.refl B) _).setIn (p := ⟨B, 1 + k * 2 + 1, none⟩) (Eq.refl B) _)
          · rw [Nat.min_eq_right (by omega)] at HC
            have hy1 : (d : Int) < (y : Int) := by omega
            have hy2 : ¬ (y : Int) ≤ (d : Int) := by omega
            obtain ⟨t, ht⟩ : ∃ t : Nat, t = f.s + d := ⟨_, rfl⟩
            rw [← ht] at HC
            have hn3 : (t : Int) ≤ f.l.length := by omega
            have hn4 : (t : Int) ≤ cap := by omega
            have hn5 : t ≤ cap := by omega
            have hs1 : IntKind.i64.wrap ((f.s : Int) + d) = (t : Int) := by rw [IntWalk.i64_in _ (by omega)]; omega
            clear hd ht
            go_wp2_with fail
            go_quiet (fail)
            clear hd1
            go_wp2_with fail
            go_region
            clear hs1
            all_goals
              go_wp2
              refine ⟨⟨k + 1, by omega, by go_num, ?_, HC.out.then0 ((Kept.refl _ _).drewN (nq + 1))⟩, by simp [intOf]; omega⟩
              exact (((HKK.out.drewN _).setIn (p := ⟨B, 1 + k * 2, none⟩) (Eq.refl B) _).setIn (p := ⟨B, 1 + k * 2 + 1, none⟩) (Eq.refl B) _)
      · have hkl2 : ¬ (k : Int) < (ks.length : Int) := by omega
        have hn0 : (f.s : Int) ≤ f.l.length := by omega
        have hn1 : (f.s : Int) ≤ cap := by omega
        have hn2 : f.s ≤ cap := by omega
        have HC := Lib.hid (close_crash HD1.out HA.out HKD.out HDK.out HF.out HV.out (n := f.s) (by rw [List.getElem?_eq_none (by omega)]; rfl) hsl)
        go_wp2_with fail
        go_region
        all_goals
          go_wp2
          refine ⟨⟨k + 1, by omega, by go_num, ?_, HC.out.drew⟩, by simp [intOf]; omega⟩
          exact ((HKK.out.setIn (p := ⟨B, 1 + k * 2, none⟩) (Eq.refl B) _).setIn (p := ⟨B, 1 + k * 2 + 1, none⟩) (Eq.refl B) _).drew
    · have hk8 : ¬ (k : Int) < 8 := by omega
      obtain rfl : k = 8 := by omega
      have c1 := HD1.out.c_off
      have c2 := HD1.out.c_plan
      have f1 := HD1.out.blk.frozen 17
      have f2 := HD1.out.blk.frozen 18
      have hs := (HD1.out.set_off false).set_plan (p := 0) (by omega) (by omega)
      have hkk : Kept (Kone B) wr ((wr.setCell ⟨B, 17, none⟩ (.bool false)).setCell ⟨B, 18, none⟩ (.int .i64 0)) := Kept.setIn (S := Kone B) (Kept.setIn (S := Kone B) (Kept.refl _ _) (p := ⟨B, 17, none⟩) (Eq.refl B) _) (p := ⟨B, 18, none⟩) (Eq.refl B) _
      have HT := Lib.hid (Turn.comp HKD.out HDK.out (hs.turn0 hkk))
      clear hs hkk
      go_wp2
      go_end0
      refine ⟨rfl, ?_⟩
      rw [← HA.out]
      exact HT.out

end Go.Proofs.Yteoodgcpkgfomaa
