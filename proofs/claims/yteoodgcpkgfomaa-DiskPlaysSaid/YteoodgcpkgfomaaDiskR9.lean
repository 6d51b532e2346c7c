/-
  The reference's disk: Copy.
-/
import Derived.Test.YteoodgcpkgfomaaDiskR7
import Derived.BigRegion
namespace Go.Proofs.Yteoodgcpkgfomaa
open Go.RowKit
set_option linter.unusedVariables false

def nilB : Value := .slice none 0 0

/-- The copy after k files. -/
def RCopyRel (a : Ab) (w : World) (i : Value) (wr : World) : Prop :=
  ∃ (k : Nat) (us : List Value), k ≤ 8 ∧ i = .int .i64 k ∧ us.length = k ∧ (∀ (j : Nat) (v : Value) (p : List UInt8 × Nat), us[j]? = some v → a.fs[j]? = some p → OwnB wr w.heap.size 5 v p.1) ∧
    Blk wr w.heap.size 79 (rCells a.room (us ++ List.replicate (8 - k) nilB) (a.fs.map (·.2)) a.plan a.off).toArray ∧ Kept Kno w wr

def RCopyOk (a : Ab) (w : World) (e : Ending) (w' : World) : Prop :=
  ∃ us, e = .returned (.pointer (some ⟨w.heap.size, 0, none⟩)) ∧ RIs w' w.heap.size w.heap.size us a ∧ Kept Kno w w'

theorem rcopy_step {a : Ab} {w wr w1 : World} {us : List Value} {k : Nat} {p : List UInt8 × Nat} {A : Option Addr} {cap : Nat} (hk : k < 8) (hp : a.fs[k]? = some p) (hu : us.length = k)
    (hf : ∀ (j : Nat) (v : Value) (p : List UInt8 × Nat), us[j]? = some v → a.fs[j]? = some p → OwnB wr w.heap.size 5 v p.1)
    (hb : Blk wr w.heap.size 79 (rCells a.room (us ++ List.replicate (8 - k) nilB) (a.fs.map (·.2)) a.plan a.off).toArray) (hkk : Kept Kno w wr)
    (hown : w1.ownsRow wr.heap.size 5 1 (.slice A p.1.length cap) p.1.length (p.1.map bv)) (hk1 : Kept Kno wr w1) :
    RCopyRel a w (.int .i64 ((k : Int) + 1)) (w1.setCell ⟨w.heap.size, 1 + k, none⟩ (.slice A p.1.length cap)) := by
  have hsz := hkk.size
  have hbl := hb.lt
  have hne : (Value.slice A p.1.length cap).ownBlock ≠ some w.heap.size := fun e => by have := (own_base hown e).1; omega
  have hb2 := (hb.kept hk1 (fun h => h)).set_ (1 + k) (.slice A p.1.length cap)
  have e : (rCells a.room (us ++ List.replicate (8 - k) nilB) (a.fs.map (·.2)) a.plan a.off).toArray.setIfInBounds (1 + k) (.slice A p.1.length cap) = (rCells a.room ((us ++ [.slice A p.1.length cap]) ++ List.replicate (8 - (k + 1)) nilB) (a.fs.map (·.2)) a.plan a.off).toArray := by
    rw [List.setIfInBounds_toArray, show 1 + k = k + 1 from by omega]
    congr 1
    simp only [rCells, List.set_cons_succ]
    rw [List.set_append_left _ _ (by simp; omega), List.set_append_right _ _ (by omega), hu, Nat.sub_self, show 8 - k = (8 - (k + 1)) + 1 by omega, List.replicate_succ, List.set_cons_zero]
    simp
  rw [e] at hb2
  refine ⟨k + 1, us ++ [.slice A p.1.length cap], by omega, by go_num, by simp [hu], fun j v q hv hq => ?_, hb2, (hkk.then0 hk1).setNew (Nat.le_refl _) _⟩
  by_cases hj : j < us.length
  · rw [List.getElem?_append_left hj] at hv
    have h2 := hf j v q hv hq
    exact own_far (own_kept h2 hk1 (fun _ _ h => h)) (own_blk_ne h2 hb (by decide)) _
  · rw [List.getElem?_append_right (by omega)] at hv
    have h0 : j - us.length = 0 := by
      have := (List.getElem?_eq_some_iff.1 hv).1
      simp at this
      omega
    rw [h0] at hv
    simp only [List.getElem?_cons_zero, Option.some.injEq] at hv
    subst hv
    obtain rfl : j = k := by omega
    rw [hp] at hq
    cases hq
    exact own_far (own_rebase hown (fun k hk => by have := (own_base hown hk).1; omega)) hne _

theorem index8_0 (v0 v1 v2 v3 v4 v5 v6 v7 : Value) (w : World) : (Instr.index 76 (.agg #[v0, v1, v2, v3, v4, v5, v6, v7]) (.int .i64 0)).run Try.prog w = .ok v0 w := by kernel_rfl
theorem index8_1 (v0 v1 v2 v3 v4 v5 v6 v7 : Value) (w : World) : (Instr.index 76 (.agg #[v0, v1, v2, v3, v4, v5, v6, v7]) (.int .i64 1)).run Try.prog w = .ok v1 w := by kernel_rfl
theorem index8_2 (v0 v1 v2 v3 v4 v5 v6 v7 : Value) (w : World) : (Instr.index 76 (.agg #[v0, v1, v2, v3, v4, v5, v6, v7]) (.int .i64 2)).run Try.prog w = .ok v2 w := by kernel_rfl
theorem index8_3 (v0 v1 v2 v3 v4 v5 v6 v7 : Value) (w : World) : (Instr.index 76 (.agg #[v0, v1, v2, v3, v4, v5, v6, v7]) (.int .i64 3)).run Try.prog w = .ok v3 w := by kernel_rfl
theorem index8_4 (v0 v1 v2 v3 v4 v5 v6 v7 : Value) (w : World) : (Instr.index 76 (.agg #[v0, v1, v2, v3, v4, v5, v6, v7]) (.int .i64 4)).run Try.prog w = .ok v4 w := by kernel_rfl
theorem index8_5 (v0 v1 v2 v3 v4 v5 v6 v7 : Value) (w : World) : (Instr.index 76 (.agg #[v0, v1, v2, v3, v4, v5, v6, v7]) (.int .i64 5)).run Try.prog w = .ok v5 w := by kernel_rfl
theorem index8_6 (v0 v1 v2 v3 v4 v5 v6 v7 : Value) (w : World) : (Instr.index 76 (.agg #[v0, v1, v2, v3, v4, v5, v6, v7]) (.int .i64 6)).run Try.prog w = .ok v6 w := by kernel_rfl
theorem index8_7 (v0 v1 v2 v3 v4 v5 v6 v7 : Value) (w : World) : (Instr.index 76 (.agg #[v0, v1, v2, v3, v4, v5, v6, v7]) (.int .i64 7)).run Try.prog w = .ok v7 w := by kernel_rfl
theorem run_index8 (v0 v1 v2 v3 v4 v5 v6 v7 v : Value) (k : Nat) (hv : [v0, v1, v2, v3, v4, v5, v6, v7][k]? = some v) (w : World) :
    (Instr.index 76 (.agg #[v0, v1, v2, v3, v4, v5, v6, v7]) (.int .i64 (k : Int))).run Try.prog w = .ok v w := by
  match k, hv with
  | 0, h => cases h; exact index8_0 _ _ _ _ _ _ _ _ w
  | 1, h => cases h; exact index8_1 _ _ _ _ _ _ _ _ w
  | 2, h => cases h; exact index8_2 _ _ _ _ _ _ _ _ w
  | 3, h => cases h; exact index8_3 _ _ _ _ _ _ _ _ w
  | 4, h => cases h; exact index8_4 _ _ _ _ _ _ _ _ w
  | 5, h => cases h; exact index8_5 _ _ _ _ _ _ _ _ w
  | 6, h => cases h; exact index8_6 _ _ _ _ _ _ _ _ w
  | 7, h => cases h; exact index8_7 _ _ _ _ _ _ _ _ w
  | n + 8, h => simp at h

set_option maxRecDepth 100000 in
set_option maxHeartbeats 4000000 in
theorem rcopy_any {w : World} {base B : Nat} {vs : List Value} {a : Ab} (h : RIs w base B vs a) :
    Calls Try.prog 58 #[.pointer (some ⟨B, 0, none⟩)] w (RCopyOk a w) := by
  obtain ⟨j0, hj, hy0, hy1, hy2⟩ := info_parts info_byte
  have HD := Lib.hid h
  have hc : ∀ i v, vs[i]? = some v → w.cell? ⟨B, 1 + i, none⟩ = some v := fun i v hv => h.c_file hv
  have hsy : ∀ i p, a.fs[i]? = some p → w.cell? ⟨B, 9 + i, none⟩ = some (.int .i64 p.2) := fun i p hp => h.c_sync hp
  have hform : ∀ (i : Nat) (v : Value) (p : List UInt8 × Nat), vs[i]? = some v → a.fs[i]? = some p → ∃ A cap, v = .slice A p.1.length cap := fun i v p hv hp => own_form (h.files i v p hv hp).1
  have r0 := h.c_room
  have r1 := h.c_plan
  have r2 := h.c_down
  have lB := h.blk.lt
  obtain ⟨v0, v1, v2, v3, v4, v5, v6, v7, rfl⟩ := list8 vs h.vlen
  obtain ⟨room, afs, off, plan⟩ := a
  obtain ⟨p0, p1, p2, p3, p4, p5, p6, p7, rfl⟩ := list8 afs h.len
  obtain ⟨A0, k0, rfl⟩ := hform 0 v0 p0 rfl rfl
  obtain ⟨A1, k1, rfl⟩ := hform 1 v1 p1 rfl rfl
  obtain ⟨A2, k2, rfl⟩ := hform 2 v2 p2 rfl rfl
  obtain ⟨A3, k3, rfl⟩ := hform 3 v3 p3 rfl rfl
  obtain ⟨A4, k4, rfl⟩ := hform 4 v4 p4 rfl rfl
  obtain ⟨A5, k5, rfl⟩ := hform 5 v5 p5 rfl rfl
  obtain ⟨A6, k6, rfl⟩ := hform 6 v6 p6 rfl rfl
  obtain ⟨A7, k7, rfl⟩ := hform 7 v7 p7 rfl rfl
  have c0 := hc 0 _ rfl
  have c1 := hc 1 _ rfl
  have c2 := hc 2 _ rfl
  have c3 := hc 3 _ rfl
  have c4 := hc 4 _ rfl
  have c5 := hc 5 _ rfl
  have c6 := hc 6 _ rfl
  have c7 := hc 7 _ rfl
  have s0 := hsy 0 _ rfl
  have s1 := hsy 1 _ rfl
  have s2 := hsy 2 _ rfl
  have s3 := hsy 3 _ rfl
  have s4 := hsy 4 _ rfl
  have s5 := hsy 5 _ rfl
  have s6 := hsy 6 _ rfl
  have s7 := hsy 7 _ rfl
  simp only [Nat.reduceAdd] at c0 c1 c2 c3 c4 c5 c6 c7 s0 s1 s2 s3 s4 s5 s6 s7
  simp only at r0 r1 r2
  clear h hc hform hsy
  go_enter Try.func58, Try.ntmps58
  go_wp2_with fail
  go_region
  go_wp2_with fail
  have h0 : RCopyRel ⟨room, [p0, p1, p2, p3, p4, p5, p6, p7], off, plan⟩ w (.int .i64 0) ((w.alloc (.cells #[.int .i64 room, .slice none 0 0, .slice none 0 0, .slice none 0 0, .slice none 0 0, .slice none 0 0, .slice none 0 0, .slice none 0 0, .slice none 0 0, .int .i64 (p0.2 : Int), .int .i64 (p1.2 : Int), .int .i64 (p2.2 : Int), .int .i64 (p3.2 : Int), .int .i64 (p4.2 : Int), .int .i64 (p5.2 : Int), .int .i64 (p6.2 : Int), .int .i64 (p7.2 : Int), .int .i64 plan, .bool off] 79)).drew) :=
    ⟨0, [], by omega, rfl, rfl, (fun j v p hv => by simp at hv), (Blk.new w _ _).drew, ((Kept.refl _ _).alloc _).drew⟩
  generalize (w.alloc (.cells #[.int .i64 room, .slice none 0 0, .slice none 0 0, .slice none 0 0, .slice none 0 0, .slice none 0 0, .slice none 0 0, .slice none 0 0, .slice none 0 0, .int .i64 (p0.2 : Int), .int .i64 (p1.2 : Int), .int .i64 (p2.2 : Int), .int .i64 (p3.2 : Int), .int .i64 (p4.2 : Int), .int .i64 (p5.2 : Int), .int .i64 (p6.2 : Int), .int .i64 (p7.2 : Int), .int .i64 plan, .bool off] 79)).drew = w0 at h0 ⊢
  have H0 := Lib.hid h0
  clear h0 c0 c1 c2 c3 c4 c5 c6 c7 s0 s1 s2 s3 s4 s5 s6 s7 r0 r1 r2
  go_loopw [28] (fun i wr => RCopyRel ⟨room, [p0, p1, p2, p3, p4, p5, p6, p7], off, plan⟩ w i wr) (fun i _ => 8 - (intOf i).toNat)
  case atStart => exact H0.out
  case round =>
    obtain ⟨k, us, hk, rfl, hul, hfi, hb, hkk⟩ := hrel
    by_cases hlt : k < 8
    · obtain ⟨v, p, hv, hp, -⟩ := HD.out.file hlt
      have hdr := HD.out.kept0 hkk
      have hown := (hdr.files k v p hv hp).1
      obtain ⟨Ax, kx, hvf⟩ := own_form hown
      have hx := run_index8 _ _ _ _ _ _ _ _ v k hv
      rw [hvf] at hx
      have hu := used_file hp
      have hr := HD.out.room1
      have hft := HD.out.fits
      simp only at hu hr hft
      have hl : p.1.length ≤ 16777216 := by omega
      have HBS : Hid (Rd wr 1 (.slice Ax p.1.length kx) p.1.length (p.1.map bv)) := Lib.hid (by have := OwnB.bs hown; rw [hvf] at this; exact this)
      have d1 : wr.cell? ⟨w.heap.size, 1 + k, none⟩ = some (.slice none 0 0) := by
        rw [hb.cell, show 1 + k = k + 1 from by omega]
        simp only [rCells, List.getElem?_toArray, List.getElem?_cons_succ]
        rw [List.getElem?_append_left (by simp; omega), List.getElem?_append_right (by omega), hul, Nat.sub_self, List.getElem?_replicate, if_pos (by omega)]
        rfl
      have d2 := hb.frozen (1 + k)
      have lN := hb.lt
      have HR := Lib.hid (And.intro hul (And.intro hfi (And.intro hb hkk)))
      have HP := Lib.hid hp
      have hk0 : (0 : Int) ≤ (k : Int) := by omega
      have hk8 : (k : Int) < 8 := by omega
      have M0 := Lib.hid (World.ownsRow_made (base := wr.heap.size) (e := 5) (size := 1) wr #[] 0 (Nat.le_refl _) (by decide) rfl)
      have m1 : 0 + p.1.length ≤ maxLen := by simp only [maxLen]; omega
      clear hul hfi hb hkk hp hdr hown hv hvf hu hr hft H0
      go_wp2_with fail
      go_region_law ((refine step_append_rd _ (by rfl) _ _ 30 (by rfl) wr.heap.size 5 j0 _ 1 1 Try.underlying30 hj hy0 hy1 hy2 rfl (by omega) (.slice (some ⟨wr.heap.size, 0, none⟩) 0 0) 0 [] (by rfl) M0.out _ p.1.length (p.1.map bv) (by rfl) (Rd.alloc HBS.out _) (bvs_one p.1) m1 (by omega) (by simp) ?_
                      intro A1 cap1 wa hown1 hg1 hat1
                      have hka : Kept Kno wr wa := (Kept.drew (Kept.alloc (Kept.refl _ wr) _)).grown hg1 (fun k hk e => by cases e; exact absurd hk (Nat.lt_irrefl _))
                      have q : wa.cell? ⟨w.heap.size, 1 + k, none⟩ = some (.slice none 0 0) := hka.cell_some d1 (fun h => h)
                      have q' : wa.frozen? ⟨w.heap.size, 1 + k, none⟩ = false := hka.frozen_no d2 lN (fun h => h)
                      simp only [Nat.zero_add, List.nil_append] at hown1
                      rw [Nat.zero_add]))
      all_goals
        go_wp2
        go_roundw
        case rel => obtain ⟨r1, r2, r3, r4⟩ := HR.out; exact rcopy_step hlt HP.out r1 r2 r3 r4 hown1 hka
        case measure => simp [intOf]; omega
    · have hk8 : ¬ (k : Int) < 8 := by omega
      obtain rfl : k = 8 := by omega
      rw [show 8 - 8 = 0 from rfl, List.replicate_zero, List.append_nil] at hb
      have hx : RCopyOk ⟨room, [p0, p1, p2, p3, p4, p5, p6, p7], off, plan⟩ w (.returned (.pointer (some ⟨w.heap.size, 0, none⟩))) wr :=
        ⟨us, rfl, ⟨Nat.le_refl _, hb, hul, HD.out.len, fun i v p hv hp => ⟨hfi i v p hv hp, by
          obtain ⟨v9, p9, h91, h92, -⟩ := HD.out.file (i := i) (by have := (List.getElem?_eq_some_iff.1 hv).1; omega)
          have := (HD.out.files i v9 p h91 hp).2
          exact this⟩, HD.out.fits, HD.out.room0, HD.out.room1, HD.out.plan0, HD.out.plan1⟩, hkk⟩
      have HX := Lib.hid hx
      clear hul hfi hb hkk hx H0
      go_wp2
      go_ret
      exact HX.out

end Go.Proofs.Yteoodgcpkgfomaa
