/-
  Contracts and plain laws that the claim's theorem rests on, some texts in one file.
-/
import Derived.Test.YteoodgcpkgfomaaM11
/-
  The reference's journal: Scan.
-/
namespace Go.Proofs.Yteoodgcpkgfomaa
open Go.RowKit
set_option linter.unusedVariables false

set_option maxRecDepth 100000 in
set_option maxHeartbeats 1000000 in
theorem rscan_any (v : Value) (l : List UInt8) (w : World) (hb : Bs w v l) (hl : l.length ≤ 1000000) :
    Calls Try.prog 72 #[v] w (ScanOk l w) := by
  obtain ⟨j0, hj0, hy0, hy1, hy2⟩ := info_parts info_recs
  have HB := Lib.hid hb
  obtain ⟨A0, c0, rfl, hc0, -⟩ := hb
  go_enter Try.func72, Try.ntmps72
  go_wp2_with fail
  go_loopw [5, 6] (fun recs at_ wr => ScanRel l w recs at_ wr) (fun _ at_ _ => l.length - (intOf at_).toNat)
  case atStart => exact ⟨0, [], none, 0, [], rfl, rfl, by omega, rfl, ⟨World.ownsRow_nil _ _ _ _, fun i x b hx => by simp at hx⟩, Kept.refl _ _, by simp⟩
  case round =>
    obtain ⟨k, rs, A, cap, us, rfl, rfl, hk, hkf, hrr, hkk, hsc⟩ := hrel
    have HRR := Lib.hid hrr
    have HKK := Lib.hid hkk
    have HSC := Lib.hid hsc
    have HKF := Lib.hid hkf
    have HBR := Lib.hid (Rd.kept0 HB.out hkk)
    have hrl : rs.length ≤ 1000000 := by have := frames_ge rs; omega
    clear hrr hkk hsc hkf
    by_cases hlt : k < l.length
    · have hk1 : (k : Int) < (l.length : Int) := by omega
      have hne : ¬ ((k : Int) < 0 ∨ (l.length : Int) < k ∨ (1048576 : Int) < 0) := by omega
      have h0l : 0 < (l.drop k).length := by rw [List.length_drop]; omega
      cases ht : textAt l k 1048576 with
      | error c =>
        have HR : Hid (textRes l k 1048576 = ([], 0, c)) := Lib.hid (by simp only [textRes, if_neg hne, Int.toNat_natCast, Int.reduceToNat, ht])
        have HE : Hid (scan (l.drop k) = ([], 0, c)) := Lib.hid (scan_err h0l (by rw [← textAt_at]; exact ht))
        have hcz : c ≠ 0 := by
          intro hc
          have h9 := (scan_any (l.drop k)).2.2.2.2
          rw [HE.out] at h9
          have h8 := h9 hc
          simp only at h8
          omega
        have HF : Hid (scan l = (rs, k, c)) := Lib.hid (by rw [HSC.out, HE.out]; simp)
        have hok : scanOk l = (decide (c = 20) && possB (l.drop k)) := by
          unfold scanOk
          rw [HF.out]
          simp only [hcz, decide_false, Bool.false_or]
        have HOK := Lib.hid hok
        clear hok ht hne h0l
        by_cases hc20 : c = 20
        · subst hc20
          have HD : Hid (Bs wr (.slice (A0.map fun x => x.add k) (l.length - k) (c0 - k)) (l.drop k)) := Lib.hid (by
            have h9 := Bs.drop HBR.out hk
            unfold sliced at h9
            rw [if_neg (by omega)] at h9
            simpa only [Nat.mul_one] using h9)
          have kz : (0 : Int) ≤ (k : Int) := by omega
          have kl : (k : Int) ≤ (l.length : Int) := by omega
          have kc : (l.length : Int) ≤ (c0 : Int) := by omega
          clear hcz
          go_wp2_with fail
          refine (refTextF_any _ l k 1048576 wr HBR.out hl (by omega)).mono ?_
          rw [HR.out]
          rintro e w1 ⟨rfl, rfl⟩
          go_wp2_with fail
          refine (possible_any _ _ wr HD.out (by rw [List.length_drop]; omega)).mono ?_
          rintro e w2 ⟨rfl, hk2⟩
          go_wp2
          go_ret3
          unfold ScanOk
          rw [HOK.out, HF.out]
          exact ⟨A, cap, us, rfl, HRR.out.kept0 hk2, HKK.out.then0 hk2⟩
        · have hc2 : (c == 20) = false := by simpa using hc20
          go_wp2_with fail
          refine (refTextF_any _ l k 1048576 wr HBR.out hl (by omega)).mono ?_
          rw [HR.out]
          rintro e w1 ⟨rfl, rfl⟩
          go_wp2
          go_ret3
          unfold ScanOk
          rw [HOK.out, HF.out, decide_eq_false hc20]
          exact ⟨A, cap, us, rfl, HRR.out, HKK.out⟩
      | ok p =>
        obtain ⟨b, j⟩ := p
        have HR : Hid (textRes l k 1048576 = (b, k + j, 0)) := Lib.hid (by simp only [textRes, if_neg hne, Int.toNat_natCast, Int.reduceToNat, ht])
        have ht' : textAt (l.drop k) 0 1048576 = .ok (b, j) := by rw [← textAt_at]; exact ht
        have HE : Hid (scan (l.drop k) = (b :: (scan (l.drop (k + j))).1, j + (scan (l.drop (k + j))).2.1, (scan (l.drop (k + j))).2.2)) := Lib.hid (by rw [scan_ok h0l ht', List.drop_drop])
        obtain ⟨t1, -, t3, t4⟩ := text_one ht'
        rw [List.length_drop] at t4
        have tp := frame_pos b
        have hfr : (frames (rs ++ [b])).length = k + j := by rw [frames_snoc, List.length_append, ← HKF.out, t1]
        have HFR := Lib.hid hfr
        have hjp : 0 < j := by omega
        clear ht ht' hne h0l t1 tp hfr
        obtain ⟨cp, w2, hcv, hrec, hk2⟩ := bytes_conv wr w.heap.size b HKK.out.size
        have HRC := Lib.hid hrec
        have HK2 := Lib.hid hk2
        have hs2 : w.heap.size ≤ w2.heap.size := Nat.le_trans HKK.out.size hk2.size
        have HRR2 := Lib.hid (HRR.out.kept0 hk2)
        have mm : rs.length + 1 ≤ maxLen := by simp only [maxLen]; omega
        clear hrec hk2
        go_wp2_with fail
        refine (refTextF_any _ l k 1048576 wr HBR.out hl (by omega)).mono ?_
        rw [HR.out]
        rintro e w1 ⟨rfl, rfl⟩
        simp only [strOf]
        go_wp2_with (at_builtin; (refine wpList_append_rd _ rfl _ _ 45 rfl w.heap.size 30 j0 _ 1 24 Try.underlying45 hj0 hy0 hy1 hy2 rfl (by decide) (.slice A rs.length cap) rs.length us rfl (World.ownsRow.alloc HRR2.out.row _) _ 1 [.slice (some ⟨wr.heap.size, 0, none⟩) b.length cp] rfl (Rd.one _ _ _ rfl) (by simp [Value.oneCell']) mm (by omega) (by simp; omega) ?_); intro A3 cap3 w3 hown3 hg3 hat3)
        go_roundw
        case rel =>
          have hkA : Kept Kno w2 (w2.alloc (.cells #[.slice (some ⟨wr.heap.size, 0, none⟩) b.length cp] 30)) := (Kept.refl _ _).alloc _
          refine ⟨k + j, rs ++ [b], A3, cap3, us ++ [.slice (some ⟨wr.heap.size, 0, none⟩) b.length cp], by go_num, by simp, by omega, HFR.out.symm, ?_, ?_, ?_⟩
          · have h9 := (HRR2.out.kept0 hkA).grow (HRC.out.kept0 hkA) hg3 hown3
            rw [List.length_append]
            exact h9
          · exact ((HKK.out.then0 HK2.out).then0 hkA).grown hg3 (fun q hq e => by have := (own_base HRR2.out.row e).1; omega)
          · rw [HSC.out, HE.out]
            simp [Nat.add_assoc]
        case measure => simp [intOf]; omega
    · have hk1 : ¬ (k : Int) < (l.length : Int) := by omega
      have HF : Hid (scan l = (rs, k, 0)) := Lib.hid (by rw [HSC.out, List.drop_eq_nil_of_le (by omega), scan_nil]; simp)
      have hok : scanOk l = true := by
        unfold scanOk
        rw [HF.out]
        rfl
      have HOK := Lib.hid hok
      clear hok
      go_wp2
      go_ret3
      unfold ScanOk
      rw [HOK.out, HF.out]
      exact ⟨A, cap, us, rfl, HRR.out, HKK.out⟩

end Go.Proofs.Yteoodgcpkgfomaa
/-
  The reference's disk: what it is in memory; begin, fails, Off, Fail, Used.
-/
namespace Go.Proofs.Yteoodgcpkgfomaa
open Go.RowKit
set_option linter.unusedVariables false

def rCells (room : Int) (vs : List Value) (ss : List Nat) (plan : Int) (down : Bool) : List Value :=
  .int .i64 room :: (vs ++ ((ss.map fun (s : Nat) => Value.int .i64 (s : Int)) ++ [.int .i64 plan, .bool down]))

/-- Block B is the reference's disk a; vs are its files' slices. -/
structure RIs (w : World) (base B : Nat) (vs : List Value) (a : Ab) : Prop where
  low : base ≤ B
  blk : Blk w B 79 (rCells a.room vs (a.fs.map (·.2)) a.plan a.off).toArray
  vlen : vs.length = 8
  len : a.fs.length = 8
  files : ∀ (i : Nat) (v : Value) (p : List UInt8 × Nat), vs[i]? = some v → a.fs[i]? = some p → OwnB w base 5 v p.1 ∧ p.2 ≤ p.1.length
  fits : (a.used : Int) ≤ a.room
  room0 : 0 ≤ a.room
  room1 : a.room ≤ 16777216
  plan0 : 0 ≤ a.plan
  plan1 : a.plan ≤ 9223372036854775807

section
variable {w w' : World} {base B : Nat} {vs : List Value} {a : Ab}
theorem RIs.kept {S : Nat → Prop} (h : RIs w base B vs a) (hk : Kept S w w') (hB : ¬ S B) (hf : ∀ v ∈ vs, ∀ k, v.ownBlock = some k → ¬ S k) : RIs w' base B vs a :=
  ⟨h.low, h.blk.kept hk hB, h.vlen, h.len, fun i v p hv hp => ⟨own_kept (h.files i v p hv hp).1 hk (hf v (List.mem_of_getElem? hv)), (h.files i v p hv hp).2⟩, h.fits, h.room0, h.room1, h.plan0, h.plan1⟩
theorem RIs.kept0 (h : RIs w base B vs a) (hk : Kept Kno w w') : RIs w' base B vs a := h.kept hk (fun h => h) (fun _ _ _ _ h => h)
theorem RIs.c_room (h : RIs w base B vs a) : w.cell? ⟨B, 0, none⟩ = some (.int .i64 a.room) := h.blk.cell 0
theorem RIs.c_file (h : RIs w base B vs a) {i : Nat} {v : Value} (hv : vs[i]? = some v) : w.cell? ⟨B, 1 + i, none⟩ = some v := by
  have hi : i < vs.length := (List.getElem?_eq_some_iff.1 hv).1
  rw [h.blk.cell, show 1 + i = i + 1 from by omega]
  simp only [rCells, List.getElem?_toArray, List.getElem?_cons_succ]
  rw [List.getElem?_append_left hi, hv]
theorem RIs.c_sync (h : RIs w base B vs a) {i : Nat} {p : List UInt8 × Nat} (hp : a.fs[i]? = some p) : w.cell? ⟨B, 9 + i, none⟩ = some (.int .i64 p.2) := by
  have hi : i < a.fs.length := (List.getElem?_eq_some_iff.1 hp).1
  have hl := h.vlen
  rw [h.blk.cell, show 9 + i = (8 + i) + 1 from by omega]
  simp only [rCells, List.getElem?_toArray, List.getElem?_cons_succ]
  rw [List.getElem?_append_right (by omega), hl, show 8 + i - 8 = i by omega, List.getElem?_append_left (by simp; omega), List.map_map, List.getElem?_map, hp]
  rfl
theorem RIs.c_plan (h : RIs w base B vs a) : w.cell? ⟨B, 17, none⟩ = some (.int .i64 a.plan) := by
  have hl := h.vlen
  have hl2 := h.len
  rw [h.blk.cell, show 17 = 16 + 1 from rfl]
  simp only [rCells, List.getElem?_toArray, List.getElem?_cons_succ]
  rw [List.getElem?_append_right (by omega), hl, List.getElem?_append_right (by simp; omega)]
  simp [hl2]
theorem RIs.c_down (h : RIs w base B vs a) : w.cell? ⟨B, 18, none⟩ = some (.bool a.off) := by
  have hl := h.vlen
  have hl2 := h.len
  rw [h.blk.cell, show 18 = 17 + 1 from rfl]
  simp only [rCells, List.getElem?_toArray, List.getElem?_cons_succ]
  rw [List.getElem?_append_right (by omega), hl, List.getElem?_append_right (by simp; omega)]
  simp [hl2]
theorem RIs.own_B (h : RIs w base B vs a) {v : Value} (hv : v ∈ vs) : v.ownBlock ≠ some B := by
  obtain ⟨i, hi⟩ := List.mem_iff_getElem?.1 hv
  have hl := h.vlen
  have hl2 := h.len
  have hlt : i < vs.length := (List.getElem?_eq_some_iff.1 hi).1
  exact own_blk_ne (h.files i v _ hi (List.getElem?_eq_getElem (by omega))).1 h.blk (by decide)
end

/-- The blocks that a call of the reference may change: its own. -/
def VsFrom (vs vs' : List Value) (n : Nat) : Prop := ∀ v ∈ vs', ∀ k, v.ownBlock = some k → (∃ u ∈ vs, u.ownBlock = some k) ∨ n ≤ k
theorem VsFrom.refl (vs : List Value) (n : Nat) : VsFrom vs vs n := fun v hv k hk => .inl ⟨v, hv, hk⟩
theorem VsFrom.trans {us vs ws : List Value} {n m : Nat} (h : VsFrom us vs n) (h2 : VsFrom vs ws m) (hnm : n ≤ m) : VsFrom us ws n := fun v hv k hk => by
  rcases h2 v hv k hk with ⟨u, hu, he⟩ | h3
  · exact h u hu k he
  · exact .inr (Nat.le_trans hnm h3)
theorem VsFrom.low {us vs : List Value} {n m : Nat} (h : VsFrom us vs n) (hnm : m ≤ n) : VsFrom us vs m := fun v hv k hk => by
  rcases h v hv k hk with h3 | h3
  · exact .inl h3
  · exact .inr (Nat.le_trans hnm h3)
theorem VsFrom.set (vs : List Value) (i : Nat) (v : Value) {n : Nat} (h : ∀ k, v.ownBlock = some k → n ≤ k) : VsFrom vs (vs.set i v) n := fun u hu k hk => by
  rcases List.mem_or_eq_of_mem_set hu with h1 | rfl
  · exact .inl ⟨u, h1, hk⟩
  · exact .inr (h k hk)
def RTurn (base B : Nat) (vs : List Value) (a : Ab) (w w' : World) : Prop := (∃ vs', RIs w' base B vs' a ∧ VsFrom vs vs' w.heap.size) ∧ Kept (Kone B) w w'

set_option maxHeartbeats 400000 in
theorem rbegin_any (i : Int) {w : World} {base B : Nat} {vs : List Value} {a : Ab} (h : RIs w base B vs a) :
    Calls Try.prog 61 #[.pointer (some ⟨B, 0, none⟩), .int .i64 i] w fun e w' => e = .returned (.int .i64 (checkOf a.off i)) ∧ w = w' := by
  have c1 := h.c_down
  clear h
  obtain ⟨room, afs, off, plan⟩ := a
  simp only at c1 ⊢
  cases off with
  | true =>
    have hx : checkOf true i = 220 := rfl
    rw [hx]
    go_enter Try.func61, Try.ntmps61
    go_wp2
    go_ret
    exact ⟨rfl, rfl⟩
  | false =>
    by_cases hi : i < 0 ∨ 8 ≤ i
    · have hx : checkOf false i = 1 := by simp [checkOf, hi]
      rw [hx]
      clear hx
      by_cases h0 : i < 0
      · go_enter Try.func61, Try.ntmps61
        go_wp2
        go_ret
        exact ⟨rfl, rfl⟩
      · have h8 : 8 ≤ i := by omega
        clear hi
        go_enter Try.func61, Try.ntmps61
        go_wp2
        go_ret
        exact ⟨rfl, rfl⟩
    · have hx : checkOf false i = 0 := by simp [checkOf, hi]
      rw [hx]
      have h0 : ¬ i < 0 := by omega
      have h8 : ¬ 8 ≤ i := by omega
      clear hx hi
      go_enter Try.func61, Try.ntmps61
      go_wp2
      go_ret
      exact ⟨rfl, rfl⟩

set_option maxHeartbeats 400000 in
theorem roff_any {w : World} {base B : Nat} {vs : List Value} {a : Ab} (h : RIs w base B vs a) :
    Calls Try.prog 16 #[.pointer (some ⟨B, 0, none⟩)] w fun e w' => e = .returned (.bool a.off) ∧ w = w' := by
  have c1 := h.c_down
  clear h
  go_enter Try.func16, Try.ntmps16
  go_wp2
  go_ret
  exact ⟨rfl, rfl⟩

theorem set_two (L : List Value) (n : Nat) (hL : L.length = n) (p d p' d' : Value) : ((L ++ [p, d]).set n p').set (n + 1) d' = L ++ [p', d'] := by
  subst hL
  rw [List.set_append_right _ _ (Nat.le_refl _), Nat.sub_self, List.set_append_right _ _ (by omega), show L.length + 1 - L.length = 1 by omega]
  rfl
/-- The plan and the power set anew. -/
theorem RIs.set_pd {w : World} {base B : Nat} {vs : List Value} {a : Ab} (h : RIs w base B vs a) (plan : Int) (down : Bool) (h0 : 0 ≤ plan) (h1 : plan ≤ 9223372036854775807) :
    RIs ((w.setCell ⟨B, 17, none⟩ (.int .i64 plan)).setCell ⟨B, 18, none⟩ (.bool down)) base B vs ⟨a.room, a.fs, down, plan⟩ := by
  have hl := h.vlen
  have hl2 := h.len
  have hk : Kept (Kone B) w ((w.setCell ⟨B, 17, none⟩ (.int .i64 plan)).setCell ⟨B, 18, none⟩ (.bool down)) := Kept.setIn (S := Kone B) (Kept.setIn (S := Kone B) (Kept.refl _ _) (p := ⟨B, 17, none⟩) (Eq.refl _) _) (p := ⟨B, 18, none⟩) (Eq.refl _) _
  refine ⟨h.low, ?_, h.vlen, h.len, fun i v p hv hp => ⟨own_kept (h.files i v p hv hp).1 hk (fun k hk' e => ?_), (h.files i v p hv hp).2⟩, h.fits, h.room0, h.room1, h0, h1⟩
  · have h2 := (h.blk.set_ 17 (.int .i64 plan)).set_ 18 (.bool down)
    have e : ((rCells a.room vs (a.fs.map (·.2)) a.plan a.off).toArray.setIfInBounds 17 (.int .i64 plan)).setIfInBounds 18 (.bool down) = (rCells a.room vs (a.fs.map (·.2)) plan down).toArray := by
      rw [List.setIfInBounds_toArray, List.setIfInBounds_toArray]
      congr 1
      simp only [rCells, show 17 = 16 + 1 from rfl, show 18 = 17 + 1 from rfl, List.set_cons_succ]
      rw [← List.append_assoc, ← List.append_assoc, set_two _ 16 (by simp [hl, hl2])]
    rw [e] at h2
    exact h2
  · unfold Kone at e
    subst e
    exact h.own_B (List.mem_of_getElem? hv) hk'

end Go.Proofs.Yteoodgcpkgfomaa
/-
  The reference's disk: fails, Fail, Used.
-/
namespace Go.Proofs.Yteoodgcpkgfomaa
open Go.RowKit
set_option linter.unusedVariables false

/-- What a change finds: does the power fail at it, and what is left of the plan. -/
def failsTo (a : Ab) : Ab := if a.plan = 0 then a else ⟨a.room, a.fs, decide (a.plan = 1), a.plan - 1⟩

set_option maxHeartbeats 800000 in
theorem rfails_any {w : World} {base B : Nat} {vs : List Value} {a : Ab} (h : RIs w base B vs a) (hoff : a.off = false) :
    Calls Try.prog 71 #[.pointer (some ⟨B, 0, none⟩)] w fun e w' => e = .returned (.bool (decide (a.plan = 1))) ∧ RIs w' base B vs (failsTo a) ∧ Kept (Kone B) w w' := by
  have H := Lib.hid h
  have c0 := h.c_plan
  have c1 := h.c_down
  have f0 := h.blk.frozen 17
  have f1 := h.blk.frozen 18
  have p0 := h.plan0
  have p1 := h.plan1
  rw [hoff] at c1
  by_cases hp : a.plan = 0
  · have e1 : decide (a.plan = 1) = false := by simp; omega
    have e2 : failsTo a = a := by unfold failsTo; rw [if_pos hp]
    rw [e1, e2]
    have q : ¬ (0 : Int) < a.plan := by omega
    generalize a.plan = plan at c0 q p0 p1
    clear h e1 e2 hp
    go_enter Try.func71, Try.ntmps71
    go_wp2
    go_ret
    exact ⟨rfl, H.out, Kept.refl _ _⟩
  · have e2 : failsTo a = ⟨a.room, a.fs, decide (a.plan = 1), a.plan - 1⟩ := by unfold failsTo; rw [if_neg hp]
    rw [e2]
    have q : (0 : Int) < a.plan := by omega
    have hs : RIs ((w.setCell ⟨B, 17, none⟩ (.int .i64 (a.plan - 1))).setCell ⟨B, 18, none⟩ (.bool (decide (a.plan = 1)))) base B vs ⟨a.room, a.fs, decide (a.plan = 1), a.plan - 1⟩ := h.set_pd _ _ (by omega) (by omega)
    have hk : Kept (Kone B) w ((w.setCell ⟨B, 17, none⟩ (.int .i64 (a.plan - 1))).setCell ⟨B, 18, none⟩ (.bool (decide (a.plan = 1)))) := Kept.setIn (S := Kone B) (Kept.setIn (S := Kone B) (Kept.refl _ _) (p := ⟨B, 17, none⟩) (Eq.refl _) _) (p := ⟨B, 18, none⟩) (Eq.refl _) _
    have HS := Lib.hid hs
    have HK := Lib.hid hk
    have q2 : (a.plan - 1 == 0) = decide (a.plan = 1) := by
      rw [Bool.eq_iff_iff]; simp; omega
    generalize hd : decide (a.plan = 1) = d at q2 HS HK ⊢
    generalize a.plan = plan at c0 q p0 p1 q2 HS HK ⊢
    clear h e2 hp hs hk hd H
    go_enter Try.func71, Try.ntmps71
    go_wp2
    go_ret
    exact ⟨rfl, HS.out, HK.out⟩

theorem set_one (L : List Value) (n : Nat) (hL : L.length = n) (p d p' : Value) : (L ++ [p, d]).set n p' = L ++ [p', d] := by
  subst hL
  rw [List.set_append_right _ _ (Nat.le_refl _), Nat.sub_self]
  rfl
theorem RIs.set_p {w : World} {base B : Nat} {vs : List Value} {a : Ab} (h : RIs w base B vs a) (plan : Int) (h0 : 0 ≤ plan) (h1 : plan ≤ 9223372036854775807) :
    RIs (w.setCell ⟨B, 17, none⟩ (.int .i64 plan)) base B vs ⟨a.room, a.fs, a.off, plan⟩ := by
  have hl := h.vlen
  have hl2 := h.len
  have hk : Kept (Kone B) w (w.setCell ⟨B, 17, none⟩ (.int .i64 plan)) := Kept.setIn (S := Kone B) (Kept.refl _ _) (p := ⟨B, 17, none⟩) (Eq.refl _) _
  refine ⟨h.low, ?_, h.vlen, h.len, fun i v p hv hp => ⟨own_kept (h.files i v p hv hp).1 hk (fun k hk' e => ?_), (h.files i v p hv hp).2⟩, h.fits, h.room0, h.room1, h0, h1⟩
  · have h2 := h.blk.set_ 17 (.int .i64 plan)
    have e : (rCells a.room vs (a.fs.map (·.2)) a.plan a.off).toArray.setIfInBounds 17 (.int .i64 plan) = (rCells a.room vs (a.fs.map (·.2)) plan a.off).toArray := by
      rw [List.setIfInBounds_toArray]
      congr 1
      simp only [rCells, show 17 = 16 + 1 from rfl, List.set_cons_succ]
      rw [← List.append_assoc, ← List.append_assoc, set_one _ 16 (by simp [hl, hl2])]
    rw [e] at h2
    exact h2
  · unfold Kone at e
    subst e
    exact h.own_B (List.mem_of_getElem? hv) hk'

set_option maxHeartbeats 800000 in
theorem rfail_any (n : Int) {w : World} {base B : Nat} {vs : List Value} {a : Ab} (h : RIs w base B vs a) (hn : n ≤ 9223372036854775807) :
    Calls Try.prog 37 #[.pointer (some ⟨B, 0, none⟩), .int .i64 n] w fun e w' => e = .returned (.tuple #[]) ∧ RTurn base B vs (a.fail n) w w' := by
  have H := Lib.hid h
  have c0 := h.c_plan
  have c1 := h.c_down
  have f0 := h.blk.frozen 17
  unfold Ab.fail
  cases ho : a.off with
  | true =>
    rw [ho] at c1
    rw [if_pos rfl]
    clear h
    go_enter Try.func37, Try.ntmps37
    go_wp2
    go_end0
    exact ⟨rfl, ⟨vs, H.out, VsFrom.refl _ _⟩, Kept.refl _ _⟩
  | false =>
    rw [ho] at c1
    rw [if_neg (by simp)]
    have hn3 : n < 0 ∨ n = 0 ∨ 0 < n := by omega
    have HS : Hid (∀ m, 0 ≤ m → m ≤ 9223372036854775807 → RTurn base B vs ⟨a.room, a.fs, false, m⟩ w (w.setCell ⟨B, 17, none⟩ (.int .i64 m))) := Lib.hid (fun m h0 h1 => by
      have h9 := H.out.set_p m h0 h1
      rw [ho] at h9
      exact ⟨⟨vs, h9, VsFrom.refl _ _⟩, Kept.setIn (S := Kone B) (Kept.refl _ _) (p := ⟨B, 17, none⟩) (Eq.refl _) _⟩)
    clear h ho H
    rcases hn3 with hn3 | rfl | hn3
    · rw [if_neg (by omega)]
      go_enter Try.func37, Try.ntmps37
      go_wp2
      go_end0
      exact ⟨rfl, HS.out 0 (by omega) (by omega)⟩
    · rw [if_neg (by omega)]
      go_enter Try.func37, Try.ntmps37
      go_wp2
      go_end0
      exact ⟨rfl, HS.out 0 (by omega) (by omega)⟩
    · rw [if_pos hn3]
      have h0 : ¬ n < 0 := by omega
      go_enter Try.func37, Try.ntmps37
      go_wp2
      go_end0
      exact ⟨rfl, HS.out n (by omega) hn⟩

end Go.Proofs.Yteoodgcpkgfomaa
/-
  The reference's disk: Used.
-/
namespace Go.Proofs.Yteoodgcpkgfomaa
open Go.RowKit
set_option linter.unusedVariables false

theorem ret_int1 {k : IntKind} {a b : Int} (h : a = b) : Ending.returned (.int k a) = .returned (.int k b) := by rw [h]
/-- Eight values, one by one. -/
theorem list8 {α : Type} (l : List α) (h : l.length = 8) : ∃ a0 a1 a2 a3 a4 a5 a6 a7, l = [a0, a1, a2, a3, a4, a5, a6, a7] := by
  match l, h with
  | [a0, a1, a2, a3, a4, a5, a6, a7], _ => exact ⟨a0, a1, a2, a3, a4, a5, a6, a7, rfl⟩

set_option maxRecDepth 100000 in
set_option maxHeartbeats 2000000 in
theorem rused_any {w : World} {base B : Nat} {vs : List Value} {a : Ab} (h : RIs w base B vs a) :
    Calls Try.prog 18 #[.pointer (some ⟨B, 0, none⟩)] w fun e w' => e = .returned (.int .i64 a.used) ∧ w = w' := by
  have hc : ∀ i v, vs[i]? = some v → w.cell? ⟨B, 1 + i, none⟩ = some v := fun i v hv => h.c_file hv
  have hfits := h.fits
  have hroom := h.room1
  have hform : ∀ (i : Nat) (v : Value) (p : List UInt8 × Nat), vs[i]? = some v → a.fs[i]? = some p → ∃ A cap, v = .slice A p.1.length cap := fun i v p hv hp => own_form (h.files i v p hv hp).1
  obtain ⟨v0, v1, v2, v3, v4, v5, v6, v7, rfl⟩ := list8 vs h.vlen
  obtain ⟨room, afs, off, plan⟩ := a
  obtain ⟨p0, p1, p2, p3, p4, p5, p6, p7, rfl⟩ := list8 afs h.len
  obtain ⟨A0, k0, rfl⟩ := hform 0 v0 p0 rfl rfl
  obtain ⟨A1, k1, rfl⟩ := hform 1 v1 p1 rfl rfl
  obtain ⟨A2, k2, rfl⟩ := hform 2 v2 p2 rfl rfl
  obtain ⟨A3, k3, rfl⟩ := hform 3 v3 p3 rfl rfl
  obtain ⟨A4, k4, rfl⟩ := hform 4 v4 p4 rfl rfl
  obtain ⟨A5, k5, rfl⟩ := hform 5 v5 p5 rfl rfl
  obtain ⟨A6, k6, rfl⟩ := hform 6 v6 p6 rfl rfl
  obtain ⟨A7, k7, rfl⟩ := hform 7 v7 p7 rfl rfl
  have c0 := hc 0 _ rfl
  have c1 := hc 1 _ rfl
  have c2 := hc 2 _ rfl
  have c3 := hc 3 _ rfl
  have c4 := hc 4 _ rfl
  have c5 := hc 5 _ rfl
  have c6 := hc 6 _ rfl
  have c7 := hc 7 _ rfl
  simp only [Nat.reduceAdd] at c0 c1 c2 c3 c4 c5 c6 c7
  simp only [Ab.used, List.map_cons, List.map_nil, List.sum_cons, List.sum_nil] at hfits ⊢
  generalize p0.1.length = n0 at *
  generalize p1.1.length = n1 at *
  generalize p2.1.length = n2 at *
  generalize p3.1.length = n3 at *
  generalize p4.1.length = n4 at *
  generalize p5.1.length = n5 at *
  generalize p6.1.length = n6 at *
  generalize p7.1.length = n7 at *
  clear h hc hform
  go_enter Try.func18, Try.ntmps18
  have x0 : ∀ w, (Instr.index 76 (.agg #[.slice A0 n0 k0, .slice A1 n1 k1, .slice A2 n2 k2, .slice A3 n3 k3, .slice A4 n4 k4, .slice A5 n5 k5, .slice A6 n6 k6, .slice A7 n7 k7]) (.int .i64 0)).run Try.prog w = .ok (.slice A0 n0 k0) w := fun _ => by kernel_rfl
  have x1 : ∀ w, (Instr.index 76 (.agg #[.slice A0 n0 k0, .slice A1 n1 k1, .slice A2 n2 k2, .slice A3 n3 k3, .slice A4 n4 k4, .slice A5 n5 k5, .slice A6 n6 k6, .slice A7 n7 k7]) (.int .i64 1)).run Try.prog w = .ok (.slice A1 n1 k1) w := fun _ => by kernel_rfl
  have x2 : ∀ w, (Instr.index 76 (.agg #[.slice A0 n0 k0, .slice A1 n1 k1, .slice A2 n2 k2, .slice A3 n3 k3, .slice A4 n4 k4, .slice A5 n5 k5, .slice A6 n6 k6, .slice A7 n7 k7]) (.int .i64 2)).run Try.prog w = .ok (.slice A2 n2 k2) w := fun _ => by kernel_rfl
  have x3 : ∀ w, (Instr.index 76 (.agg #[.slice A0 n0 k0, .slice A1 n1 k1, .slice A2 n2 k2, .slice A3 n3 k3, .slice A4 n4 k4, .slice A5 n5 k5, .slice A6 n6 k6, .slice A7 n7 k7]) (.int .i64 3)).run Try.prog w = .ok (.slice A3 n3 k3) w := fun _ => by kernel_rfl
  have x4 : ∀ w, (Instr.index 76 (.agg #[.slice A0 n0 k0, .slice A1 n1 k1, .slice A2 n2 k2, .slice A3 n3 k3, .slice A4 n4 k4, .slice A5 n5 k5, .slice A6 n6 k6, .slice A7 n7 k7]) (.int .i64 4)).run Try.prog w = .ok (.slice A4 n4 k4) w := fun _ => by kernel_rfl
  have x5 : ∀ w, (Instr.index 76 (.agg #[.slice A0 n0 k0, .slice A1 n1 k1, .slice A2 n2 k2, .slice A3 n3 k3, .slice A4 n4 k4, .slice A5 n5 k5, .slice A6 n6 k6, .slice A7 n7 k7]) (.int .i64 5)).run Try.prog w = .ok (.slice A5 n5 k5) w := fun _ => by kernel_rfl
  have x6 : ∀ w, (Instr.index 76 (.agg #[.slice A0 n0 k0, .slice A1 n1 k1, .slice A2 n2 k2, .slice A3 n3 k3, .slice A4 n4 k4, .slice A5 n5 k5, .slice A6 n6 k6, .slice A7 n7 k7]) (.int .i64 6)).run Try.prog w = .ok (.slice A6 n6 k6) w := fun _ => by kernel_rfl
  have x7 : ∀ w, (Instr.index 76 (.agg #[.slice A0 n0 k0, .slice A1 n1 k1, .slice A2 n2 k2, .slice A3 n3 k3, .slice A4 n4 k4, .slice A5 n5 k5, .slice A6 n6 k6, .slice A7 n7 k7]) (.int .i64 7)).run Try.prog w = .ok (.slice A7 n7 k7) w := fun _ => by kernel_rfl
  go_wp2_with fail
  go_loop [3, 10] (fun n i => (i = .int .i64 0 ∧ n = .int .i64 (0)) ∨ (i = .int .i64 1 ∧ n = .int .i64 ((n0 : Int))) ∨ (i = .int .i64 2 ∧ n = .int .i64 ((n0 : Int) + (n1 : Int))) ∨ (i = .int .i64 3 ∧ n = .int .i64 ((n0 : Int) + (n1 : Int) + (n2 : Int))) ∨ (i = .int .i64 4 ∧ n = .int .i64 ((n0 : Int) + (n1 : Int) + (n2 : Int) + (n3 : Int))) ∨ (i = .int .i64 5 ∧ n = .int .i64 ((n0 : Int) + (n1 : Int) + (n2 : Int) + (n3 : Int) + (n4 : Int))) ∨ (i = .int .i64 6 ∧ n = .int .i64 ((n0 : Int) + (n1 : Int) + (n2 : Int) + (n3 : Int) + (n4 : Int) + (n5 : Int))) ∨ (i = .int .i64 7 ∧ n = .int .i64 ((n0 : Int) + (n1 : Int) + (n2 : Int) + (n3 : Int) + (n4 : Int) + (n5 : Int) + (n6 : Int))) ∨ (i = .int .i64 8 ∧ n = .int .i64 ((n0 : Int) + (n1 : Int) + (n2 : Int) + (n3 : Int) + (n4 : Int) + (n5 : Int) + (n6 : Int) + (n7 : Int)))) (fun _ i => 8 - (intOf i).toNat)
  case atStart => exact .inl ⟨rfl, rfl⟩
  case round =>
    rcases hrel with ⟨rfl, rfl⟩ | ⟨rfl, rfl⟩ | ⟨rfl, rfl⟩ | ⟨rfl, rfl⟩ | ⟨rfl, rfl⟩ | ⟨rfl, rfl⟩ | ⟨rfl, rfl⟩ | ⟨rfl, rfl⟩ | ⟨rfl, rfl⟩
    · go_wp2
      exact ⟨.inr (.inl ⟨rfl, rfl⟩), by decide⟩
    · go_wp2
      exact ⟨.inr (.inr (.inl ⟨rfl, rfl⟩)), by decide⟩
    · go_wp2
      exact ⟨.inr (.inr (.inr (.inl ⟨rfl, rfl⟩))), by decide⟩
    · go_wp2
      exact ⟨.inr (.inr (.inr (.inr (.inl ⟨rfl, rfl⟩)))), by decide⟩
    · go_wp2
      exact ⟨.inr (.inr (.inr (.inr (.inr (.inl ⟨rfl, rfl⟩))))), by decide⟩
    · go_wp2
      exact ⟨.inr (.inr (.inr (.inr (.inr (.inr (.inl ⟨rfl, rfl⟩)))))), by decide⟩
    · go_wp2
      exact ⟨.inr (.inr (.inr (.inr (.inr (.inr (.inr (.inl ⟨rfl, rfl⟩))))))), by decide⟩
    · go_wp2
      exact ⟨.inr (.inr (.inr (.inr (.inr (.inr (.inr (.inr (⟨rfl, rfl⟩)))))))), by decide⟩
    · go_wp2
      go_ret
      exact ⟨ret_int1 (by omega), rfl⟩

end Go.Proofs.Yteoodgcpkgfomaa
/-
  The reference's disk: Append.
-/
namespace Go.Proofs.Yteoodgcpkgfomaa
open Go.RowKit
set_option linter.unusedVariables false

section
variable {w w' : World} {base B : Nat} {vs : List Value} {a : Ab}
theorem RIs.no_byte (h : RIs w base B vs a) {p : Addr} {x : Int} (hc : w.cell? p = some (.int .u8 x)) : p.block ≠ B := by
  obtain ⟨g, o, spot⟩ := p
  rintro rfl
  have hs := World.cell?_spot hc
  simp only at hs
  subst hs
  rw [h.blk.cell] at hc
  have hm := List.mem_of_getElem? (by simpa using hc : (rCells a.room vs (a.fs.map (·.2)) a.plan a.off)[o]? = some (.int .u8 x))
  simp only [rCells, List.mem_cons, List.mem_append, List.mem_map, List.not_mem_nil, or_false] at hm
  rcases hm with hm | hm | ⟨s, -, hm⟩ | hm | hm
  · cases hm
  · obtain ⟨i, hi⟩ := List.mem_iff_getElem?.1 hm
    have hl := h.vlen
    have hl2 := h.len
    have hlt : i < vs.length := (List.getElem?_eq_some_iff.1 hi).1
    obtain ⟨A, cap, hv⟩ := own_form (h.files i _ _ hi (List.getElem?_eq_getElem (by omega))).1
    cases hv
  · cases hm
  · cases hm
  · cases hm
theorem RIs.bs (h : RIs w base B vs a) {v : Value} {l : List UInt8} (hb : Bs w v l) (w1 : World) (hk : Kept (Kone B) w w1) : Bs w1 v l := by
  obtain ⟨A, cap, rfl, h1, h2, h3, h4⟩ := hb
  refine ⟨A, cap, rfl, h1, h2, h3, fun ad hA j u hj => ?_⟩
  have hc := h4 ad hA j u hj
  rw [List.getElem?_map] at hj
  cases hq : l[j]? with
  | none => rw [hq] at hj; cases hj
  | some c =>
    rw [hq] at hj
    simp only [Option.map_some, Option.some.injEq] at hj
    subst hj
    exact hk.cell_some hc (fun e => h.no_byte hc e)
theorem sum_set_le (l : List (List UInt8 × Nat)) (i : Nat) (p q : List UInt8 × Nat) (h : l[i]? = some p) : ((l.set i q).map fun p => p.1.length).sum + p.1.length = (l.map fun p => p.1.length).sum + q.1.length := by
  induction l generalizing i with
  | nil => simp at h
  | cons x l ih =>
    cases i with
    | zero => simp at h; subst h; simp only [List.set_cons_zero, List.map_cons, List.sum_cons]; omega
    | succ i => have := ih i (by simpa using h); simp only [List.set_cons_succ, List.map_cons, List.sum_cons]; omega
/-- A file's slice set anew (its row new), and how much of it is synced. -/
theorem RIs.set_file (h : RIs w base B vs a) {w1 : World} (hk : Kept Kno w w1) {i : Nat} {p : List UInt8 × Nat} (hp : a.fs[i]? = some p) (v : Value) (l : List UInt8) (ho : OwnB w1 base 5 v l) (hs : p.2 ≤ l.length)
    (hfit : (a.used : Int) + l.length - p.1.length ≤ a.room) : RIs (w1.setCell ⟨B, 1 + i, none⟩ v) base B (vs.set i v) ⟨a.room, a.fs.set i (l, p.2), a.off, a.plan⟩ ∧ Kept (Kone B) w (w1.setCell ⟨B, 1 + i, none⟩ v) := by
  have hl := h.vlen
  have hl2 := h.len
  have hi : i < 8 := by have := (List.getElem?_eq_some_iff.1 hp).1; omega
  have h1 := h.kept0 hk
  have hk2 : Kept (Kone B) w1 (w1.setCell ⟨B, 1 + i, none⟩ v) := Kept.setIn (S := Kone B) (Kept.refl _ _) (p := ⟨B, 1 + i, none⟩) (Eq.refl _) _
  refine ⟨⟨h.low, ?_, by rw [List.length_set]; exact hl, by simp only [List.length_set]; exact hl2, fun j u q hu hq => ?_, ?_, h.room0, h.room1, h.plan0, h.plan1⟩, (hk.mono (T := Kone B) (fun _ _ e => e.elim)).trans hk2 (fun _ _ e => e)⟩
  · have h2 := h1.blk.set_ (1 + i) v
    have e : (rCells a.room vs (a.fs.map (·.2)) a.plan a.off).toArray.setIfInBounds (1 + i) v = (rCells a.room (vs.set i v) ((a.fs.set i (l, p.2)).map (·.2)) a.plan a.off).toArray := by
      rw [List.setIfInBounds_toArray, show 1 + i = i + 1 from by omega]
      congr 1
      simp only [rCells, List.set_cons_succ]
      rw [List.set_append_left _ _ (by omega), List.map_set]
      have e2 : (a.fs.map (·.2)).set i p.2 = a.fs.map (·.2) := by
        apply List.ext_getElem?
        intro j
        rw [List.getElem?_set]
        split
        · rename_i hj
          subst hj
          rw [if_pos (by simp; omega), List.getElem?_map, hp]
          rfl
        · rfl
      rw [e2]
    rw [e] at h2
    exact h2
  · rw [List.getElem?_set] at hu
    simp only at hq
    rw [List.getElem?_set] at hq
    by_cases hj : i = j
    · subst hj
      rw [if_pos rfl, if_pos (by omega)] at hu hq
      cases hu
      cases hq
      exact ⟨own_kept ho hk2 (fun k hk' e => by unfold Kone at e; subst e; exact own_blk_ne ho h1.blk (by decide) hk'), hs⟩
    · rw [if_neg hj] at hu hq
      have h9 := h1.files j u q hu hq
      exact ⟨own_kept h9.1 hk2 (fun k hk' e => by unfold Kone at e; subst e; exact h1.own_B (List.mem_of_getElem? hu) hk'), h9.2⟩
  · have := sum_set_le a.fs i p (l, p.2) hp
    simp only [Ab.used] at hfit this ⊢
    omega
end

end Go.Proofs.Yteoodgcpkgfomaa
/-
  The reference's disk: Append.
-/
namespace Go.Proofs.Yteoodgcpkgfomaa
open Go.RowKit
set_option linter.unusedVariables false

/-- What a call of the reference that returns a code leaves. -/
def RRet (base B : Nat) (vs : List Value) (p : Ab × Int) (w : World) (e : Ending) (w' : World) : Prop := e = .returned (.int .i64 p.2) ∧ RTurn base B vs p.1 w w'

theorem gate_true (a : Ab) (hoff : a.off = false) (hp : 0 ≤ a.plan) (i : Nat) (f : List UInt8 × Nat) : gateOf a true i f = (⟨(failsTo a).room, (failsTo a).fs.set i f, (failsTo a).off, (failsTo a).plan⟩, if a.plan = 1 then 220 else 0) := by
  obtain ⟨room, fs, off, plan⟩ := a
  simp only at hoff hp
  subst hoff
  unfold gateOf failsTo
  by_cases h0 : plan = 0
  · subst h0; simp
  · by_cases h1 : plan = 1
    · subst h1; simp
    · simp [h0, h1]
theorem gate_false (a : Ab) (hoff : a.off = false) (hp : 0 ≤ a.plan) (i : Nat) (f : List UInt8 × Nat) : gateOf a false i f = if a.plan = 1 then (failsTo a, 220) else (⟨(failsTo a).room, (failsTo a).fs.set i f, (failsTo a).off, (failsTo a).plan⟩, 0) := by
  obtain ⟨room, fs, off, plan⟩ := a
  simp only at hoff hp
  subst hoff
  unfold gateOf failsTo
  by_cases h0 : plan = 0
  · subst h0; simp
  · by_cases h1 : plan = 1
    · subst h1; simp
    · simp [h0, h1]
theorem fails_fs (a : Ab) : (failsTo a).fs = a.fs ∧ (failsTo a).room = a.room ∧ (failsTo a).used = a.used := by
  unfold failsTo Ab.used; split <;> exact ⟨rfl, rfl, rfl⟩

section
variable {w w' : World} {base B : Nat} {vs : List Value} {a : Ab}
theorem RIs.base_le (h : RIs w base B vs a) : base ≤ w.heap.size := Nat.le_trans h.low (Nat.le_of_lt h.blk.lt)
theorem RIs.file (h : RIs w base B vs a) {i : Nat} (hi : i < 8) : ∃ v p, vs[i]? = some v ∧ a.fs[i]? = some p ∧ a.file i = p := by
  have hl := h.vlen
  have hl2 := h.len
  refine ⟨vs[i]'(by omega), a.fs[i]'(by omega), List.getElem?_eq_getElem (by omega), List.getElem?_eq_getElem (by omega), ?_⟩
  simp only [Ab.file, List.getD, List.getElem?_eq_getElem (show i < a.fs.length by omega), Option.getD_some]
theorem RIs.turn0 (h : RIs w base B vs a) (hk : Kept Kno w w') : RTurn base B vs a w w' := ⟨⟨vs, h.kept0 hk, VsFrom.refl _ _⟩, hk.mono (fun _ _ e => e.elim)⟩
theorem rused_quiet (h : RIs w base B vs a) (n : Nat) :
    Calls Try.prog 18 #[.pointer (some ⟨B, 0, none⟩)] (w.drewN n) fun e w' => e = .returned (.int .i64 a.used) ∧ w' = w.drewN n :=
  (rused_any (h.kept0 (Kept.drewN (Kept.refl _ w) n))).mono fun _ _ ⟨a, b⟩ => ⟨a, b.symm⟩
theorem used_file {a : Ab} {i : Nat} {p : List UInt8 × Nat} (hp : a.fs[i]? = some p) : p.1.length ≤ a.used := by
  have h := List.mem_of_getElem? hp
  unfold Ab.used
  generalize a.fs = fs at h
  clear hp
  induction fs with
  | nil => cases h
  | cons x l ih =>
    simp only [List.map_cons, List.sum_cons]
    rcases List.mem_cons.1 h with rfl | h
    · omega
    · have := ih h; omega
end

set_option maxHeartbeats 800000 in
theorem rappend_no (i c : Int) (A : Option Addr) (n cap : Nat) {w : World} {base B : Nat} {vs : List Value} {a : Ab} (h : RIs w base B vs a) (hc : checkOf a.off i = c) (hc0 : c ≠ 0) :
    Calls Try.prog 55 #[.pointer (some ⟨B, 0, none⟩), .int .i64 i, .slice A n cap] w fun e w' => e = .returned (.int .i64 c) ∧ w = w' := by
  have HD := Lib.hid h
  have HC := Lib.hid hc
  clear h hc
  go_enter Try.func55, Try.ntmps55
  go_wp2_with fail
  refine (rbegin_any i HD.out).mono ?_
  rintro e w1 ⟨rfl, rfl⟩
  rw [HC.out]
  go_wp2
  go_ret
  exact ⟨rfl, rfl⟩

set_option maxHeartbeats 800000 in
theorem rappend_full (i : Nat) (A : Option Addr) (n cap : Nat) {w : World} {base B : Nat} {vs : List Value} {a : Ab} (h : RIs w base B vs a) (hoff : a.off = false) (hi : i < 8) (hn : a.room - (a.used : Int) < n) (hm : n ≤ 9223372036854775807 - 16777216) :
    Calls Try.prog 55 #[.pointer (some ⟨B, 0, none⟩), .int .i64 i, .slice A n cap] w fun e w' => e = .returned (.int .i64 221) ∧ Kept Kno w w' := by
  have HD := Lib.hid h
  have HC := Lib.hid (checkOf_ok hi)
  have HO := Lib.hid hoff
  have h0 := h.room0
  have h1 := h.room1
  have h2 := h.fits
  have c1 := h.c_room
  have HU := Lib.hid (rused_quiet h)
  generalize a.room = room at h0 h1 h2 c1 hn
  generalize a.used = U at h2 hn HU
  have hw : IntKind.i64.wrap ((U : Int) + (n : Int)) = (U : Int) + (n : Int) := IntWalk.i64_in _ (by omega)
  have hd : decide (room < (U : Int) + (n : Int)) = true := by simp; omega
  clear h hoff
  go_enter Try.func55, Try.ntmps55
  go_wp2_with fail
  refine (rbegin_any i HD.out).mono ?_
  rintro e w1 ⟨rfl, rfl⟩
  rw [HO.out, HC.out]
  go_wp2_with fail
  go_quiet ((go_at_call 18; exact Calls.quiet_of_same (HU.out _)))
  go_wp2
  go_ret
  exact ⟨rfl, (Kept.refl _ w).drewN _⟩

/-- A row made anew, and a file set to it. -/
theorem rclose_file {w w1 : World} {base B i : Nat} {vs : List Value} {a : Ab} {A1 : Option Addr} {cap1 : Nat} (h : RIs w base B vs a) {p : List UInt8 × Nat} (hp : a.fs[i]? = some p) (hk : Kept Kno w w1) (l : List UInt8) {n : Nat} (hn : n = l.length)
    (ho : w1.ownsRow w.heap.size 5 1 (.slice A1 n cap1) n (l.map bv)) (hs : p.2 ≤ l.length) (hfit : (a.used : Int) + l.length - p.1.length ≤ a.room) :
    (∃ vs', RIs (w1.setCell ⟨B, 1 + i, none⟩ (.slice A1 n cap1)) base B vs' ⟨a.room, a.fs.set i (l, p.2), a.off, a.plan⟩ ∧ VsFrom vs vs' w.heap.size) ∧ Kept (Kone B) w (w1.setCell ⟨B, 1 + i, none⟩ (.slice A1 n cap1)) := by
  subst hn
  have := h.set_file hk hp _ l (own_rebase ho (fun k e => Nat.le_trans h.base_le (own_base ho e).1)) hs hfit
  exact ⟨⟨_, this.1, VsFrom.set _ _ _ (fun k e => (own_base ho e).1)⟩, this.2⟩

theorem rclose_append {w wf w2 : World} {base B i : Nat} {vs : List Value} {a : Ab} {A1 : Option Addr} {cap1 : Nat} (hoff : a.off = false) (hp0 : 0 ≤ a.plan) (hR : RIs wf base B vs (failsTo a)) (hK : Kept (Kone B) w wf) {p : List UInt8 × Nat} (hp : a.fs[i]? = some p) (hk : Kept Kno wf w2) (lb : List UInt8)
    (ho : w2.ownsRow wf.heap.size 5 1 (.slice A1 (p.1.length + lb.length) cap1) (p.1.length + lb.length) (p.1.map bv ++ lb.map bv)) (hfit : (a.used : Int) + lb.length ≤ a.room) (c : Int) (hc : (if a.plan = 1 then 220 else 0) = c) :
    RRet base B vs (gateOf a true i (p.1 ++ lb, p.2)) w (.returned (.int .i64 c)) (w2.setCell ⟨B, 1 + i, none⟩ (.slice A1 (p.1.length + lb.length) cap1)) := by
  obtain ⟨f1, f2, f3⟩ := fails_fs a
  rw [gate_true a hoff hp0, hc]
  have hp' : (failsTo a).fs[i]? = some p := by rw [f1]; exact hp
  have hl := hR.vlen
  have hl2 := hR.len
  have hi : i < (failsTo a).fs.length := (List.getElem?_eq_some_iff.1 hp').1
  have hs := (hR.files i (vs[i]'(by omega)) p (List.getElem?_eq_getElem (by omega)) hp').2
  have := rclose_file hR hp' hk (p.1 ++ lb) (n := p.1.length + lb.length) (by simp) (by rw [List.map_append]; exact ho) (by rw [List.length_append]; omega) (by rw [f3, f2, List.length_append]; omega)
  obtain ⟨⟨vs', h1, h2⟩, h3⟩ := this
  exact ⟨rfl, ⟨vs', h1, h2.low hK.size⟩, hK.trans h3 (fun _ _ e => e)⟩

set_option maxRecDepth 100000 in
set_option maxHeartbeats 1600000 in
theorem rappend_yes (i : Nat) (Ax : Option Addr) (lb : List UInt8) (capx : Nat) {w : World} {base B : Nat} {vs : List Value} {a : Ab} (h : RIs w base B vs a) (hoff : a.off = false) (hi : i < 8) {v : Value} {p : List UInt8 × Nat} (hv : vs[i]? = some v) (hp : a.fs[i]? = some p)
    (hfit : (a.used : Int) + lb.length ≤ a.room) (hb : Bs w (.slice Ax lb.length capx) lb) :
    Calls Try.prog 55 #[.pointer (some ⟨B, 0, none⟩), .int .i64 i, .slice Ax lb.length capx] w (RRet base B vs (gateOf a true i (p.1 ++ lb, p.2)) w) := by
  obtain ⟨j0, hj, hy0, hy1, hy2⟩ := info_parts info_byte
  have HD := Lib.hid h
  have HC := Lib.hid (checkOf_ok hi)
  have HO := Lib.hid hoff
  have HP := Lib.hid hp
  have HV := Lib.hid hv
  have HBS := Lib.hid (h.bs hb)
  have HFIT := Lib.hid hfit
  have HF := Lib.hid (fun (n : Nat) => rfails_any (h.kept0 (Kept.drewN (Kept.refl _ w) n)) hoff)
  have h0 := h.room0
  have h1 := h.room1
  have h2 := h.fits
  have c1 := h.c_room
  have hle := used_file hp
  have HU := Lib.hid (rused_quiet h)
  have hpl : p.1.length + lb.length ≤ 16777216 := by omega
  generalize a.room = room at h0 h1 h2 c1 hfit
  generalize a.used = U at h2 hfit HU
  have hw : IntKind.i64.wrap ((U : Int) + (lb.length : Int)) = (U : Int) + (lb.length : Int) := IntWalk.i64_in _ (by omega)
  have hd : decide (room < (U : Int) + (lb.length : Int)) = false := by simp; omega
  clear h hoff hp hv hb hle
  go_enter Try.func55, Try.ntmps55
  go_wp2_with fail
  refine (rbegin_any i HD.out).mono ?_
  rintro e w1 ⟨rfl, rfl⟩
  rw [HO.out, HC.out]
  go_wp2_with fail
  go_quiet ((go_at_call 18; exact Calls.quiet_of_same (HU.out _)))
  clear hw hd h2 c1 hfit h0 h1
  go_wp2_with fail
  refine (HF.out _).mono ?_
  rintro e wf ⟨rfl, hR, hK⟩
  have hK0 : Kept (Kone B) w wf := (Kept.drewN (Kept.refl _ w) nq).trans hK (fun _ _ e => e)
  have HP2 : Hid ((failsTo a).fs[i]? = some p) := Lib.hid (by rw [(fails_fs a).1]; exact HP.out)
  have HR := Lib.hid hR
  have HK0 := Lib.hid hK0
  have HX := Lib.hid (HBS.out wf hK0)
  have hown := (hR.files i v p HV.out HP2.out).1
  have cf := hR.c_file HV.out
  have ff := hR.blk.frozen (1 + i)
  have lB := hR.blk.lt
  obtain ⟨Af, capf, hvf⟩ := own_form hown
  have HOB : Hid (Rd wf 1 (.slice Af p.1.length capf) p.1.length (p.1.map bv)) := Lib.hid (by have := OwnB.bs hown; rw [hvf] at this; exact this)
  rw [hvf] at cf
  have M0 := Lib.hid (World.ownsRow_made (base := wf.heap.size) (e := 5) (size := 1) wf #[] 0 (Nat.le_refl _) (by decide) rfl)
  have m1 : 0 + p.1.length ≤ maxLen := by simp only [maxLen]; omega
  have m2 : p.1.length + lb.length ≤ maxLen := by simp only [maxLen]; omega
  have hi1 : (i : Int) < 8 := by omega
  clear hR hK hK0 hown hvf
  have HPL : Hid (0 ≤ a.plan) := Lib.hid HD.out.plan0
  by_cases hfl : a.plan = 1
  · have HFL : Hid ((if a.plan = 1 then (220 : Int) else 0) = 220) := Lib.hid (by rw [if_pos hfl])
    have e1 : decide (a.plan = 1) = true := by simp [hfl]
    rw [e1]
    clear e1 hfl
    go_wp2_with fail
    go_region_law (first
     | (refine step_append_rd _ (by rfl) (.tmp 29) (.tmp 35) 30 (by rfl) wf.heap.size 5 j0 _ 1 1 Try.underlying30 hj hy0 hy1 hy2 rfl (by omega) (.slice (some ⟨wf.heap.size, 0, none⟩) 0 0) 0 [] (by rfl) M0.out _ p.1.length (p.1.map bv) (by rfl) (Rd.alloc HOB.out _) (bvs_one p.1) m1 (by omega) (by simp) ?_
        intro A1 cap1 wa hown1 hg1 hat1
        have hka : Kept Kno wf wa := (Kept.drew (Kept.alloc (Kept.refl _ wf) _)).grown hg1 (fun k hk e => by cases e; exact absurd hk (Nat.lt_irrefl _))
        have q : wa.cell? ⟨B, 1 + i, none⟩ = some (.slice Af p.1.length capf) := hka.cell_some cf (fun h => h)
        have q' : wa.frozen? ⟨B, 1 + i, none⟩ = false := hka.frozen_no ff lB (fun h => h)
        simp only [Nat.zero_add, List.nil_append] at hown1
        rw [Nat.zero_add])
     | (refine step_append_rd _ (by rfl) (.tmp 36) (.tmp 37) 30 (by rfl) wf.heap.size 5 j0 _ 1 1 Try.underlying30 hj hy0 hy1 hy2 rfl (by omega) (.slice A1 p.1.length cap1) p.1.length _ (by rfl) hown1 _ lb.length (lb.map bv) (by rfl) (Rd.kept0 HX.out hka) (bvs_one lb) m2 (by omega) hka.size ?_
        intro A2 cap2 wb hown2 hg2 hat2
        have hkb : Kept Kno wf wb := hka.grown hg2 (fun k hk e => by have := (own_base hown1 e).1; omega)
        have q0 : wb.cell? ⟨B, 1 + i, none⟩ = some (.slice Af p.1.length capf) := hkb.cell_some cf (fun h => h)
        have q1 : wb.frozen? ⟨B, 1 + i, none⟩ = false := hkb.frozen_no ff lB (fun h => h)))
    all_goals
      go_wp2
      go_ret
      exact rclose_append HO.out HPL.out HR.out HK0.out HP.out hkb lb hown2 HFIT.out _ HFL.out
  · have HFL : Hid ((if a.plan = 1 then (220 : Int) else 0) = 0) := Lib.hid (by rw [if_neg hfl])
    have e1 : decide (a.plan = 1) = false := by simp [hfl]
    rw [e1]
    clear e1 hfl
    go_wp2_with fail
    go_region_law (first
     | (refine step_append_rd _ (by rfl) (.tmp 29) (.tmp 35) 30 (by rfl) wf.heap.size 5 j0 _ 1 1 Try.underlying30 hj hy0 hy1 hy2 rfl (by omega) (.slice (some ⟨wf.heap.size, 0, none⟩) 0 0) 0 [] (by rfl) M0.out _ p.1.length (p.1.map bv) (by rfl) (Rd.alloc HOB.out _) (bvs_one p.1) m1 (by omega) (by simp) ?_
        intro A1 cap1 wa hown1 hg1 hat1
        have hka : Kept Kno wf wa := (Kept.drew (Kept.alloc (Kept.refl _ wf) _)).grown hg1 (fun k hk e => by cases e; exact absurd hk (Nat.lt_irrefl _))
        have q : wa.cell? ⟨B, 1 + i, none⟩ = some (.slice Af p.1.length capf) := hka.cell_some cf (fun h => h)
        have q' : wa.frozen? ⟨B, 1 + i, none⟩ = false := hka.frozen_no ff lB (fun h => h)
        simp only [Nat.zero_add, List.nil_append] at hown1
        rw [Nat.zero_add])
     | (refine step_append_rd _ (by rfl) (.tmp 36) (.tmp 37) 30 (by rfl) wf.heap.size 5 j0 _ 1 1 Try.underlying30 hj hy0 hy1 hy2 rfl (by omega) (.slice A1 p.1.length cap1) p.1.length _ (by rfl) hown1 _ lb.length (lb.map bv) (by rfl) (Rd.kept0 HX.out hka) (bvs_one lb) m2 (by omega) hka.size ?_
        intro A2 cap2 wb hown2 hg2 hat2
        have hkb : Kept Kno wf wb := hka.grown hg2 (fun k hk e => by have := (own_base hown1 e).1; omega)
        have q0 : wb.cell? ⟨B, 1 + i, none⟩ = some (.slice Af p.1.length capf) := hkb.cell_some cf (fun h => h)
        have q1 : wb.frozen? ⟨B, 1 + i, none⟩ = false := hkb.frozen_no ff lB (fun h => h)))
    all_goals
      go_wp2
      go_ret
      exact rclose_append HO.out HPL.out HR.out HK0.out HP.out hkb lb hown2 HFIT.out _ HFL.out
theorem rappend_any (i : Int) (v : Value) (lb : List UInt8) {w : World} {base B : Nat} {vs : List Value} {a : Ab} (h : RIs w base B vs a) (hb : Bs w v lb) (hm : lb.length ≤ 9223372036854775807 - 16777216) :
    Calls Try.prog 55 #[.pointer (some ⟨B, 0, none⟩), .int .i64 i, v] w (RRet base B vs (a.append i lb) w) := by
  have hb0 := hb
  obtain ⟨A, cap, rfl, -⟩ := hb
  unfold Ab.append
  by_cases hc : checkOf a.off i ≠ 0
  · rw [if_pos hc]
    exact (rappend_no i _ A lb.length cap h rfl hc).mono fun e w' ⟨x, y⟩ => ⟨x, y ▸ h.turn0 (Kept.refl _ _)⟩
  · rw [if_neg hc]
    obtain ⟨h1, h2, h3⟩ := check_range hc
    obtain ⟨n, rfl⟩ : ∃ n : Nat, i = n := ⟨i.toNat, by omega⟩
    obtain ⟨v, p, hv, hp, haf⟩ := h.file (i := n) (by omega)
    by_cases hn : a.room - (a.used : Int) < lb.length
    · rw [if_pos hn]
      exact (rappend_full n A lb.length cap h h1 (by omega) hn hm).mono fun e w' ⟨x, y⟩ => ⟨x, h.turn0 y⟩
    · rw [if_neg hn, Int.toNat_natCast, haf]
      exact rappend_yes n A lb cap h h1 (by omega) hv hp (by omega) hb0

end Go.Proofs.Yteoodgcpkgfomaa
