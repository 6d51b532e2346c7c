/-
  Codec: the reader's value. (Printed by gen_decval.py.)
-/
import Derived.Test.YtdpbpmokmlnleaaCodecQ
namespace Go.Proofs.Ytdpbpmokmlnleaa
open Go.RowKit
set_option linter.unusedVariables false

/-- What a value's bytes say. -/
def valAt (l : List UInt8) (n : Nat) : Except Int (Val × Nat) := match l[n]? with
  | none => .error 20
  | some c =>
    if c.toNat = 1 then .ok (⟨1, 0, ⟨#[]⟩⟩, 1)
    else if c.toNat = 2 then .ok (⟨2, 0, ⟨#[]⟩⟩, 1)
    else if c.toNat = 3 then (match l[n + 1]? with
      | none => .error 20
      | some b => if 1 < b.toNat then .error 21 else .ok (⟨3, b.toNat, ⟨#[]⟩⟩, 2))
    else if c.toNat = 4 then (match uintAt l (n + 1) with
      | .error e => .error e
      | .ok (N, k) => .ok (⟨4, unzz N, ⟨#[]⟩⟩, 1 + k))
    else if c.toNat = 5 then (match textAt l (n + 1) 64 with
      | .error e => .error e
      | .ok (b, k) => .ok (⟨5, 0, ⟨b.toArray⟩⟩, 1 + k))
    else .error 21
def ValOkD (D : Nat) (v : Value) (n : Nat) (x : Except Int (Val × Nat)) (w : World) (e : Ending) (w' : World) : Prop :=
  Kept (Kone D) w w' ∧ match x with
    | .ok (y, k) => e = .returned y.v ∧ Rdr w' D v (n + k)
    | .error c => e = Pan c

theorem next_lit (D n : Nat) (v : Value) (l : List UInt8) (c : UInt8) (m : Int) (hm : (c.toNat : Int) = m) (w : World) (h : Rdr w D v n) (hb : Bs w v l) (hl : l.length ≤ maxLen) (hn : l[n]? = some c) :
    Calls Try.prog 69 #[.pointer (some ⟨D, 0, none⟩)] w fun e w' => e = .returned (.int .u8 m) ∧ Rdr w' D v (n + 1) ∧ Kept (Kone D) w w' := by
  subst hm
  exact next_byte D n v l c w h hb hl hn

/-- The three cells of a struct, written one behind the other. -/
theorem three_set {w : World} {B : Nat} {a0 a1 a2 b0 b1 b2 : Value} (h : Blk w B 41 #[a0, a1, a2]) :
    Blk (((w.setCell ⟨B, 0, none⟩ b0).setCell ⟨B, 1, none⟩ b1).setCell ⟨B, 2, none⟩ b2) B 41 #[b0, b1, b2] ∧ Kept (Kone B) w (((w.setCell ⟨B, 0, none⟩ b0).setCell ⟨B, 1, none⟩ b1).setCell ⟨B, 2, none⟩ b2) :=
  ⟨((h.set_ 0 _).set_ 1 _).set_ 2 _, Kept.setIn (S := Kone B) (Kept.setIn (S := Kone B) (Kept.setIn (S := Kone B) (Kept.refl _ _) (p := ⟨B, 0, none⟩) (Eq.refl _) _) (p := ⟨B, 1, none⟩) (Eq.refl _) _) (p := ⟨B, 2, none⟩) (Eq.refl _) _⟩


set_option maxRecDepth 100000 in
set_option maxHeartbeats 2000000 in
theorem value_dec1 (D n : Nat) (v : Value) (l : List UInt8) (c : UInt8) (w : World) (h : Rdr w D v n) (hb : Bs w v l) (hl : l.length ≤ 1000000) (hn : l[n]? = some c) (hc : c.toNat = 1) :
    Calls Try.prog 66 #[.pointer (some ⟨D, 0, none⟩)] w (ValOkD D v n (.ok (⟨1, 0, ⟨#[]⟩⟩, 1)) w) := by
  have hnl : n < l.length := (List.getElem?_eq_some_iff.1 hn).1
  have hD := h.lt
  have H : Hid (Rdr (w.alloc (.cells #[.int .i64 0, .int .i64 0, .string ⟨#[]⟩] 41)) D v n) := Lib.hid (Blk.kept h ((Kept.refl Kno w).alloc (.cells #[.int .i64 0, .int .i64 0, .string ⟨#[]⟩] 41)) (fun e => e))
  have HB : Hid (Bs (w.alloc (.cells #[.int .i64 0, .int .i64 0, .string ⟨#[]⟩] 41)) v l) := Lib.hid (Rd.kept0 hb ((Kept.refl Kno w).alloc (.cells #[.int .i64 0, .int .i64 0, .string ⟨#[]⟩] 41)))
  have HQ := Lib.hid (Blk.new w 41 #[.int .i64 0, .int .i64 0, .string ⟨#[]⟩])
  have hkA : Kept Kno w (w.alloc (.cells #[.int .i64 0, .int .i64 0, .string ⟨#[]⟩] 41)) := (Kept.refl _ _).alloc _
  have HNC := Lib.hid hn
  clear h hb hn
  go_enter Try.func66, Try.ntmps66
  go_wp2_with fail
  generalize (w.alloc (.cells #[.int .i64 0, .int .i64 0, .string ⟨#[]⟩] 41)) = wA at H HB HQ hkA ⊢
  refine (next_lit D n v l c 1 (by omega) wA H.out HB.out (by simp only [maxLen]; omega) HNC.out).mono ?_
  rintro e w1 ⟨rfl, hr1, hk1⟩
  have hkw1 : Kept (Kone D) w w1 := (hkA.mono (T := Kone D) (fun _ _ e => e.elim)).trans hk1 (fun _ _ e => e)
  have HQ1 := Lib.hid (HQ.out.kept hk1 (fun e => by unfold Kone at e; omega))
  have HB1 := Lib.hid (H.out.bs HB.out HB.out hk1)
  have HR1 := Lib.hid hr1
  have hB1 : w.heap.size < w1.heap.size := HQ1.out.lt
  clear hr1 hk1

  have HP := Lib.hid (Blk.new w1 41 #[.int .i64 1, .int .i64 0, .string ⟨#[]⟩])
  have hkP : Kept Kno w1 (w1.alloc (.cells #[.int .i64 1, .int .i64 0, .string ⟨#[]⟩] 41)) := (Kept.refl _ _).alloc _
  go_upto_region 2 with (fail)
  generalize (w1.alloc (.cells #[.int .i64 1, .int .i64 0, .string ⟨#[]⟩] 41)) = wP at HP hkP ⊢
  have p0 : wP.cell? ⟨w1.heap.size, 0, none⟩ = some (.int .i64 1) := HP.out.cell 0
  have hqz := HQ1.out.kept hkP (fun e => e)
  have hkz := hkw1.then0 hkP
  have hrz := Blk.kept HR1.out hkP (fun e => e)
  have c0 : wP.cell? ⟨w.heap.size, 0, none⟩ = some (.int .i64 0) := hqz.cell 0
  have c1 : wP.cell? ⟨w.heap.size, 1, none⟩ = some (.int .i64 0) := hqz.cell 1
  have c2 : wP.cell? ⟨w.heap.size, 2, none⟩ = some (.string ⟨#[]⟩) := hqz.cell 2
  have f0 := hqz.frozen 0
  have f1 := hqz.frozen 1
  have f2 := hqz.frozen 2
  have h3 := three_set (b0 := .int .i64 1) (b1 := .int .i64 0) (b2 := .string ⟨#[]⟩) hqz
  have HL := Lib.hid h3
  have HKZ := Lib.hid hkz
  have HRZ := Lib.hid hrz
  clear h3
  go_wp2_with (refine wpList_load_row rfl 41 (.tmp 3) rfl w1.heap.size rfl 41 #[.int .i64 1, .int .i64 0, .string ⟨#[]⟩] (0, 0) _ HP.out Try.underlying41 rfl (by kernel_rfl) ?_)
  refine bodyPost_ret (v := .agg #[.int .i64 1, .int .i64 0, .string ⟨#[]⟩]) ?_ rfl ⟨HKZ.out.trans HL.out.2 (fun k hk e => by unfold Kone at e; omega), rfl, Blk.kept HRZ.out HL.out.2 (fun e => by unfold Kone at e; omega)⟩
  exact results_cell_row rfl _ _ w.heap.size 41 _ (0, 0) _ rfl HL.out.1 Try.underlying41 rfl (by kernel_rfl)

set_option maxRecDepth 100000 in
set_option maxHeartbeats 2000000 in
theorem value_dec2 (D n : Nat) (v : Value) (l : List UInt8) (c : UInt8) (w : World) (h : Rdr w D v n) (hb : Bs w v l) (hl : l.length ≤ 1000000) (hn : l[n]? = some c) (hc : c.toNat = 2) :
    Calls Try.prog 66 #[.pointer (some ⟨D, 0, none⟩)] w (ValOkD D v n (.ok (⟨2, 0, ⟨#[]⟩⟩, 1)) w) := by
  have hnl : n < l.length := (List.getElem?_eq_some_iff.1 hn).1
  have hD := h.lt
  have H : Hid (Rdr (w.alloc (.cells #[.int .i64 0, .int .i64 0, .string ⟨#[]⟩] 41)) D v n) := Lib.hid (Blk.kept h ((Kept.refl Kno w).alloc (.cells #[.int .i64 0, .int .i64 0, .string ⟨#[]⟩] 41)) (fun e => e))
  have HB : Hid (Bs (w.alloc (.cells #[.int .i64 0, .int .i64 0, .string ⟨#[]⟩] 41)) v l) := Lib.hid (Rd.kept0 hb ((Kept.refl Kno w).alloc (.cells #[.int .i64 0, .int .i64 0, .string ⟨#[]⟩] 41)))
  have HQ := Lib.hid (Blk.new w 41 #[.int .i64 0, .int .i64 0, .string ⟨#[]⟩])
  have hkA : Kept Kno w (w.alloc (.cells #[.int .i64 0, .int .i64 0, .string ⟨#[]⟩] 41)) := (Kept.refl _ _).alloc _
  have HNC := Lib.hid hn
  clear h hb hn
  go_enter Try.func66, Try.ntmps66
  go_wp2_with fail
  generalize (w.alloc (.cells #[.int .i64 0, .int .i64 0, .string ⟨#[]⟩] 41)) = wA at H HB HQ hkA ⊢
  refine (next_lit D n v l c 2 (by omega) wA H.out HB.out (by simp only [maxLen]; omega) HNC.out).mono ?_
  rintro e w1 ⟨rfl, hr1, hk1⟩
  have hkw1 : Kept (Kone D) w w1 := (hkA.mono (T := Kone D) (fun _ _ e => e.elim)).trans hk1 (fun _ _ e => e)
  have HQ1 := Lib.hid (HQ.out.kept hk1 (fun e => by unfold Kone at e; omega))
  have HB1 := Lib.hid (H.out.bs HB.out HB.out hk1)
  have HR1 := Lib.hid hr1
  have hB1 : w.heap.size < w1.heap.size := HQ1.out.lt
  clear hr1 hk1

  have HP := Lib.hid (Blk.new w1 41 #[.int .i64 2, .int .i64 0, .string ⟨#[]⟩])
  have hkP : Kept Kno w1 (w1.alloc (.cells #[.int .i64 2, .int .i64 0, .string ⟨#[]⟩] 41)) := (Kept.refl _ _).alloc _
  go_upto_region 2 with (fail)
  generalize (w1.alloc (.cells #[.int .i64 2, .int .i64 0, .string ⟨#[]⟩] 41)) = wP at HP hkP ⊢
  have p0 : wP.cell? ⟨w1.heap.size, 0, none⟩ = some (.int .i64 2) := HP.out.cell 0
  have hqz := HQ1.out.kept hkP (fun e => e)
  have hkz := hkw1.then0 hkP
  have hrz := Blk.kept HR1.out hkP (fun e => e)
  have c0 : wP.cell? ⟨w.heap.size, 0, none⟩ = some (.int .i64 0) := hqz.cell 0
  have c1 : wP.cell? ⟨w.heap.size, 1, none⟩ = some (.int .i64 0) := hqz.cell 1
  have c2 : wP.cell? ⟨w.heap.size, 2, none⟩ = some (.string ⟨#[]⟩) := hqz.cell 2
  have f0 := hqz.frozen 0
  have f1 := hqz.frozen 1
  have f2 := hqz.frozen 2
  have h3 := three_set (b0 := .int .i64 2) (b1 := .int .i64 0) (b2 := .string ⟨#[]⟩) hqz
  have HL := Lib.hid h3
  have HKZ := Lib.hid hkz
  have HRZ := Lib.hid hrz
  clear h3
  go_wp2_with (refine wpList_load_row rfl 41 (.tmp 3) rfl w1.heap.size rfl 41 #[.int .i64 2, .int .i64 0, .string ⟨#[]⟩] (0, 0) _ HP.out Try.underlying41 rfl (by kernel_rfl) ?_)
  refine bodyPost_ret (v := .agg #[.int .i64 2, .int .i64 0, .string ⟨#[]⟩]) ?_ rfl ⟨HKZ.out.trans HL.out.2 (fun k hk e => by unfold Kone at e; omega), rfl, Blk.kept HRZ.out HL.out.2 (fun e => by unfold Kone at e; omega)⟩
  exact results_cell_row rfl _ _ w.heap.size 41 _ (0, 0) _ rfl HL.out.1 Try.underlying41 rfl (by kernel_rfl)

set_option maxRecDepth 100000 in
set_option maxHeartbeats 2000000 in
theorem value_dec3_end (D n : Nat) (v : Value) (l : List UInt8) (c : UInt8) (w : World) (h : Rdr w D v n) (hb : Bs w v l) (hl : l.length ≤ 1000000) (hn : l[n]? = some c) (hc : c.toNat = 3) (hb2 : l[n + 1]? = none) :
    Calls Try.prog 66 #[.pointer (some ⟨D, 0, none⟩)] w (ValOkD D v n (.error 20) w) := by
  have hnl : n < l.length := (List.getElem?_eq_some_iff.1 hn).1
  have hD := h.lt
  have H : Hid (Rdr (w.alloc (.cells #[.int .i64 0, .int .i64 0, .string ⟨#[]⟩] 41)) D v n) := Lib.hid (Blk.kept h ((Kept.refl Kno w).alloc (.cells #[.int .i64 0, .int .i64 0, .string ⟨#[]⟩] 41)) (fun e => e))
  have HB : Hid (Bs (w.alloc (.cells #[.int .i64 0, .int .i64 0, .string ⟨#[]⟩] 41)) v l) := Lib.hid (Rd.kept0 hb ((Kept.refl Kno w).alloc (.cells #[.int .i64 0, .int .i64 0, .string ⟨#[]⟩] 41)))
  have HQ := Lib.hid (Blk.new w 41 #[.int .i64 0, .int .i64 0, .string ⟨#[]⟩])
  have hkA : Kept Kno w (w.alloc (.cells #[.int .i64 0, .int .i64 0, .string ⟨#[]⟩] 41)) := (Kept.refl _ _).alloc _
  have HNC := Lib.hid hn
  clear h hb hn
  have hlen : n + 1 = l.length := by have := List.getElem?_eq_none_iff.1 hb2; omega
  have HLEN := Lib.hid hlen
  clear hlen hb2
  go_enter Try.func66, Try.ntmps66
  go_wp2_with fail
  generalize (w.alloc (.cells #[.int .i64 0, .int .i64 0, .string ⟨#[]⟩] 41)) = wA at H HB HQ hkA ⊢
  refine (next_lit D n v l c 3 (by omega) wA H.out HB.out (by simp only [maxLen]; omega) HNC.out).mono ?_
  rintro e w1 ⟨rfl, hr1, hk1⟩
  have hkw1 : Kept (Kone D) w w1 := (hkA.mono (T := Kone D) (fun _ _ e => e.elim)).trans hk1 (fun _ _ e => e)
  have HQ1 := Lib.hid (HQ.out.kept hk1 (fun e => by unfold Kone at e; omega))
  have HB1 := Lib.hid (H.out.bs HB.out HB.out hk1)
  have HR1 := Lib.hid hr1
  have hB1 : w.heap.size < w1.heap.size := HQ1.out.lt
  clear hr1 hk1

  have HP := Lib.hid (Blk.new w1 41 #[.int .i64 3, .int .i64 0, .string ⟨#[]⟩])
  have hkP : Kept Kno w1 (w1.alloc (.cells #[.int .i64 3, .int .i64 0, .string ⟨#[]⟩] 41)) := (Kept.refl _ _).alloc _
  go_upto_region 2 with (fail)
  generalize (w1.alloc (.cells #[.int .i64 3, .int .i64 0, .string ⟨#[]⟩] 41)) = wP at HP hkP ⊢
  have p0 : wP.cell? ⟨w1.heap.size, 0, none⟩ = some (.int .i64 3) := HP.out.cell 0
  have HRP : Hid (Rdr wP D v (n + 1)) := Lib.hid (Blk.kept HR1.out hkP (fun e => e))
  have HBP : Hid (Bs wP v l) := Lib.hid (Rd.kept0 HB1.out hkP)
  have HQP := Lib.hid (HQ1.out.kept hkP (fun e => e))
  have hkwP := hkw1.then0 hkP
  have hltP : w1.heap.size < wP.heap.size := HP.out.lt
  clear hkP
  go_wp2_with fail
  refine (next_end D v l wP (by have := HRP.out; rw [HLEN.out] at this; exact this) HBP.out).mono ?_
  rintro e w2 ⟨rfl, hk2⟩
  exact ⟨rfl, hkwP.then0 hk2, rfl⟩

set_option maxRecDepth 100000 in
set_option maxHeartbeats 2000000 in
theorem value_dec3_bad (D n : Nat) (v : Value) (l : List UInt8) (c : UInt8) (w : World) (h : Rdr w D v n) (hb : Bs w v l) (hl : l.length ≤ 1000000) (hn : l[n]? = some c) (hc : c.toNat = 3) (b : UInt8) (hb2 : l[n + 1]? = some b) (hb3 : 1 < b.toNat) :
    Calls Try.prog 66 #[.pointer (some ⟨D, 0, none⟩)] w (ValOkD D v n (.error 21) w) := by
  have hnl : n < l.length := (List.getElem?_eq_some_iff.1 hn).1
  have hD := h.lt
  have H : Hid (Rdr (w.alloc (.cells #[.int .i64 0, .int .i64 0, .string ⟨#[]⟩] 41)) D v n) := Lib.hid (Blk.kept h ((Kept.refl Kno w).alloc (.cells #[.int .i64 0, .int .i64 0, .string ⟨#[]⟩] 41)) (fun e => e))
  have HB : Hid (Bs (w.alloc (.cells #[.int .i64 0, .int .i64 0, .string ⟨#[]⟩] 41)) v l) := Lib.hid (Rd.kept0 hb ((Kept.refl Kno w).alloc (.cells #[.int .i64 0, .int .i64 0, .string ⟨#[]⟩] 41)))
  have HQ := Lib.hid (Blk.new w 41 #[.int .i64 0, .int .i64 0, .string ⟨#[]⟩])
  have hkA : Kept Kno w (w.alloc (.cells #[.int .i64 0, .int .i64 0, .string ⟨#[]⟩] 41)) := (Kept.refl _ _).alloc _
  have HNC := Lib.hid hn
  clear h hb hn
  have HB2 := Lib.hid hb2
  clear hb2
  have b256 : b.toNat < 256 := b.toNat_lt
  go_enter Try.func66, Try.ntmps66
  go_wp2_with fail
  generalize (w.alloc (.cells #[.int .i64 0, .int .i64 0, .string ⟨#[]⟩] 41)) = wA at H HB HQ hkA ⊢
  refine (next_lit D n v l c 3 (by omega) wA H.out HB.out (by simp only [maxLen]; omega) HNC.out).mono ?_
  rintro e w1 ⟨rfl, hr1, hk1⟩
  have hkw1 : Kept (Kone D) w w1 := (hkA.mono (T := Kone D) (fun _ _ e => e.elim)).trans hk1 (fun _ _ e => e)
  have HQ1 := Lib.hid (HQ.out.kept hk1 (fun e => by unfold Kone at e; omega))
  have HB1 := Lib.hid (H.out.bs HB.out HB.out hk1)
  have HR1 := Lib.hid hr1
  have hB1 : w.heap.size < w1.heap.size := HQ1.out.lt
  clear hr1 hk1

  have HP := Lib.hid (Blk.new w1 41 #[.int .i64 3, .int .i64 0, .string ⟨#[]⟩])
  have hkP : Kept Kno w1 (w1.alloc (.cells #[.int .i64 3, .int .i64 0, .string ⟨#[]⟩] 41)) := (Kept.refl _ _).alloc _
  go_upto_region 2 with (fail)
  generalize (w1.alloc (.cells #[.int .i64 3, .int .i64 0, .string ⟨#[]⟩] 41)) = wP at HP hkP ⊢
  have p0 : wP.cell? ⟨w1.heap.size, 0, none⟩ = some (.int .i64 3) := HP.out.cell 0
  have HRP : Hid (Rdr wP D v (n + 1)) := Lib.hid (Blk.kept HR1.out hkP (fun e => e))
  have HBP : Hid (Bs wP v l) := Lib.hid (Rd.kept0 HB1.out hkP)
  have HQP := Lib.hid (HQ1.out.kept hkP (fun e => e))
  have hkwP := hkw1.then0 hkP
  have hltP : w1.heap.size < wP.heap.size := HP.out.lt
  clear hkP
  go_wp2_with fail
  refine (next_byte D (n + 1) v l b wP HRP.out HBP.out (by simp only [maxLen]; omega) HB2.out).mono ?_
  rintro e w2 ⟨rfl, hr2, hk2⟩
  have HRY : Hid (Rdr w2 D v (n + 1 + 1)) := Lib.hid hr2
  clear hr2
  have HPY : Hid (Blk w2 w1.heap.size 41 #[.int .i64 3, .int .i64 0, .string ⟨#[]⟩]) := Lib.hid (HP.out.kept hk2 (fun e => by unfold Kone at e; omega))
  have HQY := Lib.hid (HQP.out.kept hk2 (fun e => by unfold Kone at e; omega))
  have hkw2 : Kept (Kone D) w w2 := hkwP.trans hk2 (fun _ _ e => e)
  have y1 : w2.cell? ⟨w1.heap.size, 1, none⟩ = some (.int .i64 0) := HPY.out.cell 1
  have z1 := HPY.out.frozen 1
  have hb4 : (1 : Int) < (b.toNat : Int) := by omega
  have hkz : Kept (Kone D) w (w2.setCell ⟨w1.heap.size, 1, none⟩ (.int .i64 (b.toNat : Int))) := hkw2.setNew (p := ⟨w1.heap.size, 1, none⟩) (by simp; omega) _
  have HKZ := Lib.hid hkz
  clear hkz
  go_wp2
  exact ⟨rfl, HKZ.out, rfl⟩

set_option maxRecDepth 100000 in
set_option maxHeartbeats 2000000 in
theorem value_dec3 (D n : Nat) (v : Value) (l : List UInt8) (c : UInt8) (w : World) (h : Rdr w D v n) (hb : Bs w v l) (hl : l.length ≤ 1000000) (hn : l[n]? = some c) (hc : c.toNat = 3) (b : UInt8) (hb2 : l[n + 1]? = some b) (hb3 : ¬ 1 < b.toNat) :
    Calls Try.prog 66 #[.pointer (some ⟨D, 0, none⟩)] w (ValOkD D v n (.ok (⟨3, b.toNat, ⟨#[]⟩⟩, 2)) w) := by
  have hnl : n < l.length := (List.getElem?_eq_some_iff.1 hn).1
  have hD := h.lt
  have H : Hid (Rdr (w.alloc (.cells #[.int .i64 0, .int .i64 0, .string ⟨#[]⟩] 41)) D v n) := Lib.hid (Blk.kept h ((Kept.refl Kno w).alloc (.cells #[.int .i64 0, .int .i64 0, .string ⟨#[]⟩] 41)) (fun e => e))
  have HB : Hid (Bs (w.alloc (.cells #[.int .i64 0, .int .i64 0, .string ⟨#[]⟩] 41)) v l) := Lib.hid (Rd.kept0 hb ((Kept.refl Kno w).alloc (.cells #[.int .i64 0, .int .i64 0, .string ⟨#[]⟩] 41)))
  have HQ := Lib.hid (Blk.new w 41 #[.int .i64 0, .int .i64 0, .string ⟨#[]⟩])
  have hkA : Kept Kno w (w.alloc (.cells #[.int .i64 0, .int .i64 0, .string ⟨#[]⟩] 41)) := (Kept.refl _ _).alloc _
  have HNC := Lib.hid hn
  clear h hb hn
  have HB2 := Lib.hid hb2
  clear hb2
  go_enter Try.func66, Try.ntmps66
  go_wp2_with fail
  generalize (w.alloc (.cells #[.int .i64 0, .int .i64 0, .string ⟨#[]⟩] 41)) = wA at H HB HQ hkA ⊢
  refine (next_lit D n v l c 3 (by omega) wA H.out HB.out (by simp only [maxLen]; omega) HNC.out).mono ?_
  rintro e w1 ⟨rfl, hr1, hk1⟩
  have hkw1 : Kept (Kone D) w w1 := (hkA.mono (T := Kone D) (fun _ _ e => e.elim)).trans hk1 (fun _ _ e => e)
  have HQ1 := Lib.hid (HQ.out.kept hk1 (fun e => by unfold Kone at e; omega))
  have HB1 := Lib.hid (H.out.bs HB.out HB.out hk1)
  have HR1 := Lib.hid hr1
  have hB1 : w.heap.size < w1.heap.size := HQ1.out.lt
  clear hr1 hk1

  have HP := Lib.hid (Blk.new w1 41 #[.int .i64 3, .int .i64 0, .string ⟨#[]⟩])
  have hkP : Kept Kno w1 (w1.alloc (.cells #[.int .i64 3, .int .i64 0, .string ⟨#[]⟩] 41)) := (Kept.refl _ _).alloc _
  go_upto_region 2 with (fail)
  generalize (w1.alloc (.cells #[.int .i64 3, .int .i64 0, .string ⟨#[]⟩] 41)) = wP at HP hkP ⊢
  have p0 : wP.cell? ⟨w1.heap.size, 0, none⟩ = some (.int .i64 3) := HP.out.cell 0
  have HRP : Hid (Rdr wP D v (n + 1)) := Lib.hid (Blk.kept HR1.out hkP (fun e => e))
  have HBP : Hid (Bs wP v l) := Lib.hid (Rd.kept0 HB1.out hkP)
  have HQP := Lib.hid (HQ1.out.kept hkP (fun e => e))
  have hkwP := hkw1.then0 hkP
  have hltP : w1.heap.size < wP.heap.size := HP.out.lt
  clear hkP
  go_wp2_with fail
  refine (next_byte D (n + 1) v l b wP HRP.out HBP.out (by simp only [maxLen]; omega) HB2.out).mono ?_
  rintro e w2 ⟨rfl, hr2, hk2⟩
  have HRY : Hid (Rdr w2 D v (n + 1 + 1)) := Lib.hid hr2
  clear hr2
  have HPY : Hid (Blk w2 w1.heap.size 41 #[.int .i64 3, .int .i64 0, .string ⟨#[]⟩]) := Lib.hid (HP.out.kept hk2 (fun e => by unfold Kone at e; omega))
  have HQY := Lib.hid (HQP.out.kept hk2 (fun e => by unfold Kone at e; omega))
  have hkw2 : Kept (Kone D) w w2 := hkwP.trans hk2 (fun _ _ e => e)
  have y1 : w2.cell? ⟨w1.heap.size, 1, none⟩ = some (.int .i64 0) := HPY.out.cell 1
  have z1 := HPY.out.frozen 1
  have hb4 : ¬ (1 : Int) < (b.toNat : Int) := by omega
  go_upto_region 8 with (fail)
  have HPZ := Lib.hid (HPY.out.set_ 1 (.int .i64 (b.toNat : Int)))
  have hkS : Kept (Kone w1.heap.size) w2 (w2.setCell ⟨w1.heap.size, 1, none⟩ (.int .i64 (b.toNat : Int))) := Kept.setIn (S := Kone w1.heap.size) (Kept.refl _ _) (p := ⟨w1.heap.size, 1, none⟩) (Eq.refl _) _
  have hqz := HQY.out.kept hkS (fun e => by unfold Kone at e; omega)
  have hkz : Kept (Kone D) w (w2.setCell ⟨w1.heap.size, 1, none⟩ (.int .i64 (b.toNat : Int))) := hkw2.trans hkS (fun k hk e => by unfold Kone at e; omega)
  have hrz := Blk.kept HRY.out hkS (fun e => by unfold Kone at e; omega)
  generalize (w2.setCell ⟨w1.heap.size, 1, none⟩ (.int .i64 (b.toNat : Int))) = wz at HPZ hkS hqz hkz hrz ⊢
  have y1' : wz.cell? ⟨w1.heap.size, 1, none⟩ = some (.int .i64 (b.toNat : Int)) := HPZ.out.cell 1
  have c0 : wz.cell? ⟨w.heap.size, 0, none⟩ = some (.int .i64 0) := hqz.cell 0
  have c1 : wz.cell? ⟨w.heap.size, 1, none⟩ = some (.int .i64 0) := hqz.cell 1
  have c2 : wz.cell? ⟨w.heap.size, 2, none⟩ = some (.string ⟨#[]⟩) := hqz.cell 2
  have f0 := hqz.frozen 0
  have f1 := hqz.frozen 1
  have f2 := hqz.frozen 2
  have h3 := three_set (b0 := .int .i64 3) (b1 := .int .i64 (b.toNat : Int)) (b2 := .string ⟨#[]⟩) hqz
  have HL := Lib.hid h3
  have HKZ := Lib.hid hkz
  have HRZ := Lib.hid hrz
  clear h3
  go_wp2_with (refine wpList_load_row rfl 41 (.tmp 3) rfl w1.heap.size rfl 41 #[.int .i64 3, .int .i64 (b.toNat : Int), .string ⟨#[]⟩] (0, 0) _ HPZ.out Try.underlying41 rfl (by kernel_rfl) ?_)
  refine bodyPost_ret (v := .agg #[.int .i64 3, .int .i64 (b.toNat : Int), .string ⟨#[]⟩]) ?_ rfl ⟨HKZ.out.trans HL.out.2 (fun k hk e => by unfold Kone at e; omega), rfl, Blk.kept HRZ.out HL.out.2 (fun e => by unfold Kone at e; omega)⟩
  exact results_cell_row rfl _ _ w.heap.size 41 _ (0, 0) _ rfl HL.out.1 Try.underlying41 rfl (by kernel_rfl)

set_option maxRecDepth 100000 in
set_option maxHeartbeats 2000000 in
theorem value_dec4_err (D n : Nat) (v : Value) (l : List UInt8) (c : UInt8) (w : World) (h : Rdr w D v n) (hb : Bs w v l) (hl : l.length ≤ 1000000) (hn : l[n]? = some c) (hc : c.toNat = 4) (e0 : Int) (hb2 : uintAt l (n + 1) = .error e0) :
    Calls Try.prog 66 #[.pointer (some ⟨D, 0, none⟩)] w (ValOkD D v n (.error e0) w) := by
  have hnl : n < l.length := (List.getElem?_eq_some_iff.1 hn).1
  have hD := h.lt
  have H : Hid (Rdr (w.alloc (.cells #[.int .i64 0, .int .i64 0, .string ⟨#[]⟩] 41)) D v n) := Lib.hid (Blk.kept h ((Kept.refl Kno w).alloc (.cells #[.int .i64 0, .int .i64 0, .string ⟨#[]⟩] 41)) (fun e => e))
  have HB : Hid (Bs (w.alloc (.cells #[.int .i64 0, .int .i64 0, .string ⟨#[]⟩] 41)) v l) := Lib.hid (Rd.kept0 hb ((Kept.refl Kno w).alloc (.cells #[.int .i64 0, .int .i64 0, .string ⟨#[]⟩] 41)))
  have HQ := Lib.hid (Blk.new w 41 #[.int .i64 0, .int .i64 0, .string ⟨#[]⟩])
  have hkA : Kept Kno w (w.alloc (.cells #[.int .i64 0, .int .i64 0, .string ⟨#[]⟩] 41)) := (Kept.refl _ _).alloc _
  have HNC := Lib.hid hn
  clear h hb hn
  have HB2 := Lib.hid hb2
  clear hb2
  go_enter Try.func66, Try.ntmps66
  go_wp2_with fail
  generalize (w.alloc (.cells #[.int .i64 0, .int .i64 0, .string ⟨#[]⟩] 41)) = wA at H HB HQ hkA ⊢
  refine (next_lit D n v l c 4 (by omega) wA H.out HB.out (by simp only [maxLen]; omega) HNC.out).mono ?_
  rintro e w1 ⟨rfl, hr1, hk1⟩
  have hkw1 : Kept (Kone D) w w1 := (hkA.mono (T := Kone D) (fun _ _ e => e.elim)).trans hk1 (fun _ _ e => e)
  have HQ1 := Lib.hid (HQ.out.kept hk1 (fun e => by unfold Kone at e; omega))
  have HB1 := Lib.hid (H.out.bs HB.out HB.out hk1)
  have HR1 := Lib.hid hr1
  have hB1 : w.heap.size < w1.heap.size := HQ1.out.lt
  clear hr1 hk1

  have HP := Lib.hid (Blk.new w1 41 #[.int .i64 4, .int .i64 0, .string ⟨#[]⟩])
  have hkP : Kept Kno w1 (w1.alloc (.cells #[.int .i64 4, .int .i64 0, .string ⟨#[]⟩] 41)) := (Kept.refl _ _).alloc _
  go_upto_region 2 with (fail)
  generalize (w1.alloc (.cells #[.int .i64 4, .int .i64 0, .string ⟨#[]⟩] 41)) = wP at HP hkP ⊢
  have p0 : wP.cell? ⟨w1.heap.size, 0, none⟩ = some (.int .i64 4) := HP.out.cell 0
  have HRP : Hid (Rdr wP D v (n + 1)) := Lib.hid (Blk.kept HR1.out hkP (fun e => e))
  have HBP : Hid (Bs wP v l) := Lib.hid (Rd.kept0 HB1.out hkP)
  have HQP := Lib.hid (HQ1.out.kept hkP (fun e => e))
  have hkwP := hkw1.then0 hkP
  have hltP : w1.heap.size < wP.heap.size := HP.out.lt
  clear hkP
  go_wp2_with fail
  refine (int_dec D (n + 1) v l wP HRP.out HBP.out hl (by omega)).mono ?_
  rw [HB2.out]
  rintro e w2 ⟨hk2, rfl⟩
  exact ⟨rfl, hkwP.trans hk2 (fun _ _ e => e), rfl⟩

set_option maxRecDepth 100000 in
set_option maxHeartbeats 2000000 in
theorem value_dec4 (D n : Nat) (v : Value) (l : List UInt8) (c : UInt8) (w : World) (h : Rdr w D v n) (hb : Bs w v l) (hl : l.length ≤ 1000000) (hn : l[n]? = some c) (hc : c.toNat = 4) (N k : Nat) (hb2 : uintAt l (n + 1) = .ok (N, k)) :
    Calls Try.prog 66 #[.pointer (some ⟨D, 0, none⟩)] w (ValOkD D v n (.ok (⟨4, unzz N, ⟨#[]⟩⟩, 1 + k)) w) := by
  have hnl : n < l.length := (List.getElem?_eq_some_iff.1 hn).1
  have hD := h.lt
  have H : Hid (Rdr (w.alloc (.cells #[.int .i64 0, .int .i64 0, .string ⟨#[]⟩] 41)) D v n) := Lib.hid (Blk.kept h ((Kept.refl Kno w).alloc (.cells #[.int .i64 0, .int .i64 0, .string ⟨#[]⟩] 41)) (fun e => e))
  have HB : Hid (Bs (w.alloc (.cells #[.int .i64 0, .int .i64 0, .string ⟨#[]⟩] 41)) v l) := Lib.hid (Rd.kept0 hb ((Kept.refl Kno w).alloc (.cells #[.int .i64 0, .int .i64 0, .string ⟨#[]⟩] 41)))
  have HQ := Lib.hid (Blk.new w 41 #[.int .i64 0, .int .i64 0, .string ⟨#[]⟩])
  have hkA : Kept Kno w (w.alloc (.cells #[.int .i64 0, .int .i64 0, .string ⟨#[]⟩] 41)) := (Kept.refl _ _).alloc _
  have HNC := Lib.hid hn
  clear h hb hn
  have HB2 := Lib.hid hb2
  clear hb2
  go_enter Try.func66, Try.ntmps66
  go_wp2_with fail
  generalize (w.alloc (.cells #[.int .i64 0, .int .i64 0, .string ⟨#[]⟩] 41)) = wA at H HB HQ hkA ⊢
  refine (next_lit D n v l c 4 (by omega) wA H.out HB.out (by simp only [maxLen]; omega) HNC.out).mono ?_
  rintro e w1 ⟨rfl, hr1, hk1⟩
  have hkw1 : Kept (Kone D) w w1 := (hkA.mono (T := Kone D) (fun _ _ e => e.elim)).trans hk1 (fun _ _ e => e)
  have HQ1 := Lib.hid (HQ.out.kept hk1 (fun e => by unfold Kone at e; omega))
  have HB1 := Lib.hid (H.out.bs HB.out HB.out hk1)
  have HR1 := Lib.hid hr1
  have hB1 : w.heap.size < w1.heap.size := HQ1.out.lt
  clear hr1 hk1

  have HP := Lib.hid (Blk.new w1 41 #[.int .i64 4, .int .i64 0, .string ⟨#[]⟩])
  have hkP : Kept Kno w1 (w1.alloc (.cells #[.int .i64 4, .int .i64 0, .string ⟨#[]⟩] 41)) := (Kept.refl _ _).alloc _
  go_upto_region 2 with (fail)
  generalize (w1.alloc (.cells #[.int .i64 4, .int .i64 0, .string ⟨#[]⟩] 41)) = wP at HP hkP ⊢
  have p0 : wP.cell? ⟨w1.heap.size, 0, none⟩ = some (.int .i64 4) := HP.out.cell 0
  have HRP : Hid (Rdr wP D v (n + 1)) := Lib.hid (Blk.kept HR1.out hkP (fun e => e))
  have HBP : Hid (Bs wP v l) := Lib.hid (Rd.kept0 HB1.out hkP)
  have HQP := Lib.hid (HQ1.out.kept hkP (fun e => e))
  have hkwP := hkw1.then0 hkP
  have hltP : w1.heap.size < wP.heap.size := HP.out.lt
  clear hkP
  go_wp2_with fail
  refine (int_dec D (n + 1) v l wP HRP.out HBP.out hl (by omega)).mono ?_
  rw [HB2.out]
  rintro e w2 ⟨hk2, rfl, hr2⟩
  rw [Nat.add_assoc] at hr2
  have HRY : Hid (Rdr w2 D v (n + (1 + k))) := Lib.hid hr2
  clear hr2 HB2
  generalize hZZ : unzz N = Z
  have HZZ := Lib.hid hZZ
  clear hZZ
  have HPY : Hid (Blk w2 w1.heap.size 41 #[.int .i64 4, .int .i64 0, .string ⟨#[]⟩]) := Lib.hid (HP.out.kept hk2 (fun e => by unfold Kone at e; omega))
  have HQY := Lib.hid (HQP.out.kept hk2 (fun e => by unfold Kone at e; omega))
  have hkw2 : Kept (Kone D) w w2 := hkwP.trans hk2 (fun _ _ e => e)
  have y1 : w2.cell? ⟨w1.heap.size, 1, none⟩ = some (.int .i64 0) := HPY.out.cell 1
  have z1 := HPY.out.frozen 1
  go_upto_region 14 with (fail)
  have HPZ := Lib.hid (HPY.out.set_ 1 (.int .i64 Z))
  have hkS : Kept (Kone w1.heap.size) w2 (w2.setCell ⟨w1.heap.size, 1, none⟩ (.int .i64 Z)) := Kept.setIn (S := Kone w1.heap.size) (Kept.refl _ _) (p := ⟨w1.heap.size, 1, none⟩) (Eq.refl _) _
  have hqz := HQY.out.kept hkS (fun e => by unfold Kone at e; omega)
  have hkz : Kept (Kone D) w (w2.setCell ⟨w1.heap.size, 1, none⟩ (.int .i64 Z)) := hkw2.trans hkS (fun k hk e => by unfold Kone at e; omega)
  have hrz := Blk.kept HRY.out hkS (fun e => by unfold Kone at e; omega)
  generalize (w2.setCell ⟨w1.heap.size, 1, none⟩ (.int .i64 Z)) = wz at HPZ hkS hqz hkz hrz ⊢
  have c0 : wz.cell? ⟨w.heap.size, 0, none⟩ = some (.int .i64 0) := hqz.cell 0
  have c1 : wz.cell? ⟨w.heap.size, 1, none⟩ = some (.int .i64 0) := hqz.cell 1
  have c2 : wz.cell? ⟨w.heap.size, 2, none⟩ = some (.string ⟨#[]⟩) := hqz.cell 2
  have f0 := hqz.frozen 0
  have f1 := hqz.frozen 1
  have f2 := hqz.frozen 2
  have h3 := three_set (b0 := .int .i64 4) (b1 := .int .i64 Z) (b2 := .string ⟨#[]⟩) hqz
  have HL := Lib.hid h3
  have HKZ := Lib.hid hkz
  have HRZ := Lib.hid hrz
  clear h3
  go_wp2_with (refine wpList_load_row rfl 41 (.tmp 3) rfl w1.heap.size rfl 41 #[.int .i64 4, .int .i64 Z, .string ⟨#[]⟩] (0, 0) _ HPZ.out Try.underlying41 rfl (by kernel_rfl) ?_)
  refine bodyPost_ret (v := .agg #[.int .i64 4, .int .i64 Z, .string ⟨#[]⟩]) ?_ rfl ⟨HKZ.out.trans HL.out.2 (fun k hk e => by unfold Kone at e; omega), by rw [HZZ.out]; rfl, Blk.kept HRZ.out HL.out.2 (fun e => by unfold Kone at e; omega)⟩
  exact results_cell_row rfl _ _ w.heap.size 41 _ (0, 0) _ rfl HL.out.1 Try.underlying41 rfl (by kernel_rfl)

set_option maxRecDepth 100000 in
set_option maxHeartbeats 2000000 in
theorem value_dec5_err (D n : Nat) (v : Value) (l : List UInt8) (c : UInt8) (w : World) (h : Rdr w D v n) (hb : Bs w v l) (hl : l.length ≤ 1000000) (hn : l[n]? = some c) (hc : c.toNat = 5) (e0 : Int) (hb2 : textAt l (n + 1) 64 = .error e0) :
    Calls Try.prog 66 #[.pointer (some ⟨D, 0, none⟩)] w (ValOkD D v n (.error e0) w) := by
  have hnl : n < l.length := (List.getElem?_eq_some_iff.1 hn).1
  have hD := h.lt
  have H : Hid (Rdr (w.alloc (.cells #[.int .i64 0, .int .i64 0, .string ⟨#[]⟩] 41)) D v n) := Lib.hid (Blk.kept h ((Kept.refl Kno w).alloc (.cells #[.int .i64 0, .int .i64 0, .string ⟨#[]⟩] 41)) (fun e => e))
  have HB : Hid (Bs (w.alloc (.cells #[.int .i64 0, .int .i64 0, .string ⟨#[]⟩] 41)) v l) := Lib.hid (Rd.kept0 hb ((Kept.refl Kno w).alloc (.cells #[.int .i64 0, .int .i64 0, .string ⟨#[]⟩] 41)))
  have HQ := Lib.hid (Blk.new w 41 #[.int .i64 0, .int .i64 0, .string ⟨#[]⟩])
  have hkA : Kept Kno w (w.alloc (.cells #[.int .i64 0, .int .i64 0, .string ⟨#[]⟩] 41)) := (Kept.refl _ _).alloc _
  have HNC := Lib.hid hn
  clear h hb hn
  have HB2 := Lib.hid hb2
  clear hb2
  go_enter Try.func66, Try.ntmps66
  go_wp2_with fail
  generalize (w.alloc (.cells #[.int .i64 0, .int .i64 0, .string ⟨#[]⟩] 41)) = wA at H HB HQ hkA ⊢
  refine (next_lit D n v l c 5 (by omega) wA H.out HB.out (by simp only [maxLen]; omega) HNC.out).mono ?_
  rintro e w1 ⟨rfl, hr1, hk1⟩
  have hkw1 : Kept (Kone D) w w1 := (hkA.mono (T := Kone D) (fun _ _ e => e.elim)).trans hk1 (fun _ _ e => e)
  have HQ1 := Lib.hid (HQ.out.kept hk1 (fun e => by unfold Kone at e; omega))
  have HB1 := Lib.hid (H.out.bs HB.out HB.out hk1)
  have HR1 := Lib.hid hr1
  have hB1 : w.heap.size < w1.heap.size := HQ1.out.lt
  clear hr1 hk1

  have HP := Lib.hid (Blk.new w1 41 #[.int .i64 5, .int .i64 0, .string ⟨#[]⟩])
  have hkP : Kept Kno w1 (w1.alloc (.cells #[.int .i64 5, .int .i64 0, .string ⟨#[]⟩] 41)) := (Kept.refl _ _).alloc _
  go_upto_region 2 with (fail)
  generalize (w1.alloc (.cells #[.int .i64 5, .int .i64 0, .string ⟨#[]⟩] 41)) = wP at HP hkP ⊢
  have p0 : wP.cell? ⟨w1.heap.size, 0, none⟩ = some (.int .i64 5) := HP.out.cell 0
  have HRP : Hid (Rdr wP D v (n + 1)) := Lib.hid (Blk.kept HR1.out hkP (fun e => e))
  have HBP : Hid (Bs wP v l) := Lib.hid (Rd.kept0 HB1.out hkP)
  have HQP := Lib.hid (HQ1.out.kept hkP (fun e => e))
  have hkwP := hkw1.then0 hkP
  have hltP : w1.heap.size < wP.heap.size := HP.out.lt
  clear hkP
  go_wp2_with fail
  refine (text_dec D (n + 1) 64 v l wP HRP.out HBP.out hl (by omega) (by omega)).mono ?_
  rw [HB2.out]
  rintro e w2 ⟨hk2, rfl⟩
  exact ⟨rfl, hkwP.trans hk2 (fun _ _ e => e), rfl⟩

set_option maxRecDepth 100000 in
set_option maxHeartbeats 2000000 in
theorem value_dec5 (D n : Nat) (v : Value) (l : List UInt8) (c : UInt8) (w : World) (h : Rdr w D v n) (hb : Bs w v l) (hl : l.length ≤ 1000000) (hn : l[n]? = some c) (hc : c.toNat = 5) (t : List UInt8) (k : Nat) (hb2 : textAt l (n + 1) 64 = .ok (t, k)) :
    Calls Try.prog 66 #[.pointer (some ⟨D, 0, none⟩)] w (ValOkD D v n (.ok (⟨5, 0, ⟨t.toArray⟩⟩, 1 + k)) w) := by
  have hnl : n < l.length := (List.getElem?_eq_some_iff.1 hn).1
  have hD := h.lt
  have H : Hid (Rdr (w.alloc (.cells #[.int .i64 0, .int .i64 0, .string ⟨#[]⟩] 41)) D v n) := Lib.hid (Blk.kept h ((Kept.refl Kno w).alloc (.cells #[.int .i64 0, .int .i64 0, .string ⟨#[]⟩] 41)) (fun e => e))
  have HB : Hid (Bs (w.alloc (.cells #[.int .i64 0, .int .i64 0, .string ⟨#[]⟩] 41)) v l) := Lib.hid (Rd.kept0 hb ((Kept.refl Kno w).alloc (.cells #[.int .i64 0, .int .i64 0, .string ⟨#[]⟩] 41)))
  have HQ := Lib.hid (Blk.new w 41 #[.int .i64 0, .int .i64 0, .string ⟨#[]⟩])
  have hkA : Kept Kno w (w.alloc (.cells #[.int .i64 0, .int .i64 0, .string ⟨#[]⟩] 41)) := (Kept.refl _ _).alloc _
  have HNC := Lib.hid hn
  clear h hb hn
  have HB2 := Lib.hid hb2
  clear hb2
  go_enter Try.func66, Try.ntmps66
  go_wp2_with fail
  generalize (w.alloc (.cells #[.int .i64 0, .int .i64 0, .string ⟨#[]⟩] 41)) = wA at H HB HQ hkA ⊢
  refine (next_lit D n v l c 5 (by omega) wA H.out HB.out (by simp only [maxLen]; omega) HNC.out).mono ?_
  rintro e w1 ⟨rfl, hr1, hk1⟩
  have hkw1 : Kept (Kone D) w w1 := (hkA.mono (T := Kone D) (fun _ _ e => e.elim)).trans hk1 (fun _ _ e => e)
  have HQ1 := Lib.hid (HQ.out.kept hk1 (fun e => by unfold Kone at e; omega))
  have HB1 := Lib.hid (H.out.bs HB.out HB.out hk1)
  have HR1 := Lib.hid hr1
  have hB1 : w.heap.size < w1.heap.size := HQ1.out.lt
  clear hr1 hk1

  have HP := Lib.hid (Blk.new w1 41 #[.int .i64 5, .int .i64 0, .string ⟨#[]⟩])
  have hkP : Kept Kno w1 (w1.alloc (.cells #[.int .i64 5, .int .i64 0, .string ⟨#[]⟩] 41)) := (Kept.refl _ _).alloc _
  go_upto_region 2 with (fail)
  generalize (w1.alloc (.cells #[.int .i64 5, .int .i64 0, .string ⟨#[]⟩] 41)) = wP at HP hkP ⊢
  have p0 : wP.cell? ⟨w1.heap.size, 0, none⟩ = some (.int .i64 5) := HP.out.cell 0
  have HRP : Hid (Rdr wP D v (n + 1)) := Lib.hid (Blk.kept HR1.out hkP (fun e => e))
  have HBP : Hid (Bs wP v l) := Lib.hid (Rd.kept0 HB1.out hkP)
  have HQP := Lib.hid (HQ1.out.kept hkP (fun e => e))
  have hkwP := hkw1.then0 hkP
  have hltP : w1.heap.size < wP.heap.size := HP.out.lt
  clear hkP
  go_wp2_with fail
  refine (text_dec D (n + 1) 64 v l wP HRP.out HBP.out hl (by omega) (by omega)).mono ?_
  rw [HB2.out]
  rintro e w2 ⟨hk2, rfl, hr2⟩
  rw [Nat.add_assoc] at hr2
  have HRY : Hid (Rdr w2 D v (n + (1 + k))) := Lib.hid hr2
  clear hr2 HB2
  generalize hZZ : (⟨t.toArray⟩ : ByteArray) = S
  have HZZ := Lib.hid hZZ
  clear hZZ
  have HPY : Hid (Blk w2 w1.heap.size 41 #[.int .i64 5, .int .i64 0, .string ⟨#[]⟩]) := Lib.hid (HP.out.kept hk2 (fun e => by unfold Kone at e; omega))
  have HQY := Lib.hid (HQP.out.kept hk2 (fun e => by unfold Kone at e; omega))
  have hkw2 : Kept (Kone D) w w2 := hkwP.trans hk2 (fun _ _ e => e)
  have y2 : w2.cell? ⟨w1.heap.size, 2, none⟩ = some (.string ⟨#[]⟩) := HPY.out.cell 2
  have z2 := HPY.out.frozen 2
  go_upto_region 14 with (fail)
  have HPZ := Lib.hid (HPY.out.set_ 2 (.string S))
  have hkS : Kept (Kone w1.heap.size) w2 (w2.setCell ⟨w1.heap.size, 2, none⟩ (.string S)) := Kept.setIn (S := Kone w1.heap.size) (Kept.refl _ _) (p := ⟨w1.heap.size, 2, none⟩) (Eq.refl _) _
  have hqz := HQY.out.kept hkS (fun e => by unfold Kone at e; omega)
  have hkz : Kept (Kone D) w (w2.setCell ⟨w1.heap.size, 2, none⟩ (.string S)) := hkw2.trans hkS (fun k hk e => by unfold Kone at e; omega)
  have hrz := Blk.kept HRY.out hkS (fun e => by unfold Kone at e; omega)
  generalize (w2.setCell ⟨w1.heap.size, 2, none⟩ (.string S)) = wz at HPZ hkS hqz hkz hrz ⊢
  have c0 : wz.cell? ⟨w.heap.size, 0, none⟩ = some (.int .i64 0) := hqz.cell 0
  have c1 : wz.cell? ⟨w.heap.size, 1, none⟩ = some (.int .i64 0) := hqz.cell 1
  have c2 : wz.cell? ⟨w.heap.size, 2, none⟩ = some (.string ⟨#[]⟩) := hqz.cell 2
  have f0 := hqz.frozen 0
  have f1 := hqz.frozen 1
  have f2 := hqz.frozen 2
  have h3 := three_set (b0 := .int .i64 5) (b1 := .int .i64 0) (b2 := .string S) hqz
  have HL := Lib.hid h3
  have HKZ := Lib.hid hkz
  have HRZ := Lib.hid hrz
  clear h3
  go_wp2_with (refine wpList_load_row rfl 41 (.tmp 3) rfl w1.heap.size rfl 41 #[.int .i64 5, .int .i64 0, .string S] (0, 0) _ HPZ.out Try.underlying41 rfl (by kernel_rfl) ?_)
  refine bodyPost_ret (v := .agg #[.int .i64 5, .int .i64 0, .string S]) ?_ rfl ⟨HKZ.out.trans HL.out.2 (fun k hk e => by unfold Kone at e; omega), by rw [HZZ.out]; rfl, Blk.kept HRZ.out HL.out.2 (fun e => by unfold Kone at e; omega)⟩
  exact results_cell_row rfl _ _ w.heap.size 41 _ (0, 0) _ rfl HL.out.1 Try.underlying41 rfl (by kernel_rfl)

set_option maxRecDepth 100000 in
set_option maxHeartbeats 2000000 in
theorem value_dec0 (D n : Nat) (v : Value) (l : List UInt8) (c : UInt8) (w : World) (h : Rdr w D v n) (hb : Bs w v l) (hl : l.length ≤ 1000000) (hn : l[n]? = some c) (hc : c.toNat ≠ 1 ∧ c.toNat ≠ 2 ∧ c.toNat ≠ 3 ∧ c.toNat ≠ 4 ∧ c.toNat ≠ 5) :
    Calls Try.prog 66 #[.pointer (some ⟨D, 0, none⟩)] w (ValOkD D v n (.error 21) w) := by
  have hnl : n < l.length := (List.getElem?_eq_some_iff.1 hn).1
  have hD := h.lt
  have H : Hid (Rdr (w.alloc (.cells #[.int .i64 0, .int .i64 0, .string ⟨#[]⟩] 41)) D v n) := Lib.hid (Blk.kept h ((Kept.refl Kno w).alloc (.cells #[.int .i64 0, .int .i64 0, .string ⟨#[]⟩] 41)) (fun e => e))
  have HB : Hid (Bs (w.alloc (.cells #[.int .i64 0, .int .i64 0, .string ⟨#[]⟩] 41)) v l) := Lib.hid (Rd.kept0 hb ((Kept.refl Kno w).alloc (.cells #[.int .i64 0, .int .i64 0, .string ⟨#[]⟩] 41)))
  have HQ := Lib.hid (Blk.new w 41 #[.int .i64 0, .int .i64 0, .string ⟨#[]⟩])
  have hkA : Kept Kno w (w.alloc (.cells #[.int .i64 0, .int .i64 0, .string ⟨#[]⟩] 41)) := (Kept.refl _ _).alloc _
  have HNC := Lib.hid hn
  clear h hb hn
  have c256 : c.toNat < 256 := c.toNat_lt
  have o1 : ((c.toNat : Int) == 1) = false := by simp; omega
  have o2 : ((c.toNat : Int) == 2) = false := by simp; omega
  have o3 : ((c.toNat : Int) == 3) = false := by simp; omega
  have o4 : ((c.toNat : Int) == 4) = false := by simp; omega
  have o5 : ((c.toNat : Int) == 5) = false := by simp; omega
  clear hc
  go_enter Try.func66, Try.ntmps66
  go_wp2_with fail
  generalize (w.alloc (.cells #[.int .i64 0, .int .i64 0, .string ⟨#[]⟩] 41)) = wA at H HB HQ hkA ⊢
  refine (next_lit D n v l c (c.toNat : Int) (by omega) wA H.out HB.out (by simp only [maxLen]; omega) HNC.out).mono ?_
  rintro e w1 ⟨rfl, hr1, hk1⟩
  have hkw1 : Kept (Kone D) w w1 := (hkA.mono (T := Kone D) (fun _ _ e => e.elim)).trans hk1 (fun _ _ e => e)
  have HQ1 := Lib.hid (HQ.out.kept hk1 (fun e => by unfold Kone at e; omega))
  have HB1 := Lib.hid (H.out.bs HB.out HB.out hk1)
  have HR1 := Lib.hid hr1
  have hB1 : w.heap.size < w1.heap.size := HQ1.out.lt
  clear hr1 hk1

  have HP := Lib.hid (Blk.new w1 41 #[.int .i64 (c.toNat : Int), .int .i64 0, .string ⟨#[]⟩])
  have hkP : Kept Kno w1 (w1.alloc (.cells #[.int .i64 (c.toNat : Int), .int .i64 0, .string ⟨#[]⟩] 41)) := (Kept.refl _ _).alloc _
  go_upto_region 2 with (fail)
  generalize (w1.alloc (.cells #[.int .i64 (c.toNat : Int), .int .i64 0, .string ⟨#[]⟩] 41)) = wP at HP hkP ⊢
  have p0 : wP.cell? ⟨w1.heap.size, 0, none⟩ = some (.int .i64 (c.toNat : Int)) := HP.out.cell 0
  have HRP : Hid (Rdr wP D v (n + 1)) := Lib.hid (Blk.kept HR1.out hkP (fun e => e))
  have HBP : Hid (Bs wP v l) := Lib.hid (Rd.kept0 HB1.out hkP)
  have HQP := Lib.hid (HQ1.out.kept hkP (fun e => e))
  have hkwP := hkw1.then0 hkP
  have hltP : w1.heap.size < wP.heap.size := HP.out.lt
  clear hkP
  go_wp2
  exact ⟨rfl, hkwP, rfl⟩

set_option maxHeartbeats 2000000 in
theorem value_dec_end (D : Nat) (v : Value) (l : List UInt8) (w : World) (h : Rdr w D v l.length) (hb : Bs w v l) :
    Calls Try.prog 66 #[.pointer (some ⟨D, 0, none⟩)] w (ValOkD D v l.length (.error 20) w) := by
  have H : Hid (Rdr (w.alloc (.cells #[.int .i64 0, .int .i64 0, .string ⟨#[]⟩] 41)) D v l.length) := Lib.hid (Blk.kept h ((Kept.refl Kno w).alloc (.cells #[.int .i64 0, .int .i64 0, .string ⟨#[]⟩] 41)) (fun e => e))
  have HB : Hid (Bs (w.alloc (.cells #[.int .i64 0, .int .i64 0, .string ⟨#[]⟩] 41)) v l) := Lib.hid (Rd.kept0 hb ((Kept.refl Kno w).alloc (.cells #[.int .i64 0, .int .i64 0, .string ⟨#[]⟩] 41)))
  have hkA : Kept (Kone D) w (w.alloc (.cells #[.int .i64 0, .int .i64 0, .string ⟨#[]⟩] 41)) := (Kept.refl _ _).alloc _
  clear h hb
  go_enter Try.func66, Try.ntmps66
  go_wp2_with fail
  generalize (w.alloc (.cells #[.int .i64 0, .int .i64 0, .string ⟨#[]⟩] 41)) = wA at H HB hkA ⊢
  refine (next_end D v l wA H.out HB.out).mono ?_
  rintro e w1 ⟨rfl, hk1⟩
  exact ⟨rfl, hkA.then0 hk1, rfl⟩

theorem value_dec (D n : Nat) (v : Value) (l : List UInt8) (w : World) (h : Rdr w D v n) (hb : Bs w v l) (hl : l.length ≤ 1000000) (hn : n ≤ l.length) :
    Calls Try.prog 66 #[.pointer (some ⟨D, 0, none⟩)] w (ValOkD D v n (valAt l n) w) := by
  unfold valAt
  cases hc : l[n]? with
  | none =>
    have := List.getElem?_eq_none_iff.1 hc
    obtain rfl : n = l.length := by omega
    exact value_dec_end D v l w h hb
  | some c =>
    simp only
    by_cases c1 : c.toNat = 1
    · rw [if_pos c1]; exact value_dec1 D n v l c w h hb hl hc c1
    · rw [if_neg c1]
      by_cases c2 : c.toNat = 2
      · rw [if_pos c2]; exact value_dec2 D n v l c w h hb hl hc c2
      · rw [if_neg c2]
        by_cases c3 : c.toNat = 3
        · rw [if_pos c3]
          cases hb2 : l[n + 1]? with
          | none => exact value_dec3_end D n v l c w h hb hl hc c3 hb2
          | some b =>
            simp only
            by_cases hb3 : 1 < b.toNat
            · rw [if_pos hb3]; exact value_dec3_bad D n v l c w h hb hl hc c3 b hb2 hb3
            · rw [if_neg hb3]; exact value_dec3 D n v l c w h hb hl hc c3 b hb2 hb3
        · rw [if_neg c3]
          by_cases c4 : c.toNat = 4
          · rw [if_pos c4]
            cases hx : uintAt l (n + 1) with
            | error e => exact value_dec4_err D n v l c w h hb hl hc c4 e hx
            | ok p => exact value_dec4 D n v l c w h hb hl hc c4 p.1 p.2 hx
          · rw [if_neg c4]
            by_cases c5 : c.toNat = 5
            · rw [if_pos c5]
              cases hx : textAt l (n + 1) 64 with
              | error e => exact value_dec5_err D n v l c w h hb hl hc c5 e hx
              | ok p => exact value_dec5 D n v l c w h hb hl hc c5 p.1 p.2 hx
            · rw [if_neg c5]
              exact value_dec0 D n v l c w h hb hl hc ⟨c1, c2, c3, c4, c5⟩

end Go.Proofs.Ytdpbpmokmlnleaa
