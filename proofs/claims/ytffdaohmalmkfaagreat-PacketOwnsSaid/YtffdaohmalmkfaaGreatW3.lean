/-
  Codec: values: Valid, putValue. (Printed by gen_putvalue.py.)
-/
import Derived.Test.YtffdaohmalmkfaaGreatW2
set_option linter.unusedSimpArgs false
set_option linter.unusedVariables false
namespace Go.Proofs.YtffdaohmalmkfaaGreat
open Go.RowKit
set_option linter.unusedVariables false

/-- A cell of a row. -/
structure Val where
  kind : Int
  n : Int
  s : ByteArray
def Val.v (x : Val) : Value := .agg #[.int .i64 x.kind, .int .i64 x.n, .string x.s]

def validB (kind n : Int) (s : ByteArray) : Bool :=
  if kind = 1 then n == 0 && s.toList.isEmpty
  else if kind = 2 then n == 0 && s.toList.isEmpty
  else if kind = 3 then (n == 0 || n == 1) && s.toList.isEmpty
  else if kind = 4 then s.toList.isEmpty
  else if kind = 5 then n == 0 && decide (s.size ≤ 64)
  else false
def ValidOk (kind n : Int) (s : ByteArray) (w : World) (e : Ending) (w' : World) : Prop := e = .returned (.bool (validB kind n s)) ∧ Kept Kno w w'

set_option maxHeartbeats 1000000 in
theorem valid_any (kind n : Int) (s : ByteArray) (w : World) :
    Calls Tryz.prog 208 #[.agg #[.int .i64 kind, .int .i64 n, .string s]] w (ValidOk kind n s w) := by
  go_enter Tryz.func208, Tryz.ntmps208
  go_wp2_with fail
  all_goals (go_ret; refine ⟨?_, (Kept.refl _ _).alloc _⟩; simp_all [validB]; try omega)

set_option maxHeartbeats 1000000 in
theorem refValid_any (kind n : Int) (s : ByteArray) (w : World) :
    Calls Tryz.prog 226 #[.agg #[.int .i64 kind, .int .i64 n, .string s]] w (ValidOk kind n s w) := by
  go_enter Tryz.func226, Tryz.ntmps226
  go_wp2_with fail
  all_goals (go_ret; refine ⟨?_, (Kept.refl _ _).alloc _⟩; simp_all [validB]; try omega)

/-- A value as bytes. -/
def venc (x : Val) : List UInt8 :=
  if x.kind = 3 then [3, UInt8.ofNat x.n.toNat]
  else if x.kind = 4 then 4 :: leb (zz x.n)
  else if x.kind = 5 then 5 :: (leb x.s.size ++ sbytes x.s)
  else [UInt8.ofNat x.kind.toNat]

theorem put_one {base : Nat} {A A2 : Option Addr} {cap cap2 : Nat} {l news : List UInt8} {w wa w2 : World} {m : Nat} (h : OwnB w base 5 (.slice A l.length cap) l) (hb : base ≤ w.heap.size) (hwa : Kept (From base) w wa) (hlv : OwnB wa base 5 (.slice A l.length cap) l)
    (hm : news.length = m) (hown2 : w2.ownsRow base 5 1 (.slice A2 (l.length + m) cap2) (l.length + m) (l.map bv ++ news.map bv)) (hg2 : wa.grownBy w2 (Value.slice A l.length cap).ownBlock) :
    OwnB w2 base 5 (.slice A2 (l ++ news).length cap2) (l ++ news) ∧ Kept (From base) w w2 := by
  have e : (l ++ news).length = l.length + m := by rw [List.length_append, hm]
  refine ⟨?_, hwa.grown hg2 (fun k _ he => (own_base hlv he).1)⟩
  unfold OwnB; rw [e, List.map_append]; exact hown2
theorem PutB.before {base : Nat} {m : List UInt8} {w w1 w2 : World} {e : Ending} (h : PutB base m w1 e w2) (hk : Kept (From base) w w1) : PutB base m w e w2 := by
  obtain ⟨A, cap, h1, h2, h3⟩ := h
  exact ⟨A, cap, h1, h2, hk.trans h3 (fun _ _ e => e)⟩

set_option maxHeartbeats 1000000 in
theorem putValue_1 (base : Nat) (b : Value) (l : List UInt8) (n : Int) (s : ByteArray) (w : World) (h : OwnB w base 5 b l) (hl : l.length ≤ 140736000000000) (hb : base ≤ w.heap.size) :
    Calls Tryz.prog 298 #[b, .agg #[.int .i64 1, .int .i64 n, .string s]] w (PutB base (l ++ [1]) w) := by
  obtain ⟨i0, hi, hz0, hz1, hz2⟩ := info_parts info_byte
  have H := Lib.hid h
  obtain ⟨A0, cap0, rfl⟩ := own_form h
  have m0 : l.length + 1 ≤ maxLen := by simp only [maxLen]; omega
  obtain ⟨M, hM⟩ : ∃ M, M = l ++ [(1 : UInt8)] := ⟨_, rfl⟩
  have HM := Lib.hid hM
  have hML : M.length = l.length + 1 := by rw [hM]; simp
  have HML := Lib.hid hML
  have hML2 : M.length ≤ 140736000000001 := by omega
  have m1 : M.length + 1 ≤ maxLen := by simp only [maxLen]; omega
  have HU : Hid (OwnB (w.alloc (.cells #[.int .i64 1, .int .i64 n, .string s] 49)) base 5 (.slice A0 l.length cap0) l) := Lib.hid (World.ownsRow.alloc H.out _)
  have HQ := Lib.hid (Blk.new w 49 #[.int .i64 1, .int .i64 n, .string s])
  have hkU : Kept (From base) w (w.alloc (.cells #[.int .i64 1, .int .i64 n, .string s] 49)) := (Kept.refl _ w).alloc _
  have hsU : (w.alloc (.cells #[.int .i64 1, .int .i64 n, .string s] 49)).heap.size = w.heap.size + 1 := by simp
  have HSU := Lib.hid hsU
  clear h hM hML hsU
  go_enter Tryz.func298, Tryz.ntmps298
  go_upto_region 1 with (fail)
  generalize (w.alloc (.cells #[.int .i64 1, .int .i64 n, .string s] 49)) = wU at HU HQ hkU HSU ⊢
  have c0 : wU.cell? ⟨w.heap.size, 0, none⟩ = some (.int .i64 1) := HQ.out.cell 0
  have hbU : base ≤ wU.heap.size := by have := HSU.out; omega
  go_upto_region 2 with (at_builtin; go_must (refine wpList_append_rd _ rfl _ _ 22 rfl base 5 i0 _ 1 1 Tryz.underlying22 hi hz0 hz1 hz2 rfl (by decide) (.slice A0 l.length cap0) l.length (l.map bv) rfl (World.ownsRow.alloc HU.out _) _ 1 [bv 1] rfl (Rd.one _ _ _ rfl) (by simp [Value.oneCell', bv]) m0 (by omega) (by simp; omega) ?_); intro A1 cap1 w1 hown hg hat)
  obtain ⟨p1, p2⟩ := put_one (news := [(1 : UInt8)]) HU.out hbU ((Kept.refl _ wU).alloc _) (World.ownsRow.alloc HU.out _) rfl hown hg
  rw [← HM.out] at p1
  rw [← HML.out]
  have hk1 : Kept (From base) w w1 := hkU.trans p2 (fun _ _ e => e)
  have hq1 : Blk w1 w.heap.size 49 #[.int .i64 1, .int .i64 n, .string s] := (HQ.out.alloc _).grown hg (fun e => own_blk_ne HU.out HQ.out (by decide) e.symm)
  have e0 : w1.cell? ⟨w.heap.size, 0, none⟩ = some (.int .i64 1) := hq1.cell 0
  have e1 : w1.cell? ⟨w.heap.size, 1, none⟩ = some (.int .i64 n) := hq1.cell 1
  have e2 : w1.cell? ⟨w.heap.size, 2, none⟩ = some (.string s) := hq1.cell 2
  have HP1 := Lib.hid p1
  have hb1 : base ≤ w1.heap.size := Nat.le_trans hb hk1.size
  clear p1 p2 hown hg hat hq1 c0
  have hx : PutB base (l ++ [1]) w (.returned (.slice A1 M.length cap1)) w1 := by
    have h9 := HP1.out
    rw [HM.out] at h9 ⊢
    exact ⟨A1, cap1, rfl, h9, hk1⟩
  have HX := Lib.hid hx
  clear hx
  go_wp2
  go_ret
  exact HX.out

set_option maxHeartbeats 1000000 in
theorem putValue_2 (base : Nat) (b : Value) (l : List UInt8) (n : Int) (s : ByteArray) (w : World) (h : OwnB w base 5 b l) (hl : l.length ≤ 140736000000000) (hb : base ≤ w.heap.size) :
    Calls Tryz.prog 298 #[b, .agg #[.int .i64 2, .int .i64 n, .string s]] w (PutB base (l ++ [2]) w) := by
  obtain ⟨i0, hi, hz0, hz1, hz2⟩ := info_parts info_byte
  have H := Lib.hid h
  obtain ⟨A0, cap0, rfl⟩ := own_form h
  have m0 : l.length + 1 ≤ maxLen := by simp only [maxLen]; omega
  obtain ⟨M, hM⟩ : ∃ M, M = l ++ [(2 : UInt8)] := ⟨_, rfl⟩
  have HM := Lib.hid hM
  have hML : M.length = l.length + 1 := by rw [hM]; simp
  have HML := Lib.hid hML
  have hML2 : M.length ≤ 140736000000001 := by omega
  have m1 : M.length + 1 ≤ maxLen := by simp only [maxLen]; omega
  have HU : Hid (OwnB (w.alloc (.cells #[.int .i64 2, .int .i64 n, .string s] 49)) base 5 (.slice A0 l.length cap0) l) := Lib.hid (World.ownsRow.alloc H.out _)
  have HQ := Lib.hid (Blk.new w 49 #[.int .i64 2, .int .i64 n, .string s])
  have hkU : Kept (From base) w (w.alloc (.cells #[.int .i64 2, .int .i64 n, .string s] 49)) := (Kept.refl _ w).alloc _
  have hsU : (w.alloc (.cells #[.int .i64 2, .int .i64 n, .string s] 49)).heap.size = w.heap.size + 1 := by simp
  have HSU := Lib.hid hsU
  clear h hM hML hsU
  go_enter Tryz.func298, Tryz.ntmps298
  go_upto_region 1 with (fail)
  generalize (w.alloc (.cells #[.int .i64 2, .int .i64 n, .string s] 49)) = wU at HU HQ hkU HSU ⊢
  have c0 : wU.cell? ⟨w.heap.size, 0, none⟩ = some (.int .i64 2) := HQ.out.cell 0
  have hbU : base ≤ wU.heap.size := by have := HSU.out; omega
  go_upto_region 2 with (at_builtin; go_must (refine wpList_append_rd _ rfl _ _ 22 rfl base 5 i0 _ 1 1 Tryz.underlying22 hi hz0 hz1 hz2 rfl (by decide) (.slice A0 l.length cap0) l.length (l.map bv) rfl (World.ownsRow.alloc HU.out _) _ 1 [bv 2] rfl (Rd.one _ _ _ rfl) (by simp [Value.oneCell', bv]) m0 (by omega) (by simp; omega) ?_); intro A1 cap1 w1 hown hg hat)
  obtain ⟨p1, p2⟩ := put_one (news := [(2 : UInt8)]) HU.out hbU ((Kept.refl _ wU).alloc _) (World.ownsRow.alloc HU.out _) rfl hown hg
  rw [← HM.out] at p1
  rw [← HML.out]
  have hk1 : Kept (From base) w w1 := hkU.trans p2 (fun _ _ e => e)
  have hq1 : Blk w1 w.heap.size 49 #[.int .i64 2, .int .i64 n, .string s] := (HQ.out.alloc _).grown hg (fun e => own_blk_ne HU.out HQ.out (by decide) e.symm)
  have e0 : w1.cell? ⟨w.heap.size, 0, none⟩ = some (.int .i64 2) := hq1.cell 0
  have e1 : w1.cell? ⟨w.heap.size, 1, none⟩ = some (.int .i64 n) := hq1.cell 1
  have e2 : w1.cell? ⟨w.heap.size, 2, none⟩ = some (.string s) := hq1.cell 2
  have HP1 := Lib.hid p1
  have hb1 : base ≤ w1.heap.size := Nat.le_trans hb hk1.size
  clear p1 p2 hown hg hat hq1 c0
  have hx : PutB base (l ++ [2]) w (.returned (.slice A1 M.length cap1)) w1 := by
    have h9 := HP1.out
    rw [HM.out] at h9 ⊢
    exact ⟨A1, cap1, rfl, h9, hk1⟩
  have HX := Lib.hid hx
  clear hx
  go_wp2
  go_ret
  exact HX.out

set_option maxHeartbeats 1000000 in
theorem putValue_3 (base : Nat) (b : Value) (l : List UInt8) (n : Int) (s : ByteArray) (c : UInt8) (hc : n = (c.toNat : Int)) (hc2 : c.toNat ≤ 1) (w : World) (h : OwnB w base 5 b l) (hl : l.length ≤ 140736000000000) (hb : base ≤ w.heap.size) :
    Calls Tryz.prog 298 #[b, .agg #[.int .i64 3, .int .i64 n, .string s]] w (PutB base (l ++ [3, c]) w) := by
  subst hc
  obtain ⟨i0, hi, hz0, hz1, hz2⟩ := info_parts info_byte
  have H := Lib.hid h
  obtain ⟨A0, cap0, rfl⟩ := own_form h
  have m0 : l.length + 1 ≤ maxLen := by simp only [maxLen]; omega
  obtain ⟨M, hM⟩ : ∃ M, M = l ++ [(3 : UInt8)] := ⟨_, rfl⟩
  have HM := Lib.hid hM
  have hML : M.length = l.length + 1 := by rw [hM]; simp
  have HML := Lib.hid hML
  have hML2 : M.length ≤ 140736000000001 := by omega
  have m1 : M.length + 1 ≤ maxLen := by simp only [maxLen]; omega
  have HU : Hid (OwnB (w.alloc (.cells #[.int .i64 3, .int .i64 (c.toNat : Int), .string s] 49)) base 5 (.slice A0 l.length cap0) l) := Lib.hid (World.ownsRow.alloc H.out _)
  have HQ := Lib.hid (Blk.new w 49 #[.int .i64 3, .int .i64 (c.toNat : Int), .string s])
  have hkU : Kept (From base) w (w.alloc (.cells #[.int .i64 3, .int .i64 (c.toNat : Int), .string s] 49)) := (Kept.refl _ w).alloc _
  have hsU : (w.alloc (.cells #[.int .i64 3, .int .i64 (c.toNat : Int), .string s] 49)).heap.size = w.heap.size + 1 := by simp
  have HSU := Lib.hid hsU
  clear h hM hML hsU
  go_enter Tryz.func298, Tryz.ntmps298
  go_upto_region 1 with (fail)
  generalize (w.alloc (.cells #[.int .i64 3, .int .i64 (c.toNat : Int), .string s] 49)) = wU at HU HQ hkU HSU ⊢
  have c0 : wU.cell? ⟨w.heap.size, 0, none⟩ = some (.int .i64 3) := HQ.out.cell 0
  have hbU : base ≤ wU.heap.size := by have := HSU.out; omega
  go_upto_region 2 with (at_builtin; go_must (refine wpList_append_rd _ rfl _ _ 22 rfl base 5 i0 _ 1 1 Tryz.underlying22 hi hz0 hz1 hz2 rfl (by decide) (.slice A0 l.length cap0) l.length (l.map bv) rfl (World.ownsRow.alloc HU.out _) _ 1 [bv 3] rfl (Rd.one _ _ _ rfl) (by simp [Value.oneCell', bv]) m0 (by omega) (by simp; omega) ?_); intro A1 cap1 w1 hown hg hat)
  obtain ⟨p1, p2⟩ := put_one (news := [(3 : UInt8)]) HU.out hbU ((Kept.refl _ wU).alloc _) (World.ownsRow.alloc HU.out _) rfl hown hg
  rw [← HM.out] at p1
  rw [← HML.out]
  have hk1 : Kept (From base) w w1 := hkU.trans p2 (fun _ _ e => e)
  have hq1 : Blk w1 w.heap.size 49 #[.int .i64 3, .int .i64 (c.toNat : Int), .string s] := (HQ.out.alloc _).grown hg (fun e => own_blk_ne HU.out HQ.out (by decide) e.symm)
  have e0 : w1.cell? ⟨w.heap.size, 0, none⟩ = some (.int .i64 3) := hq1.cell 0
  have e1 : w1.cell? ⟨w.heap.size, 1, none⟩ = some (.int .i64 (c.toNat : Int)) := hq1.cell 1
  have e2 : w1.cell? ⟨w.heap.size, 2, none⟩ = some (.string s) := hq1.cell 2
  have HP1 := Lib.hid p1
  have hb1 : base ≤ w1.heap.size := Nat.le_trans hb hk1.size
  clear p1 p2 hown hg hat hq1 c0
  go_wp2_with (at_builtin; go_must (refine wpList_append_rd _ rfl _ _ 22 rfl base 5 i0 _ 1 1 Tryz.underlying22 hi hz0 hz1 hz2 rfl (by decide) (.slice A1 M.length cap1) M.length (M.map bv) rfl (World.ownsRow.alloc HP1.out _) _ 1 [bv c] rfl (Rd.one _ _ _ rfl) (by simp [Value.oneCell', bv]) m1 (by omega) (by simp; omega) ?_); intro A2 cap2 w2 hown hg hat)
  obtain ⟨p1, p2⟩ := put_one (news := [c]) HP1.out hb1 ((Kept.refl _ w1).alloc _) (World.ownsRow.alloc HP1.out _) rfl hown hg
  have hx : PutB base (l ++ [3, c]) w (.returned (.slice A2 (M.length + 1) cap2)) w2 := by
    have e : l ++ [3, c] = M ++ [c] := by rw [HM.out]; simp
    rw [e]
    exact ⟨A2, cap2, by simp, p1, hk1.trans p2 (fun _ _ e => e)⟩
  have HX := Lib.hid hx
  clear hx p1 p2 hown hg hat
  go_ret
  exact HX.out

set_option maxHeartbeats 1000000 in
theorem putValue_4 (base : Nat) (b : Value) (l : List UInt8) (n : Int) (s : ByteArray) (h1 : -9223372036854775808 ≤ n) (h2 : n ≤ 9223372036854775807) (w : World) (h : OwnB w base 5 b l) (hl : l.length ≤ 140736000000000) (hb : base ≤ w.heap.size) :
    Calls Tryz.prog 298 #[b, .agg #[.int .i64 4, .int .i64 n, .string s]] w (PutB base (l ++ (4 :: leb (zz n))) w) := by
  obtain ⟨i0, hi, hz0, hz1, hz2⟩ := info_parts info_byte
  have H := Lib.hid h
  obtain ⟨A0, cap0, rfl⟩ := own_form h
  have m0 : l.length + 1 ≤ maxLen := by simp only [maxLen]; omega
  obtain ⟨M, hM⟩ : ∃ M, M = l ++ [(4 : UInt8)] := ⟨_, rfl⟩
  have HM := Lib.hid hM
  have hML : M.length = l.length + 1 := by rw [hM]; simp
  have HML := Lib.hid hML
  have hML2 : M.length ≤ 140736000000001 := by omega
  have m1 : M.length + 1 ≤ maxLen := by simp only [maxLen]; omega
  have HU : Hid (OwnB (w.alloc (.cells #[.int .i64 4, .int .i64 n, .string s] 49)) base 5 (.slice A0 l.length cap0) l) := Lib.hid (World.ownsRow.alloc H.out _)
  have HQ := Lib.hid (Blk.new w 49 #[.int .i64 4, .int .i64 n, .string s])
  have hkU : Kept (From base) w (w.alloc (.cells #[.int .i64 4, .int .i64 n, .string s] 49)) := (Kept.refl _ w).alloc _
  have hsU : (w.alloc (.cells #[.int .i64 4, .int .i64 n, .string s] 49)).heap.size = w.heap.size + 1 := by simp
  have HSU := Lib.hid hsU
  clear h hM hML hsU
  go_enter Tryz.func298, Tryz.ntmps298
  go_upto_region 1 with (fail)
  generalize (w.alloc (.cells #[.int .i64 4, .int .i64 n, .string s] 49)) = wU at HU HQ hkU HSU ⊢
  have c0 : wU.cell? ⟨w.heap.size, 0, none⟩ = some (.int .i64 4) := HQ.out.cell 0
  have hbU : base ≤ wU.heap.size := by have := HSU.out; omega
  go_upto_region 2 with (at_builtin; go_must (refine wpList_append_rd _ rfl _ _ 22 rfl base 5 i0 _ 1 1 Tryz.underlying22 hi hz0 hz1 hz2 rfl (by decide) (.slice A0 l.length cap0) l.length (l.map bv) rfl (World.ownsRow.alloc HU.out _) _ 1 [bv 4] rfl (Rd.one _ _ _ rfl) (by simp [Value.oneCell', bv]) m0 (by omega) (by simp; omega) ?_); intro A1 cap1 w1 hown hg hat)
  obtain ⟨p1, p2⟩ := put_one (news := [(4 : UInt8)]) HU.out hbU ((Kept.refl _ wU).alloc _) (World.ownsRow.alloc HU.out _) rfl hown hg
  rw [← HM.out] at p1
  rw [← HML.out]
  have hk1 : Kept (From base) w w1 := hkU.trans p2 (fun _ _ e => e)
  have hq1 : Blk w1 w.heap.size 49 #[.int .i64 4, .int .i64 n, .string s] := (HQ.out.alloc _).grown hg (fun e => own_blk_ne HU.out HQ.out (by decide) e.symm)
  have e0 : w1.cell? ⟨w.heap.size, 0, none⟩ = some (.int .i64 4) := hq1.cell 0
  have e1 : w1.cell? ⟨w.heap.size, 1, none⟩ = some (.int .i64 n) := hq1.cell 1
  have e2 : w1.cell? ⟨w.heap.size, 2, none⟩ = some (.string s) := hq1.cell 2
  have HP1 := Lib.hid p1
  have hb1 : base ≤ w1.heap.size := Nat.le_trans hb hk1.size
  clear p1 p2 hown hg hat hq1 c0
  go_wp2_with fail
  refine (putInt_any base _ M n w1 HP1.out h1 h2 (by omega) hb1).mono ?_
  rintro e w2 hp
  have hx : PutB base (l ++ (4 :: leb (zz n))) w e w2 := by
    have h9 := (hp.b HP1.out).before hk1
    have e : l ++ (4 :: leb (zz n)) = M ++ leb (zz n) := by rw [HM.out]; simp
    rw [e]
    exact h9
  obtain ⟨A2, cap2, he, p1, p2⟩ := hx
  subst he
  obtain ⟨Z, hZ⟩ : ∃ Z, Z = l ++ (4 :: leb (zz n)) := ⟨_, rfl⟩
  rw [← hZ] at p1 ⊢
  have HX : Hid (PutB base (l ++ (4 :: leb (zz n))) w (.returned (.slice A2 Z.length cap2)) w2) := Lib.hid (by rw [← hZ]; exact ⟨A2, cap2, rfl, p1, p2⟩)
  clear p1 p2 hp hZ
  go_wp2
  go_ret
  exact HX.out

set_option maxHeartbeats 1000000 in
theorem putValue_5 (base : Nat) (b : Value) (l : List UInt8) (n : Int) (s : ByteArray) (hs : s.size ≤ 64) (w : World) (h : OwnB w base 5 b l) (hl : l.length ≤ 140736000000000) (hb : base ≤ w.heap.size) :
    Calls Tryz.prog 298 #[b, .agg #[.int .i64 5, .int .i64 n, .string s]] w (PutB base (l ++ (5 :: (leb s.size ++ sbytes s))) w) := by
  obtain ⟨i0, hi, hz0, hz1, hz2⟩ := info_parts info_byte
  have H := Lib.hid h
  obtain ⟨A0, cap0, rfl⟩ := own_form h
  have m0 : l.length + 1 ≤ maxLen := by simp only [maxLen]; omega
  obtain ⟨M, hM⟩ : ∃ M, M = l ++ [(5 : UInt8)] := ⟨_, rfl⟩
  have HM := Lib.hid hM
  have hML : M.length = l.length + 1 := by rw [hM]; simp
  have HML := Lib.hid hML
  have hML2 : M.length ≤ 140736000000001 := by omega
  have m1 : M.length + 1 ≤ maxLen := by simp only [maxLen]; omega
  have HU : Hid (OwnB (w.alloc (.cells #[.int .i64 5, .int .i64 n, .string s] 49)) base 5 (.slice A0 l.length cap0) l) := Lib.hid (World.ownsRow.alloc H.out _)
  have HQ := Lib.hid (Blk.new w 49 #[.int .i64 5, .int .i64 n, .string s])
  have hkU : Kept (From base) w (w.alloc (.cells #[.int .i64 5, .int .i64 n, .string s] 49)) := (Kept.refl _ w).alloc _
  have hsU : (w.alloc (.cells #[.int .i64 5, .int .i64 n, .string s] 49)).heap.size = w.heap.size + 1 := by simp
  have HSU := Lib.hid hsU
  clear h hM hML hsU
  go_enter Tryz.func298, Tryz.ntmps298
  go_upto_region 1 with (fail)
  generalize (w.alloc (.cells #[.int .i64 5, .int .i64 n, .string s] 49)) = wU at HU HQ hkU HSU ⊢
  have c0 : wU.cell? ⟨w.heap.size, 0, none⟩ = some (.int .i64 5) := HQ.out.cell 0
  have hbU : base ≤ wU.heap.size := by have := HSU.out; omega
  go_upto_region 2 with (at_builtin; go_must (refine wpList_append_rd _ rfl _ _ 22 rfl base 5 i0 _ 1 1 Tryz.underlying22 hi hz0 hz1 hz2 rfl (by decide) (.slice A0 l.length cap0) l.length (l.map bv) rfl (World.ownsRow.alloc HU.out _) _ 1 [bv 5] rfl (Rd.one _ _ _ rfl) (by simp [Value.oneCell', bv]) m0 (by omega) (by simp; omega) ?_); intro A1 cap1 w1 hown hg hat)
  obtain ⟨p1, p2⟩ := put_one (news := [(5 : UInt8)]) HU.out hbU ((Kept.refl _ wU).alloc _) (World.ownsRow.alloc HU.out _) rfl hown hg
  rw [← HM.out] at p1
  rw [← HML.out]
  have hk1 : Kept (From base) w w1 := hkU.trans p2 (fun _ _ e => e)
  have hq1 : Blk w1 w.heap.size 49 #[.int .i64 5, .int .i64 n, .string s] := (HQ.out.alloc _).grown hg (fun e => own_blk_ne HU.out HQ.out (by decide) e.symm)
  have e0 : w1.cell? ⟨w.heap.size, 0, none⟩ = some (.int .i64 5) := hq1.cell 0
  have e1 : w1.cell? ⟨w.heap.size, 1, none⟩ = some (.int .i64 n) := hq1.cell 1
  have e2 : w1.cell? ⟨w.heap.size, 2, none⟩ = some (.string s) := hq1.cell 2
  have HP1 := Lib.hid p1
  have hb1 : base ≤ w1.heap.size := Nat.le_trans hb hk1.size
  clear p1 p2 hown hg hat hq1 c0
  go_wp2_with fail
  refine (putText_any base _ M s w1 HP1.out (by omega) (by omega) hb1).mono ?_
  rintro e w2 hp
  have hx : PutB base (l ++ (5 :: (leb s.size ++ sbytes s))) w e w2 := by
    have h9 := hp.before hk1
    have e : l ++ (5 :: (leb s.size ++ sbytes s)) = M ++ (leb s.size ++ sbytes s) := by rw [HM.out]; simp
    rw [e]
    exact h9
  obtain ⟨A2, cap2, he, p1, p2⟩ := hx
  subst he
  obtain ⟨Z, hZ⟩ : ∃ Z, Z = l ++ (5 :: (leb s.size ++ sbytes s)) := ⟨_, rfl⟩
  rw [← hZ] at p1 ⊢
  have HX : Hid (PutB base (l ++ (5 :: (leb s.size ++ sbytes s))) w (.returned (.slice A2 Z.length cap2)) w2) := Lib.hid (by rw [← hZ]; exact ⟨A2, cap2, rfl, p1, p2⟩)
  clear p1 p2 hp hZ
  go_wp2
  go_ret
  exact HX.out

/-- A valid value's bytes. -/
theorem putValue_any (base : Nat) (b : Value) (l : List UInt8) (x : Val) (w : World) (h : OwnB w base 5 b l) (hv : validB x.kind x.n x.s = true) (h1 : -9223372036854775808 ≤ x.n) (h2 : x.n ≤ 9223372036854775807) (hl : l.length ≤ 140736000000000) (hb : base ≤ w.heap.size) :
    Calls Tryz.prog 298 #[b, x.v] w (PutB base (l ++ venc x) w) := by
  obtain ⟨kind, n, s⟩ := x
  simp only [Val.v, validB, venc] at hv h1 h2 ⊢
  by_cases k1 : kind = 1
  · subst k1
    exact putValue_1 base b l n s w h hl hb
  · rw [if_neg k1] at hv
    by_cases k2 : kind = 2
    · subst k2
      exact putValue_2 base b l n s w h hl hb
    · rw [if_neg k2] at hv
      by_cases k3 : kind = 3
      · subst k3
        rw [if_pos rfl] at hv ⊢
        have hn : n = 0 ∨ n = 1 := by simp at hv; exact hv.1
        refine putValue_3 base b l n s (UInt8.ofNat n.toNat) ?_ ?_ w h hl hb
        · rw [UInt8.toNat_ofNat']; omega
        · rw [UInt8.toNat_ofNat']; omega
      · rw [if_neg k3] at hv ⊢
        by_cases k4 : kind = 4
        · subst k4
          rw [if_pos rfl]
          exact putValue_4 base b l n s h1 h2 w h hl hb
        · rw [if_neg k4] at hv ⊢
          by_cases k5 : kind = 5
          · subst k5
            rw [if_pos rfl] at hv ⊢
            have hs : s.size ≤ 64 := by simp at hv; exact hv.2
            exact putValue_5 base b l n s hs w h hl hb
          · rw [if_neg k5] at hv
            cases hv

end Go.Proofs.YtffdaohmalmkfaaGreat
