/-
  Contracts and plain laws that the claim's theorem rests on, some texts in one file.
-/
import Derived.Test.YtffdaohmalmkfaaGreatM19
/-
  Codec: the reference's value. (Printed by gen_putvalue.py.)
-/
namespace Go.Proofs.YtffdaohmalmkfaaGreat
open Go.RowKit
set_option linter.unusedVariables false

theorem step_append_string {P : Program} (w : World) {ops : Array Oper} {o : Oper} {a : Act} {K : Act → World → Prop} {Q : Exit → Act → World → Prop} {E : Prop} (hgd : o.guard = none) (sl x : Operand) (t u : TypeId)
    (ho : o.op = .call { callee := .builtin .append, args := #[sl, x], argTypes := #[t, u] })
    (base : Nat) (e : TypeId) (i : TypeInfo) (ht : P.underlying t = some (.slice e)) (hu : P.underlying u = some .string) (hi : P.info? e = some i) (hz : i.zero = some (.int .u8 0)) (hsize : i.size = 1) (hby : i.bytes = 1)
    (v : Value) (n : Nat) (xs : List Value) (hs : a.eval sl = v) (hown : w.ownsRow base e 1 v n xs) (s : ByteArray) (hx : a.eval x = .string s)
    (h63 : n + s.size ≤ maxLen) (hbytes : n + s.size ≤ 140737488355328) (hbase : base ≤ w.heap.size)
    (h : ∀ v' w', w'.ownsRow base e 1 v' (n + s.size) (xs ++ Lib.strCells s) → w.grownBy w' v.ownBlock → (v' = .slice none 0 0 ↔ v = .slice none 0 0 ∧ s.size = 0) → K (a.put o.dst v') w') :
    if Region.wanted o (yielded ops a.tmps) = true then Oper.wp P o a w K Q else E := by
  have hw : Region.wanted o (yielded ops a.tmps) = true := by simp [Region.wanted, hgd]
  rw [if_pos hw]
  obtain ⟨v', w', hr, h2, h3, h4⟩ := Lib.run_append_own_string (P := P) w base t u o.type e i ht hu hi hz hsize hby v n xs hown s h63 hbytes hbase
  unfold Oper.wp execOp
  simp only [ho, resolve, invoke, builtin, Sem.run_bind, Sem.run_pure, Result.andThen_ok, List.map_toArray, List.map_cons, List.map_nil, hs, hx, hr]
  exact h v' w' h2 h3 h4

set_option maxHeartbeats 1000000 in
theorem refValue_1 (base : Nat) (b : Value) (l : List UInt8) (n : Int) (s : ByteArray) (w : World) (h : OwnB w base 5 b l) (hl : l.length ≤ 140736000000000) (hb : base ≤ w.heap.size) :
    Calls Tryz.prog 251 #[b, .agg #[.int .i64 1, .int .i64 n, .string s]] w (PutB base (l ++ [1]) w) := by
  obtain ⟨i0, hi, hz0, hz1, hz2⟩ := info_parts info_byte
  have H := Lib.hid h
  obtain ⟨A0, cap0, rfl⟩ := own_form h
  have m0 : l.length + 1 ≤ maxLen := by simp only [maxLen]; omega
  obtain ⟨M, hM⟩ : ∃ M, M = l ++ [(1 : UInt8)] := ⟨_, rfl⟩
  have HM := Lib.hid hM
  have hML : M.length = l.length + 1 := by rw [hM]; simp
  have HML := Lib.hid hML
  have hML2 : M.length ≤ 140736000000001 := by omega
  have m1 : M.length + 1 ≤ maxLen := by simp only [maxLen]; omega
  have HU : Hid (OwnB (w.alloc (.cells #[.int .i64 1, .int .i64 n, .string s] 49)) base 5 (.slice A0 l.length cap0) l) := Lib.hid (World.ownsRow.alloc H.out _)
  have HQ := Lib.hid (Blk.new w 49 #[.int .i64 1, .int .i64 n, .string s])
  have hkU : Kept (From base) w (w.alloc (.cells #[.int .i64 1, .int .i64 n, .string s] 49)) := (Kept.refl _ w).alloc _
  have hsU : (w.alloc (.cells #[.int .i64 1, .int .i64 n, .string s] 49)).heap.size = w.heap.size + 1 := by simp
  have HSU := Lib.hid hsU
  clear h hM hML hsU
  go_enter Tryz.func251, Tryz.ntmps251
  go_upto_region 1 with (fail)
  generalize (w.alloc (.cells #[.int .i64 1, .int .i64 n, .string s] 49)) = wU at HU HQ hkU HSU ⊢
  have c0 : wU.cell? ⟨w.heap.size, 0, none⟩ = some (.int .i64 1) := HQ.out.cell 0
  have hbU : base ≤ wU.heap.size := by have := HSU.out; omega
  go_upto_region 2 with (at_builtin; go_must (refine wpList_append_rd _ rfl _ _ 22 rfl base 5 i0 _ 1 1 Tryz.underlying22 hi hz0 hz1 hz2 rfl (by decide) (.slice A0 l.length cap0) l.length (l.map bv) rfl (World.ownsRow.alloc HU.out _) _ 1 [bv 1] rfl (Rd.one _ _ _ rfl) (by simp [Value.oneCell', bv]) m0 (by omega) (by simp; omega) ?_); intro A1 cap1 w1 hown hg hat)
  obtain ⟨p1, p2⟩ := put_one (news := [(1 : UInt8)]) HU.out hbU ((Kept.refl _ wU).alloc _) (World.ownsRow.alloc HU.out _) rfl hown hg
  rw [← HM.out] at p1
  rw [← HML.out]
  have hk1 : Kept (From base) w w1 := hkU.trans p2 (fun _ _ e => e)
  have hq1 : Blk w1 w.heap.size 49 #[.int .i64 1, .int .i64 n, .string s] := (HQ.out.alloc _).grown hg (fun e => own_blk_ne HU.out HQ.out (by decide) e.symm)
  have e0 : w1.cell? ⟨w.heap.size, 0, none⟩ = some (.int .i64 1) := hq1.cell 0
  have e1 : w1.cell? ⟨w.heap.size, 1, none⟩ = some (.int .i64 n) := hq1.cell 1
  have e2 : w1.cell? ⟨w.heap.size, 2, none⟩ = some (.string s) := hq1.cell 2
  have HP1 := Lib.hid p1
  have hb1 : base ≤ w1.heap.size := Nat.le_trans hb hk1.size
  clear p1 p2 hown hg hat hq1 c0
  have hx : PutB base (l ++ [1]) w (.returned (.slice A1 M.length cap1)) w1 := by
    have h9 := HP1.out
    rw [HM.out] at h9 ⊢
    exact ⟨A1, cap1, rfl, h9, hk1⟩
  have HX := Lib.hid hx
  clear hx
  go_wp2
  go_ret
  exact HX.out

set_option maxHeartbeats 1000000 in
theorem refValue_2 (base : Nat) (b : Value) (l : List UInt8) (n : Int) (s : ByteArray) (w : World) (h : OwnB w base 5 b l) (hl : l.length ≤ 140736000000000) (hb : base ≤ w.heap.size) :
    Calls Tryz.prog 251 #[b, .agg #[.int .i64 2, .int .i64 n, .string s]] w (PutB base (l ++ [2]) w) := by
  obtain ⟨i0, hi, hz0, hz1, hz2⟩ := info_parts info_byte
  have H := Lib.hid h
  obtain ⟨A0, cap0, rfl⟩ := own_form h
  have m0 : l.length + 1 ≤ maxLen := by simp only [maxLen]; omega
  obtain ⟨M, hM⟩ : ∃ M, M = l ++ [(2 : UInt8)] := ⟨_, rfl⟩
  have HM := Lib.hid hM
  have hML : M.length = l.length + 1 := by rw [hM]; simp
  have HML := Lib.hid hML
  have hML2 : M.length ≤ 140736000000001 := by omega
  have m1 : M.length + 1 ≤ maxLen := by simp only [maxLen]; omega
  have HU : Hid (OwnB (w.alloc (.cells #[.int .i64 2, .int .i64 n, .string s] 49)) base 5 (.slice A0 l.length cap0) l) := Lib.hid (World.ownsRow.alloc H.out _)
  have HQ := Lib.hid (Blk.new w 49 #[.int .i64 2, .int .i64 n, .string s])
  have hkU : Kept (From base) w (w.alloc (.cells #[.int .i64 2, .int .i64 n, .string s] 49)) := (Kept.refl _ w).alloc _
  have hsU : (w.alloc (.cells #[.int .i64 2, .int .i64 n, .string s] 49)).heap.size = w.heap.size + 1 := by simp
  have HSU := Lib.hid hsU
  clear h hM hML hsU
  go_enter Tryz.func251, Tryz.ntmps251
  go_upto_region 1 with (fail)
  generalize (w.alloc (.cells #[.int .i64 2, .int .i64 n, .string s] 49)) = wU at HU HQ hkU HSU ⊢
  have c0 : wU.cell? ⟨w.heap.size, 0, none⟩ = some (.int .i64 2) := HQ.out.cell 0
  have hbU : base ≤ wU.heap.size := by have := HSU.out; omega
  go_upto_region 2 with (at_builtin; go_must (refine wpList_append_rd _ rfl _ _ 22 rfl base 5 i0 _ 1 1 Tryz.underlying22 hi hz0 hz1 hz2 rfl (by decide) (.slice A0 l.length cap0) l.length (l.map bv) rfl (World.ownsRow.alloc HU.out _) _ 1 [bv 2] rfl (Rd.one _ _ _ rfl) (by simp [Value.oneCell', bv]) m0 (by omega) (by simp; omega) ?_); intro A1 cap1 w1 hown hg hat)
  obtain ⟨p1, p2⟩ := put_one (news := [(2 : UInt8)]) HU.out hbU ((Kept.refl _ wU).alloc _) (World.ownsRow.alloc HU.out _) rfl hown hg
  rw [← HM.out] at p1
  rw [← HML.out]
  have hk1 : Kept (From base) w w1 := hkU.trans p2 (fun _ _ e => e)
  have hq1 : Blk w1 w.heap.size 49 #[.int .i64 2, .int .i64 n, .string s] := (HQ.out.alloc _).grown hg (fun e => own_blk_ne HU.out HQ.out (by decide) e.symm)
  have e0 : w1.cell? ⟨w.heap.size, 0, none⟩ = some (.int .i64 2) := hq1.cell 0
  have e1 : w1.cell? ⟨w.heap.size, 1, none⟩ = some (.int .i64 n) := hq1.cell 1
  have e2 : w1.cell? ⟨w.heap.size, 2, none⟩ = some (.string s) := hq1.cell 2
  have HP1 := Lib.hid p1
  have hb1 : base ≤ w1.heap.size := Nat.le_trans hb hk1.size
  clear p1 p2 hown hg hat hq1 c0
  have hx : PutB base (l ++ [2]) w (.returned (.slice A1 M.length cap1)) w1 := by
    have h9 := HP1.out
    rw [HM.out] at h9 ⊢
    exact ⟨A1, cap1, rfl, h9, hk1⟩
  have HX := Lib.hid hx
  clear hx
  go_wp2
  go_ret
  exact HX.out

set_option maxHeartbeats 1000000 in
theorem refValue_3 (base : Nat) (b : Value) (l : List UInt8) (n : Int) (s : ByteArray) (c : UInt8) (hc : n = (c.toNat : Int)) (hc2 : c.toNat ≤ 1) (w : World) (h : OwnB w base 5 b l) (hl : l.length ≤ 140736000000000) (hb : base ≤ w.heap.size) :
    Calls Tryz.prog 251 #[b, .agg #[.int .i64 3, .int .i64 n, .string s]] w (PutB base (l ++ [3, c]) w) := by
  subst hc
  obtain ⟨i0, hi, hz0, hz1, hz2⟩ := info_parts info_byte
  have H := Lib.hid h
  obtain ⟨A0, cap0, rfl⟩ := own_form h
  have m0 : l.length + 1 ≤ maxLen := by simp only [maxLen]; omega
  obtain ⟨M, hM⟩ : ∃ M, M = l ++ [(3 : UInt8)] := ⟨_, rfl⟩
  have HM := Lib.hid hM
  have hML : M.length = l.length + 1 := by rw [hM]; simp
  have HML := Lib.hid hML
  have hML2 : M.length ≤ 140736000000001 := by omega
  have m1 : M.length + 1 ≤ maxLen := by simp only [maxLen]; omega
  have HU : Hid (OwnB (w.alloc (.cells #[.int .i64 3, .int .i64 (c.toNat : Int), .string s] 49)) base 5 (.slice A0 l.length cap0) l) := Lib.hid (World.ownsRow.alloc H.out _)
  have HQ := Lib.hid (Blk.new w 49 #[.int .i64 3, .int .i64 (c.toNat : Int), .string s])
  have hkU : Kept (From base) w (w.alloc (.cells #[.int .i64 3, .int .i64 (c.toNat : Int), .string s] 49)) := (Kept.refl _ w).alloc _
  have hsU : (w.alloc (.cells #[.int .i64 3, .int .i64 (c.toNat : Int), .string s] 49)).heap.size = w.heap.size + 1 := by simp
  have HSU := Lib.hid hsU
  clear h hM hML hsU
  go_enter Tryz.func251, Tryz.ntmps251
  go_upto_region 1 with (fail)
  generalize (w.alloc (.cells #[.int .i64 3, .int .i64 (c.toNat : Int), .string s] 49)) = wU at HU HQ hkU HSU ⊢
  have c0 : wU.cell? ⟨w.heap.size, 0, none⟩ = some (.int .i64 3) := HQ.out.cell 0
  have hbU : base ≤ wU.heap.size := by have := HSU.out; omega
  go_upto_region 2 with (at_builtin; go_must (refine wpList_append_rd _ rfl _ _ 22 rfl base 5 i0 _ 1 1 Tryz.underlying22 hi hz0 hz1 hz2 rfl (by decide) (.slice A0 l.length cap0) l.length (l.map bv) rfl (World.ownsRow.alloc HU.out _) _ 1 [bv 3] rfl (Rd.one _ _ _ rfl) (by simp [Value.oneCell', bv]) m0 (by omega) (by simp; omega) ?_); intro A1 cap1 w1 hown hg hat)
  obtain ⟨p1, p2⟩ := put_one (news := [(3 : UInt8)]) HU.out hbU ((Kept.refl _ wU).alloc _) (World.ownsRow.alloc HU.out _) rfl hown hg
  rw [← HM.out] at p1
  rw [← HML.out]
  have hk1 : Kept (From base) w w1 := hkU.trans p2 (fun _ _ e => e)
  have hq1 : Blk w1 w.heap.size 49 #[.int .i64 3, .int .i64 (c.toNat : Int), .string s] := (HQ.out.alloc _).grown hg (fun e => own_blk_ne HU.out HQ.out (by decide) e.symm)
  have e0 : w1.cell? ⟨w.heap.size, 0, none⟩ = some (.int .i64 3) := hq1.cell 0
  have e1 : w1.cell? ⟨w.heap.size, 1, none⟩ = some (.int .i64 (c.toNat : Int)) := hq1.cell 1
  have e2 : w1.cell? ⟨w.heap.size, 2, none⟩ = some (.string s) := hq1.cell 2
  have HP1 := Lib.hid p1
  have hb1 : base ≤ w1.heap.size := Nat.le_trans hb hk1.size
  clear p1 p2 hown hg hat hq1 c0
  go_wp2_with (at_builtin; go_must (refine wpList_append_rd _ rfl _ _ 22 rfl base 5 i0 _ 1 1 Tryz.underlying22 hi hz0 hz1 hz2 rfl (by decide) (.slice A1 M.length cap1) M.length (M.map bv) rfl (World.ownsRow.alloc HP1.out _) _ 1 [bv c] rfl (Rd.one _ _ _ rfl) (by simp [Value.oneCell', bv]) m1 (by omega) (by simp; omega) ?_); intro A2 cap2 w2 hown hg hat)
  obtain ⟨p1, p2⟩ := put_one (news := [c]) HP1.out hb1 ((Kept.refl _ w1).alloc _) (World.ownsRow.alloc HP1.out _) rfl hown hg
  have hx : PutB base (l ++ [3, c]) w (.returned (.slice A2 (M.length + 1) cap2)) w2 := by
    have e : l ++ [3, c] = M ++ [c] := by rw [HM.out]; simp
    rw [e]
    exact ⟨A2, cap2, by simp, p1, hk1.trans p2 (fun _ _ e => e)⟩
  have HX := Lib.hid hx
  clear hx p1 p2 hown hg hat
  go_ret
  exact HX.out

set_option maxHeartbeats 1000000 in
theorem refValue_4 (base : Nat) (b : Value) (l : List UInt8) (n : Int) (s : ByteArray) (h1 : -9223372036854775808 ≤ n) (h2 : n ≤ 9223372036854775807) (w : World) (h : OwnB w base 5 b l) (hl : l.length ≤ 140736000000000) (hb : base ≤ w.heap.size) :
    Calls Tryz.prog 251 #[b, .agg #[.int .i64 4, .int .i64 n, .string s]] w (PutB base (l ++ (4 :: leb (zz n))) w) := by
  obtain ⟨i0, hi, hz0, hz1, hz2⟩ := info_parts info_byte
  have H := Lib.hid h
  obtain ⟨A0, cap0, rfl⟩ := own_form h
  have m0 : l.length + 1 ≤ maxLen := by simp only [maxLen]; omega
  obtain ⟨M, hM⟩ : ∃ M, M = l ++ [(4 : UInt8)] := ⟨_, rfl⟩
  have HM := Lib.hid hM
  have hML : M.length = l.length + 1 := by rw [hM]; simp
  have HML := Lib.hid hML
  have hML2 : M.length ≤ 140736000000001 := by omega
  have m1 : M.length + 1 ≤ maxLen := by simp only [maxLen]; omega
  have HU : Hid (OwnB (w.alloc (.cells #[.int .i64 4, .int .i64 n, .string s] 49)) base 5 (.slice A0 l.length cap0) l) := Lib.hid (World.ownsRow.alloc H.out _)
  have HQ := Lib.hid (Blk.new w 49 #[.int .i64 4, .int .i64 n, .string s])
  have hkU : Kept (From base) w (w.alloc (.cells #[.int .i64 4, .int .i64 n, .string s] 49)) := (Kept.refl _ w).alloc _
  have hsU : (w.alloc (.cells #[.int .i64 4, .int .i64 n, .string s] 49)).heap.size = w.heap.size + 1 := by simp
  have HSU := Lib.hid hsU
  clear h hM hML hsU
  go_enter Tryz.func251, Tryz.ntmps251
  go_upto_region 1 with (fail)
  generalize (w.alloc (.cells #[.int .i64 4, .int .i64 n, .string s] 49)) = wU at HU HQ hkU HSU ⊢
  have c0 : wU.cell? ⟨w.heap.size, 0, none⟩ = some (.int .i64 4) := HQ.out.cell 0
  have hbU : base ≤ wU.heap.size := by have := HSU.out; omega
  go_upto_region 2 with (at_builtin; go_must (refine wpList_append_rd _ rfl _ _ 22 rfl base 5 i0 _ 1 1 Tryz.underlying22 hi hz0 hz1 hz2 rfl (by decide) (.slice A0 l.length cap0) l.length (l.map bv) rfl (World.ownsRow.alloc HU.out _) _ 1 [bv 4] rfl (Rd.one _ _ _ rfl) (by simp [Value.oneCell', bv]) m0 (by omega) (by simp; omega) ?_); intro A1 cap1 w1 hown hg hat)
  obtain ⟨p1, p2⟩ := put_one (news := [(4 : UInt8)]) HU.out hbU ((Kept.refl _ wU).alloc _) (World.ownsRow.alloc HU.out _) rfl hown hg
  rw [← HM.out] at p1
  rw [← HML.out]
  have hk1 : Kept (From base) w w1 := hkU.trans p2 (fun _ _ e => e)
  have hq1 : Blk w1 w.heap.size 49 #[.int .i64 4, .int .i64 n, .string s] := (HQ.out.alloc _).grown hg (fun e => own_blk_ne HU.out HQ.out (by decide) e.symm)
  have e0 : w1.cell? ⟨w.heap.size, 0, none⟩ = some (.int .i64 4) := hq1.cell 0
  have e1 : w1.cell? ⟨w.heap.size, 1, none⟩ = some (.int .i64 n) := hq1.cell 1
  have e2 : w1.cell? ⟨w.heap.size, 2, none⟩ = some (.string s) := hq1.cell 2
  have HP1 := Lib.hid p1
  have hb1 : base ≤ w1.heap.size := Nat.le_trans hb hk1.size
  clear p1 p2 hown hg hat hq1 c0
  go_wp2_with fail
  rw [zig2 n h1 h2]
  refine (refUint_any base _ M (zz n) w1 HP1.out (zz_lt n h1 h2) (by omega) hb1).mono ?_
  rintro e w2 hp
  have hx : PutB base (l ++ (4 :: leb (zz n))) w e w2 := by
    have h9 := (hp.b HP1.out).before hk1
    have e : l ++ (4 :: leb (zz n)) = M ++ leb (zz n) := by rw [HM.out]; simp
    rw [e]
    exact h9
  obtain ⟨A2, cap2, he, p1, p2⟩ := hx
  subst he
  obtain ⟨Z, hZ⟩ : ∃ Z, Z = l ++ (4 :: leb (zz n)) := ⟨_, rfl⟩
  rw [← hZ] at p1 ⊢
  have HX : Hid (PutB base (l ++ (4 :: leb (zz n))) w (.returned (.slice A2 Z.length cap2)) w2) := Lib.hid (by rw [← hZ]; exact ⟨A2, cap2, rfl, p1, p2⟩)
  clear p1 p2 hp hZ
  go_wp2
  go_ret
  exact HX.out

set_option maxRecDepth 100000 in
set_option maxHeartbeats 1000000 in
theorem refValue_5 (base : Nat) (b : Value) (l : List UInt8) (n : Int) (s : ByteArray) (hs : s.size ≤ 64) (w : World) (h : OwnB w base 5 b l) (hl : l.length ≤ 140736000000000) (hb : base ≤ w.heap.size) :
    Calls Tryz.prog 251 #[b, .agg #[.int .i64 5, .int .i64 n, .string s]] w (PutB base (l ++ (5 :: (leb s.size ++ sbytes s))) w) := by
  obtain ⟨i0, hi, hz0, hz1, hz2⟩ := info_parts info_byte
  have H := Lib.hid h
  obtain ⟨A0, cap0, rfl⟩ := own_form h
  have m0 : l.length + 1 ≤ maxLen := by simp only [maxLen]; omega
  obtain ⟨M, hM⟩ : ∃ M, M = l ++ [(5 : UInt8)] := ⟨_, rfl⟩
  have HM := Lib.hid hM
  have hML : M.length = l.length + 1 := by rw [hM]; simp
  have HML := Lib.hid hML
  have hML2 : M.length ≤ 140736000000001 := by omega
  have m1 : M.length + 1 ≤ maxLen := by simp only [maxLen]; omega
  have HU : Hid (OwnB (w.alloc (.cells #[.int .i64 5, .int .i64 n, .string s] 49)) base 5 (.slice A0 l.length cap0) l) := Lib.hid (World.ownsRow.alloc H.out _)
  have HQ := Lib.hid (Blk.new w 49 #[.int .i64 5, .int .i64 n, .string s])
  have hkU : Kept (From base) w (w.alloc (.cells #[.int .i64 5, .int .i64 n, .string s] 49)) := (Kept.refl _ w).alloc _
  have hsU : (w.alloc (.cells #[.int .i64 5, .int .i64 n, .string s] 49)).heap.size = w.heap.size + 1 := by simp
  have HSU := Lib.hid hsU
  clear h hM hML hsU
  go_enter Tryz.func251, Tryz.ntmps251
  go_upto_region 1 with (fail)
  generalize (w.alloc (.cells #[.int .i64 5, .int .i64 n, .string s] 49)) = wU at HU HQ hkU HSU ⊢
  have c0 : wU.cell? ⟨w.heap.size, 0, none⟩ = some (.int .i64 5) := HQ.out.cell 0
  have hbU : base ≤ wU.heap.size := by have := HSU.out; omega
  go_upto_region 2 with (at_builtin; go_must (refine wpList_append_rd _ rfl _ _ 22 rfl base 5 i0 _ 1 1 Tryz.underlying22 hi hz0 hz1 hz2 rfl (by decide) (.slice A0 l.length cap0) l.length (l.map bv) rfl (World.ownsRow.alloc HU.out _) _ 1 [bv 5] rfl (Rd.one _ _ _ rfl) (by simp [Value.oneCell', bv]) m0 (by omega) (by simp; omega) ?_); intro A1 cap1 w1 hown hg hat)
  obtain ⟨p1, p2⟩ := put_one (news := [(5 : UInt8)]) HU.out hbU ((Kept.refl _ wU).alloc _) (World.ownsRow.alloc HU.out _) rfl hown hg
  rw [← HM.out] at p1
  rw [← HML.out]
  have hk1 : Kept (From base) w w1 := hkU.trans p2 (fun _ _ e => e)
  have hq1 : Blk w1 w.heap.size 49 #[.int .i64 5, .int .i64 n, .string s] := (HQ.out.alloc _).grown hg (fun e => own_blk_ne HU.out HQ.out (by decide) e.symm)
  have e0 : w1.cell? ⟨w.heap.size, 0, none⟩ = some (.int .i64 5) := hq1.cell 0
  have e1 : w1.cell? ⟨w.heap.size, 1, none⟩ = some (.int .i64 n) := hq1.cell 1
  have e2 : w1.cell? ⟨w.heap.size, 2, none⟩ = some (.string s) := hq1.cell 2
  have HP1 := Lib.hid p1
  have hb1 : base ≤ w1.heap.size := Nat.le_trans hb hk1.size
  have HQ1 := Lib.hid hq1
  clear p1 p2 hown hg hat hq1 c0
  have m2 : M.length ≤ 140736000000001 := hML2
  have hq1b : Kept (fun k => (Value.slice A1 M.length cap1).ownBlock = some k) w1 w1 := Kept.refl _ _
  have HNE : Hid ((Value.slice A1 M.length cap1).ownBlock ≠ some w.heap.size) := Lib.hid (own_blk_ne HP1.out HQ1.out (by decide))
  have e8 : IntKind.u64.wrap (s.size : Int) = (s.size : Int) := by rw [IntKind.wrap_u64]; omega
  have HC : Hid (∀ w', Kept Kno w1 w' → Calls Tryz.prog 249 #[.slice A1 M.length cap1, .int .u64 (s.size : Int)] w' (PutOk base (.slice A1 M.length cap1) (M ++ leb s.size) w')) := Lib.hid (fun w' hk => refUint_any base _ M s.size w' (own_kept HP1.out hk (fun _ _ h => h)) (by omega) (by omega) (Nat.le_trans hb1 hk.size))
  obtain ⟨Z, hZ⟩ : ∃ Z, Z = M ++ leb s.size := ⟨_, rfl⟩
  rw [← hZ] at HC
  have HZ := Lib.hid hZ
  have hZl : Z.length ≤ 140736000000020 := by rw [hZ, List.length_append]; have := (leb_length s.size).2; omega
  have z1 : Z.length + s.size ≤ maxLen := by simp only [maxLen]; omega
  have z2 : Z.length + s.size ≤ 140737488355328 := by omega
  clear hZ
  go_upto_region 8 with (fail)
  clear e0 e1
  go_region_law (first
     | (refine step_append_string _ (by rfl) _ _ 22 9 (by rfl) base 5 i0 Tryz.underlying22 Tryz.underlying9 hi hz0 hz1 hz2 (.slice A2 Z.length cap2) Z.length (Z.map bv) (by rfl) HO2.out s (by rfl) z1 z2 hb2 ?_
        intro v3 w3 hown3 hg3 hat3
        have HO3 := Lib.hid hown3
        have HG3 := Lib.hid hg3
        clear hown3 hg3 hat3)
     | (go_simp; go_at_call 249; refine (HC.out _ (Kept.drewN (Kept.refl _ w1) _)).mono ?_; rintro e w2 ⟨A2, cap2, rfl, hown2, hk2, hat2⟩; have hk2' : Kept (fun k => (Value.slice A1 M.length cap1).ownBlock = some k) w1 w2 := (Kept.drewN (Kept.refl _ w1) _).trans hk2 (fun _ _ h => h); have d2 := hk2'.cell_some e2 HNE.out; have HO2 := Lib.hid hown2; have hb2 : base ≤ w2.heap.size := Nat.le_trans hb1 hk2'.size; clear hk2 hat2 hown2))
  all_goals
    obtain ⟨A3, cap3, hv3⟩ := own_form HO3.out
    subst hv3
    have e : (Z ++ sbytes s).length = Z.length + s.size := by simp [sbytes_length]
    have e9 : l ++ (5 :: (leb s.size ++ sbytes s)) = Z ++ sbytes s := by rw [HZ.out, HM.out]; simp
    have HX : Hid (PutB base (l ++ (5 :: (leb s.size ++ sbytes s))) w (.returned (.slice A3 (Z.length + s.size) cap3)) w3) := Lib.hid (by
      rw [e9]
      refine ⟨A3, cap3, by rw [e], ?_, ?_⟩
      · unfold OwnB
        rw [e]
        have h9 := HO3.out
        rw [strCells_bytes, ← List.map_append] at h9
        exact h9
      · exact (hk1.trans (hk2'.mono (T := From base) (fun k _ h => (own_base HP1.out h).1)) (fun _ _ h => h)).grown HG3.out (fun k _ h => (own_base HO2.out h).1))
    clear e e9
    go_wp2
    go_ret
    exact HX.out

/-- A valid value's bytes, as the reference writes them. -/
theorem refValue_any (base : Nat) (b : Value) (l : List UInt8) (x : Val) (w : World) (h : OwnB w base 5 b l) (hv : validB x.kind x.n x.s = true) (h1 : -9223372036854775808 ≤ x.n) (h2 : x.n ≤ 9223372036854775807) (hl : l.length ≤ 140736000000000) (hb : base ≤ w.heap.size) :
    Calls Tryz.prog 251 #[b, x.v] w (PutB base (l ++ venc x) w) := by
  obtain ⟨kind, n, s⟩ := x
  simp only [Val.v, validB, venc] at hv h1 h2 ⊢
  by_cases k1 : kind = 1
  · subst k1
    exact refValue_1 base b l n s w h hl hb
  · rw [if_neg k1] at hv
    by_cases k2 : kind = 2
    · subst k2
      exact refValue_2 base b l n s w h hl hb
    · rw [if_neg k2] at hv
      by_cases k3 : kind = 3
      · subst k3
        rw [if_pos rfl] at hv ⊢
        have hn : n = 0 ∨ n = 1 := by simp at hv; exact hv.1
        refine refValue_3 base b l n s (UInt8.ofNat n.toNat) ?_ ?_ w h hl hb
        · rw [UInt8.toNat_ofNat']; omega
        · rw [UInt8.toNat_ofNat']; omega
      · rw [if_neg k3] at hv ⊢
        by_cases k4 : kind = 4
        · subst k4
          rw [if_pos rfl]
          exact refValue_4 base b l n s h1 h2 w h hl hb
        · rw [if_neg k4] at hv ⊢
          by_cases k5 : kind = 5
          · subst k5
            rw [if_pos rfl] at hv ⊢
            have hs : s.size ≤ 64 := by simp at hv; exact hv.2
            exact refValue_5 base b l n s hs w h hl hb
          · rw [if_neg k5] at hv
            cases hv

end Go.Proofs.YtffdaohmalmkfaaGreat
