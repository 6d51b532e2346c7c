/-
  Contracts and plain laws that the claim's theorem rests on.
-/
import Derived.Test.YtffdaohmalmkfaaGreatW1
import Derived.Test.YtffdaohmalmkfaaGreatW4
import Derived.Deep.WholeRow
import Derived.Deep.QuietTactic
import Derived.BigQuiet
import Derived.Laws.Slices
import Derived.WalkSpells
set_option linter.unusedSimpArgs false
set_option linter.unusedVariables false
/-
  Laws of the walk: a whole struct loaded out of a row, and stored into a new variable. No program in sight.
-/
namespace Go.Proofs.YtffdaohmalmkfaaGreat
open Go.RowKit
set_option linter.unusedVariables false

section
variable {P : Program}
theorem run_loadVar_at (w : World) (ty : TypeId) (g o : Nat) (cs : List Value) (d : TypeDesc) (hc : CellsAt w g o cs) (hu : P.underlying ty = some d) (hd : (match d with | .struct _ | .array _ _ => true | _ => false) = true) (hi : (P.info? ty).map (·.size) = some cs.length) :
    (loadVar ty ⟨g, o, none⟩).run P w = .ok (.agg cs.toArray) w := by
  have h := run_loadCells_list (P := P) w ⟨g, o, none⟩ cs (fun j v hv => by rw [add_lit0]; exact hc j v hv)
  cases hq : P.info? ty with
  | none => simp [hq] at hi
  | some i =>
    have hs : cs.length = i.size := by simp [hq] at hi; omega
    rw [hs] at h
    cases d <;> simp at hd <;> simp [loadVar, isAgg, run_underlying hu, sizeOf, typeInfo, hq, h]

theorem wpList_load_at {ops : Array Oper} {rest : List Oper} {o : Oper} {a : Act} {w : World} {Q : Exit → Act → World → Prop} (hgd : o.guard = none) (ty : TypeId) (x : Operand) (ho : o.op = .load ty x)
    (g off : Nat) (cs : List Value) (d : TypeDesc) (hx : a.eval x = .pointer (some ⟨g, off, none⟩)) (hc : CellsAt w g off cs)
    (hu : P.underlying ty = some d) (hd : (match d with | .struct _ | .array _ _ => true | _ => false) = true) (hi : (P.info? ty).map (·.size) = some cs.length)
    (h : wpList P ops Q rest (a.put o.dst (.agg cs.toArray)) w) : wpList P ops Q (o :: rest) a w := by
  refine wpList_plain hgd fun K hK => ?_
  have hr := run_loadVar_at (P := P) w ty g off cs d hc hu hd hi
  unfold Oper.wp execOp
  simp only [ho, hx, Instr.loadAt, Instr.sureAddr, Sem.run_bind, Sem.run_pure, Result.andThen_ok, hr]
  exact hK _ _ h

theorem wpList_store_new {ops : Array Oper} {rest : List Oper} {o : Oper} {a : Act} {w : World} {Q : Exit → Act → World → Prop} (hgd : o.guard = none) (ty : TypeId) (p x : Operand) (ho : o.op = .store ty p x)
    (c c' : Array Value) (hp : a.eval p = .pointer (some ⟨w.heap.size, 0, none⟩)) (hx : a.eval x = .agg c') (hi : (P.info? ty).map (·.size) = some c'.size) (hz : c.size = c'.size) (h1 : c'.all (·.oneCell') = true)
    (h : wpList P ops Q rest (a.put o.dst undef) (w.alloc (.cells c' ty))) : wpList P ops Q (o :: rest) a (w.alloc (.cells c ty)) := by
  refine wpList_plain hgd fun K hK => ?_
  have hr := run_storeAt_new (P := P) w ty c c' hi hz h1
  unfold Oper.wp execOp
  simp only [ho, hp, hx, Sem.run_bind, Sem.run_pure, Result.andThen_ok, hr]
  exact hK _ _ h
end
end Go.Proofs.YtffdaohmalmkfaaGreat
/-
  Codec: the reader's int; the reference's Uint and Int.
-/
namespace Go.Proofs.YtffdaohmalmkfaaGreat
open Go.RowKit
set_option linter.unusedVariables false

/-- Zigzag, back. -/
def unzz (N : Nat) : Int := if N % 2 = 0 then ((N / 2 : Nat) : Int) else -((N / 2 : Nat) : Int) - 1

theorem xor_i64_0 (a : Nat) (h : a < 9223372036854775808) : bits .xor .i64 (a : Int) 0 = (a : Int) := by
  have h1 : (BitVec.ofInt 64 (a : Int)).toNat = a := by
    rw [BitVec.ofInt_natCast, BitVec.toNat_ofNat]; exact Nat.mod_eq_of_lt (by omega)
  show IntKind.i64.wrap ((BitVec.ofInt 64 (a : Int) ^^^ BitVec.ofInt 64 0).toNat : Int) = _
  have h0 : (BitVec.ofInt 64 0).toNat = 0 := by decide
  rw [BitVec.toNat_xor, h1, h0, Nat.xor_zero, IntKind.wrap_i64]
  omega
theorem xor_i64_1 (a : Nat) (h : a < 9223372036854775808) : bits .xor .i64 (a : Int) (-1) = -(a : Int) - 1 := by
  have h1 : (BitVec.ofInt 64 (a : Int)).toNat = a := by
    rw [BitVec.ofInt_natCast, BitVec.toNat_ofNat]; exact Nat.mod_eq_of_lt (by omega)
  show IntKind.i64.wrap ((BitVec.ofInt 64 (a : Int) ^^^ BitVec.ofInt 64 (-1)).toNat : Int) = _
  have h0 : (BitVec.ofInt 64 (-1)).toNat = 18446744073709551615 := by decide
  rw [BitVec.toNat_xor, h1, h0, xor_ones a (by omega), IntKind.wrap_i64]
  omega

theorem rdF_ok : ∀ (f i N : Nat) (l : List UInt8) (M k : Nat), f + i = 10 → N < 2 ^ (7 * i) → rdF f i N l = .ok (M, k) → M < 18446744073709551616 ∧ i < k ∧ k ≤ 10 ∧ k ≤ i + l.length
  | 0, i, N, l, M, k, _, _, h => by simp [rdF] at h
  | f + 1, i, N, [], M, k, _, _, h => by simp [rdF] at h
  | f + 1, i, N, c :: r, M, k, hf, hN, h => by
    have h5 : 2 ^ (7 * (i + 1)) = 128 * 2 ^ (7 * i) := by rw [show 7 * (i + 1) = 7 * i + 7 by omega, Nat.pow_add]; omega
    have c256 : c.toNat < 256 := c.toNat_lt
    simp only [rdF] at h
    split at h
    · rename_i h1
      have h4 : (c.toNat - 128) * 2 ^ (7 * i) ≤ 127 * 2 ^ (7 * i) := Nat.mul_le_mul_right _ (by omega)
      obtain ⟨q1, q2, q3, q4⟩ := rdF_ok f (i + 1) _ r M k (by omega) (by omega) h
      exact ⟨q1, by omega, q3, by simp only [List.length_cons]; omega⟩
    · rename_i h1
      split at h
      · cases h
      · rename_i h2
        simp only [Except.ok.injEq, Prod.mk.injEq] at h
        obtain ⟨rfl, rfl⟩ := h
        refine ⟨?_, by omega, by omega, by simp only [List.length_cons]; omega⟩
        by_cases hi : i ≤ 8
        · have h4 : c.toNat * 2 ^ (7 * i) ≤ 127 * 2 ^ (7 * i) := Nat.mul_le_mul_right _ (by omega)
          have h6 : 2 ^ (7 * (i + 1)) ≤ 2 ^ 63 := Nat.pow_le_pow_right (by decide) (by omega)
          omega
        · obtain rfl : i = 9 := by omega
          have h4 : c.toNat * 2 ^ (7 * 9) ≤ 1 * 2 ^ (7 * 9) := Nat.mul_le_mul_right _ (by omega)
          omega
theorem uintAt_ok {l : List UInt8} {n N k : Nat} (h : uintAt l n = .ok (N, k)) : N < 18446744073709551616 ∧ 0 < k ∧ k ≤ 10 ∧ k ≤ l.length - n := by
  obtain ⟨h1, h2, h3, h4⟩ := rdF_ok 10 0 0 (l.drop n) N k rfl (by decide) h
  refine ⟨h1, h2, h3, ?_⟩
  rw [List.length_drop] at h4
  omega

theorem and_one (N : Nat) (h : N < 18446744073709551616) : bits BinOp.and IntKind.u64 (N : Int) 1 = ((N % 2 : Nat) : Int) := by
  have e1 := bits_and_u64_nat N 1 h (by decide)
  have e2 : N &&& 1 = N % 2 := Nat.and_two_pow_sub_one_eq_mod N 1
  rw [e2] at e1
  exact e1
theorem zigback (N : Nat) (h : N < 18446744073709551616) : bits BinOp.xor IntKind.i64 (wrap64 ((N : Int) / 2)) (wrap64 (-wrap64 (bits BinOp.and IntKind.u64 (N : Int) 1))) = unzz N := by
  rw [and_one N h]
  have e1 : wrap64 ((N : Int) / 2) = ((N / 2 : Nat) : Int) := by unfold wrap64; omega
  rw [e1]
  by_cases h2 : N % 2 = 0
  · have e2 : wrap64 (-wrap64 ((N % 2 : Nat) : Int)) = 0 := by rw [h2]; unfold wrap64; omega
    rw [e2, xor_i64_0 _ (by omega), unzz, if_pos h2]
  · have h3 : N % 2 = 1 := by omega
    have e2 : wrap64 (-wrap64 ((N % 2 : Nat) : Int)) = -1 := by rw [h3]; unfold wrap64; omega
    rw [e2, xor_i64_1 _ (by omega), unzz, if_neg h2]

def IntOkD (D : Nat) (v : Value) (n : Nat) (x : Except Int (Nat × Nat)) (w : World) (e : Ending) (w' : World) : Prop :=
  Kept (Kone D) w w' ∧ match x with
    | .ok (N, k) => e = .returned (.int .i64 (unzz N)) ∧ Rdr w' D v (n + k)
    | .error c => e = Pan c

set_option maxHeartbeats 1000000 in
theorem int_dec (D n : Nat) (v : Value) (l : List UInt8) (w : World) (h : Rdr w D v n) (hb : Bs w v l) (hl : l.length ≤ 1000000) (hn : n ≤ l.length) :
    Calls Tryz.prog 190 #[.pointer (some ⟨D, 0, none⟩)] w (IntOkD D v n (uintAt l n) w) := by
  have H := Lib.hid h
  have HB := Lib.hid hb
  clear h hb
  cases hx : uintAt l n with
  | error c =>
    have HX := Lib.hid hx
    clear hx
    go_enter Tryz.func190, Tryz.ntmps190
    go_wp2_with fail
    refine (uint_any D n v l w H.out HB.out hl hn).mono ?_
    rintro e w1 ⟨hk1, hm⟩
    rw [HX.out] at hm
    simp only at hm
    subst hm
    exact ⟨rfl, hk1, rfl⟩
  | ok q =>
    obtain ⟨N, k⟩ := q
    have HX := Lib.hid hx
    clear hx
    go_enter Tryz.func190, Tryz.ntmps190
    go_wp2_with fail
    refine (uint_any D n v l w H.out HB.out hl hn).mono ?_
    rintro e w1 ⟨hk1, hm⟩
    rw [HX.out] at hm
    simp only at hm
    obtain ⟨rfl, hr1⟩ := hm
    have HR1 := Lib.hid hr1
    clear hr1
    have hN := (uintAt_ok HX.out).1
    have hz := zigback N hN
    obtain ⟨Z, hZ⟩ : ∃ Z, Z = unzz N := ⟨_, rfl⟩
    rw [← hZ] at hz
    have HZ := Lib.hid hZ
    have HX : Hid (IntOkD D v n (Except.ok (N, k)) w (.returned (.int .i64 Z)) w1) := Lib.hid ⟨hk1, by rw [HZ.out], HR1.out⟩
    clear hZ hN
    go_wp2
    go_ret
    exact HX.out

end Go.Proofs.YtffdaohmalmkfaaGreat
/-
  Codec: Int, Text, Row with their deferred closures. (Printed by gen_door.py.)
-/
namespace Go.Proofs.YtffdaohmalmkfaaGreat
open Go.RowKit
set_option linter.unusedVariables false

/-- The three named results, in blocks of their own. -/
structure DoorT (T : TypeId) (w wx : World) (a b c : Value) : Prop where
  k : Kept Kno w wx
  b0 : Blk wx w.heap.size T #[a]
  b1 : Blk wx (w.heap.size + 1) 3 #[b]
  b2 : Blk wx (w.heap.size + 1 + 1) 40 #[c]
section
variable {T : TypeId}
theorem doorT_new (T : TypeId) (w : World) (a b c : Value) : DoorT T w (((w.alloc (.cells #[a] T)).alloc (.cells #[b] 3)).alloc (.cells #[c] 40)) a b c := by
  refine ⟨(((Kept.refl _ w).alloc _).alloc _).alloc _, ((Blk.new w _ _).alloc _).alloc _, ?_, ?_⟩
  · have h := (Blk.new (w.alloc (.cells #[a] T)) 3 #[b]).alloc (.cells #[c] 40)
    have e : (w.alloc (.cells #[a] T)).heap.size = w.heap.size + 1 := by simp
    rw [e] at h
    exact h
  · have h := Blk.new ((w.alloc (.cells #[a] T)).alloc (.cells #[b] 3)) 40 #[c]
    have e : ((w.alloc (.cells #[a] T)).alloc (.cells #[b] 3)).heap.size = w.heap.size + 1 + 1 := by simp
    rw [e] at h
    exact h
theorem DoorT.kept {w wx wy : World} {a b c : Value} {S : Nat → Prop} (h : DoorT T w wx a b c) (hk : Kept S wx wy) (hS : ∀ k, k ≤ w.heap.size + 2 → ¬ S k) : DoorT T w wy a b c :=
  ⟨h.k.trans hk (fun i hi hs => absurd hs (hS i (by omega))), h.b0.kept hk (hS _ (by omega)), h.b1.kept hk (hS _ (by omega)), h.b2.kept hk (hS _ (by omega))⟩
theorem DoorT.set {w wx : World} {a b c a' b' c' : Value} (h : DoorT T w wx a b c) : DoorT T w (((wx.setCell ⟨w.heap.size, 0, none⟩ a').setCell ⟨w.heap.size + 1, 0, none⟩ b').setCell ⟨w.heap.size + 1 + 1, 0, none⟩ c') a' b' c' := by
  refine ⟨?_, ?_, ?_, ?_⟩
  · exact ((h.k.setNew (p := ⟨w.heap.size, 0, none⟩) (Nat.le_refl _) _).setNew (p := ⟨w.heap.size + 1, 0, none⟩) (by simp) _).setNew (p := ⟨w.heap.size + 1 + 1, 0, none⟩) (by simp; omega) _
  · exact ((h.b0.set_ 0 a').far (by simp) _).far (by simp; omega) _
  · exact ((h.b1.far (by simp) _).set_ 0 b').far (by simp) _
  · exact ((h.b2.far (by simp; omega) _).far (by simp) _).set_ 0 c'
theorem DoorT.set1 {w wx : World} {a b c a' : Value} (h : DoorT T w wx a b c) : DoorT T w (wx.setCell ⟨w.heap.size, 0, none⟩ a') a' b c :=
  ⟨h.k.setNew (p := ⟨w.heap.size, 0, none⟩) (Nat.le_refl _) _, h.b0.set_ 0 a', h.b1.far (by simp) _, h.b2.far (by simp; omega) _⟩
end
/-- The blocks of the three named results. -/
def Door3 (w : World) : Nat → Prop := fun k => w.heap.size ≤ k ∧ k ≤ w.heap.size + 1 + 1
theorem door3_0 (w : World) : Door3 w w.heap.size := ⟨Nat.le_refl _, by omega⟩
theorem door3_1 (w : World) : Door3 w (w.heap.size + 1) := ⟨by omega, by omega⟩
theorem door3_2 (w : World) : Door3 w (w.heap.size + 1 + 1) := ⟨by omega, by omega⟩
def DoorOk (w : World) (X : Value → World → Prop) (nk : Nat) (e : Ending) (w' : World) : Prop := ∃ (V : Value) (w2 : World), e = .returned (.tuple #[V, .int .i64 (nk : Int), .int .i64 0]) ∧ X V w2 ∧ Kept (Door3 w) w2 w' ∧ Kept Kno w w'

set_option maxHeartbeats 1000000 in
theorem intD_panicking (p q r : Addr) (x : Int) (y z c : Int) (older : List PanicEntry) (w : World) (h1 : w.cell? p = some (.int .i64 x)) (f1 : w.frozen? p = false) (h2 : w.cell? q = some (.int .i64 y)) (f2 : w.frozen? q = false) (h3 : w.cell? r = some (.int .i64 z)) (f3 : w.frozen? r = false) (hpq : p.block ≠ q.block) (hpr : p.block ≠ r.block) (hqr : q.block ≠ r.block) :
    CallsD Tryz.prog 188 #[.pointer (some p), .pointer (some q), .pointer (some r)] (.panicking ({ v := .iface 40 (.int .i64 c), recovered := false } :: older)) w fun e u' w' =>
      e = .returned (.tuple #[]) ∧ u' = .panicking ({ v := .iface 40 (.int .i64 c), recovered := true } :: older) ∧ w' = ((w.setCell p (.int .i64 0)).setCell q (.int .i64 0)).setCell r (.int .i64 c) := by
  have g2 : (w.setCell p (.int .i64 0)).cell? q = some (.int .i64 y) := (World.cell?_setCell_far _ _ _ _ hpq).trans h2
  have g3 : ((w.setCell p (.int .i64 0)).setCell q (.int .i64 0)).cell? r = some (.int .i64 z) := (World.cell?_setCell_far _ _ _ _ hqr).trans ((World.cell?_setCell_far _ _ _ _ hpr).trans h3)
  have k2 : (w.setCell p (.int .i64 0)).frozen? q = false := (World.frozen?_setCell _ _ _ _).trans f2
  have k3 : ((w.setCell p (.int .i64 0)).setCell q (.int .i64 0)).frozen? r = false := (World.frozen?_setCell _ _ _ _).trans ((World.frozen?_setCell _ _ _ _).trans f3)
  refine callsD_of_wpS Tryz.func188 rfl fun c₀ cs hu => ?_
  apply wpS_seq
  apply wpS_region
  simp [wpOpsS, go_sem, recoverD, hu, Tryz.ntmps188, Exit.thenS, assert_is]
  apply wpS_seq
  apply wpS_region
  simp [wpOpsS, go_sem, Exit.thenS]
  refine wpS_cond (t := true) (by simp [Act.eval, Array.replicate]) ?_
  simp only [if_true]
  apply wpS_region
  simp [wpOpsS, go_sem, h1, f1, g2, g3, k2, k3, bodyPostS, results, Tryz.results188]

set_option maxHeartbeats 1000000 in
theorem intD_idle (p q r : Addr) (w : World) :
    CallsD Tryz.prog 188 #[.pointer (some p), .pointer (some q), .pointer (some r)] .returning w fun e u' w' => e = .returned (.tuple #[]) ∧ u' = .returning ∧ w' = w := by
  refine callsD_of_wpS Tryz.func188 rfl fun c₀ cs hu => ?_
  apply wpS_seq
  apply wpS_region
  simp [wpOpsS, go_sem, recoverD, hu, Tryz.ntmps188, Exit.thenS, assert_nil]
  apply wpS_seq
  apply wpS_region
  simp [wpOpsS, go_sem, Exit.thenS]
  refine wpS_cond (t := false) (by simp [Act.eval, Array.replicate]) ?_
  simp only [Bool.false_eq_true, if_false]
  refine wpS_of_wp (wp_skip ?_)
  cases c₀
  simp_all [bodyPostS, results, Tryz.results188]

set_option maxHeartbeats 1000000 in
theorem intF_bad (v : Value) (l : List UInt8) (n : Int) (w : World) (hb : Bs w v l) (hn : n < 0 ∨ (l.length : Int) < n) :
    Calls Tryz.prog 96 #[v, .int .i64 n] w fun e w' => e = .returned (.tuple #[.int .i64 0, .int .i64 0, .int .i64 1]) ∧ Kept Kno w w' := by
  have HB := Lib.hid hb
  obtain ⟨A, cap, rfl, -⟩ := hb
  have hmf : ∀ (fn : Fn) (first cap : Array Value) (w : World), (Instr.makeFunc fn first cap).run Tryz.prog w = .ok (.func fn first cap) w := fun _ _ _ _ => rfl
  have HN := Lib.hid hn
  clear hn
  go_enter_defers Tryz.func96, Tryz.ntmps96
  go_wp2_with fail
  have hd := doorT_new 2 w (.int .i64 0) (.int .i64 0) (.int .i64 0)
  generalize (((w.alloc (.cells #[.int .i64 0] 2)).alloc (.cells #[.int .i64 0] 3)).alloc (.cells #[.int .i64 0] 40)) = wx at hd ⊢
  refine (begin_bad _ l n wx (HB.out.kept0 hd.k) HN.out).mono ?_
  rintro e w1 ⟨rfl, rfl⟩
  refine leaves_cons (f := 188) (args := #[.pointer (some ⟨w.heap.size, 0, none⟩), .pointer (some ⟨w.heap.size + 1, 0, none⟩), .pointer (some ⟨w.heap.size + 1 + 1, 0, none⟩)]) (by simp) (by simp [go_sem]) ?_
  refine (intD_panicking _ _ _ 0 0 0 1 [] _ (hd.b0.cell 0) (hd.b0.frozen 0) (hd.b1.cell 0) (hd.b1.frozen 0) (hd.b2.cell 0) (hd.b2.frozen 0) (by simp) (by simp; omega) (by simp)).mono ?_
  rintro e u' w'' ⟨rfl, rfl, rfl⟩
  have hd3 := hd.set (a' := .int .i64 0) (b' := .int .i64 0) (c' := .int .i64 1)
  generalize (((wx.setCell ⟨w.heap.size, 0, none⟩ (.int .i64 0)).setCell ⟨w.heap.size + 1, 0, none⟩ (.int .i64 0)).setCell ⟨w.heap.size + 1 + 1, 0, none⟩ (.int .i64 1)) = wy at hd3 ⊢
  have e0 : wy.cell? ⟨w.heap.size, 0, none⟩ = some (.int .i64 0) := hd3.b0.cell 0
  have e1 : wy.cell? ⟨w.heap.size + 1, 0, none⟩ = some (.int .i64 0) := hd3.b1.cell 0
  have e2 : wy.cell? ⟨w.heap.size + 1 + 1, 0, none⟩ = some (.int .i64 1) := hd3.b2.cell 0
  have hk := hd3.k
  clear hd hd3
  simp [Leaves, settle, results, Tryz.results96, go_sem, e0, e1, e2, hk]

set_option maxHeartbeats 2000000 in
theorem intF_err (v : Value) (l : List UInt8) (n : Nat) (c : Int) (w : World) (hb : Bs w v l) (hn : n ≤ l.length)
    (hdec : ∀ (D : Nat) (w1 : World), Rdr w1 D v n → Bs w1 v l → Calls Tryz.prog 190 #[.pointer (some ⟨D, 0, none⟩)] w1 fun e w2 => Kept (Kone D) w1 w2 ∧ e = Pan c) :
    Calls Tryz.prog 96 #[v, .int .i64 n] w fun e w' => e = .returned (.tuple #[.int .i64 0, .int .i64 0, .int .i64 c]) ∧ Kept Kno w w' := by
  have HB := Lib.hid hb
  obtain ⟨A, cap, rfl, -⟩ := hb
  have hmf : ∀ (fn : Fn) (first cap : Array Value) (w : World), (Instr.makeFunc fn first cap).run Tryz.prog w = .ok (.func fn first cap) w := fun _ _ _ _ => rfl
  have HX := Lib.hid hdec
  clear hdec
  go_enter_defers Tryz.func96, Tryz.ntmps96
  go_wp2_with fail
  have hd := doorT_new 2 w (.int .i64 0) (.int .i64 0) (.int .i64 0)
  generalize (((w.alloc (.cells #[.int .i64 0] 2)).alloc (.cells #[.int .i64 0] 3)).alloc (.cells #[.int .i64 0] 40)) = wx at hd ⊢
  have HD := Lib.hid hd
  clear hd
  refine (begin_ok _ l n wx (HB.out.kept0 HD.out.k) hn).mono ?_
  rintro e w1 ⟨rfl, hw1⟩
  have hr1 : Rdr w1 wx.heap.size (.slice A l.length cap) n := by rw [hw1]; exact Blk.new _ _ _
  have hd1 : DoorT 2 w w1 (.int .i64 0) (.int .i64 0) (.int .i64 0) := by rw [hw1]; exact HD.out.kept ((Kept.refl Kno wx).alloc _) (fun _ _ h => h)
  have hlt : w.heap.size + 1 + 1 < wx.heap.size := HD.out.b2.lt
  have HR1 := Lib.hid hr1
  have HD1 := Lib.hid hd1
  clear hw1 hr1 hd1
  go_wp2_with fail
  refine (HX.out wx.heap.size w1 HR1.out (HB.out.kept0 HD1.out.k)).mono ?_
  rintro e w2 ⟨hk2, rfl⟩
  have hd2 := HD1.out.kept hk2 (fun k hk h => by unfold Kone at h; omega)
  refine leaves_cons (f := 188) (args := #[.pointer (some ⟨w.heap.size, 0, none⟩), .pointer (some ⟨w.heap.size + 1, 0, none⟩), .pointer (some ⟨w.heap.size + 1 + 1, 0, none⟩)]) (by simp) (by simp [go_sem]) ?_
  refine (intD_panicking _ _ _ 0 0 0 c [] _ (hd2.b0.cell 0) (hd2.b0.frozen 0) (hd2.b1.cell 0) (hd2.b1.frozen 0) (hd2.b2.cell 0) (hd2.b2.frozen 0) (by simp) (by simp; omega) (by simp)).mono ?_
  rintro e u' w'' ⟨rfl, rfl, rfl⟩
  have hd3 := hd2.set (a' := .int .i64 0) (b' := .int .i64 0) (c' := .int .i64 c)
  generalize (((w2.setCell ⟨w.heap.size, 0, none⟩ (.int .i64 0)).setCell ⟨w.heap.size + 1, 0, none⟩ (.int .i64 0)).setCell ⟨w.heap.size + 1 + 1, 0, none⟩ (.int .i64 c)) = wy at hd3 ⊢
  have e0 : wy.cell? ⟨w.heap.size, 0, none⟩ = some (.int .i64 0) := hd3.b0.cell 0
  have e1 : wy.cell? ⟨w.heap.size + 1, 0, none⟩ = some (.int .i64 0) := hd3.b1.cell 0
  have e2 : wy.cell? ⟨w.heap.size + 1 + 1, 0, none⟩ = some (.int .i64 c) := hd3.b2.cell 0
  have hk := hd3.k
  clear hd2 hd3
  simp [Leaves, settle, results, Tryz.results96, go_sem, e0, e1, e2, hk]

set_option maxHeartbeats 2000000 in
theorem intF_ok (v : Value) (l : List UInt8) (n nk : Nat) (w : World) (X : Value → World → Prop) (hb : Bs w v l) (hn : n ≤ l.length)
    (hdec : ∀ (D : Nat) (w1 : World), w.heap.size + 1 + 1 < D → D < w1.heap.size → Rdr w1 D v n → Bs w1 v l → Calls Tryz.prog 190 #[.pointer (some ⟨D, 0, none⟩)] w1 fun e w2 => Kept (Kone D) w1 w2 ∧ ∃ Z, e = .returned (.int .i64 Z) ∧ Rdr w2 D v nk ∧ X (.int .i64 Z) w2) :
    Calls Tryz.prog 96 #[v, .int .i64 n] w (DoorOk w X nk) := by
  have HB := Lib.hid hb
  obtain ⟨A, cap, rfl, -⟩ := hb
  have hmf : ∀ (fn : Fn) (first cap : Array Value) (w : World), (Instr.makeFunc fn first cap).run Tryz.prog w = .ok (.func fn first cap) w := fun _ _ _ _ => rfl
  have HX := Lib.hid hdec
  clear hdec
  go_enter_defers Tryz.func96, Tryz.ntmps96
  go_wp2_with fail
  have hd := doorT_new 2 w (.int .i64 0) (.int .i64 0) (.int .i64 0)
  generalize (((w.alloc (.cells #[.int .i64 0] 2)).alloc (.cells #[.int .i64 0] 3)).alloc (.cells #[.int .i64 0] 40)) = wx at hd ⊢
  have HD := Lib.hid hd
  clear hd
  refine (begin_ok _ l n wx (HB.out.kept0 HD.out.k) hn).mono ?_
  rintro e w1 ⟨rfl, hw1⟩
  have hr1 : Rdr w1 wx.heap.size (.slice A l.length cap) n := by rw [hw1]; exact Blk.new _ _ _
  have hd1 : DoorT 2 w w1 (.int .i64 0) (.int .i64 0) (.int .i64 0) := by rw [hw1]; exact HD.out.kept ((Kept.refl Kno wx).alloc _) (fun _ _ h => h)
  have hlt : w.heap.size + 1 + 1 < wx.heap.size := HD.out.b2.lt
  have HR1 := Lib.hid hr1
  have HD1 := Lib.hid hd1
  clear hw1 hr1 hd1
  go_wp2_with fail
  have hlt1 : wx.heap.size < w1.heap.size := Blk.lt HR1.out
  refine (HX.out wx.heap.size w1 hlt hlt1 HR1.out (HB.out.kept0 HD1.out.k)).mono ?_
  rintro e w2 ⟨hk2, Z, rfl, hr2, hx2⟩
  have hd2 := HD1.out.kept hk2 (fun k hk h => by unfold Kone at h; omega)
  have c0 : w2.cell? ⟨w.heap.size, 0, none⟩ = some (.int .i64 0) := hd2.b0.cell 0
  have c1 : w2.cell? ⟨w.heap.size + 1, 0, none⟩ = some (.int .i64 0) := hd2.b1.cell 0
  have c2 : w2.cell? ⟨w.heap.size + 1 + 1, 0, none⟩ = some (.int .i64 0) := hd2.b2.cell 0
  have c3 : w2.cell? ⟨wx.heap.size, 1, none⟩ = some (.int .i64 (nk : Int)) := Blk.cell hr2 1
  have f0 := hd2.b0.frozen 0
  have f1 := hd2.b1.frozen 0
  have f2 := hd2.b2.frozen 0
  have HD2 := Lib.hid hd2
  have HX2 := Lib.hid hx2
  generalize hD : wx.heap.size = D at hlt c3 HR1 ⊢
  have hD0 : w.heap.size ≠ D := by omega
  have hD1 : w.heap.size + 1 ≠ D := by omega
  have hD2 : w.heap.size + 1 + 1 ≠ D := by omega
  clear hd2 hr2 hk2 hD hx2 hlt1
  go_wp2_with fail
  go_region
  all_goals
    go_wp2_with fail
    have hd3 := ((HD2.out.set1 (a' := .int .i64 Z)).set (a' := .int .i64 Z) (b' := .int .i64 nk) (c' := .int .i64 0)).kept (Kept.drew (Kept.refl Kno _)) (fun _ _ h => h)
    have hk3 : Kept (Door3 w) w2 ((((w2.setCell ⟨w.heap.size, 0, none⟩ (.int .i64 Z)).setCell ⟨w.heap.size, 0, none⟩ (.int .i64 Z)).setCell ⟨w.heap.size + 1, 0, none⟩ (.int .i64 nk)).setCell ⟨w.heap.size + 1 + 1, 0, none⟩ (.int .i64 0)).drew := (((((Kept.refl (Door3 w) w2).setIn (p := ⟨w.heap.size, 0, none⟩) (door3_0 w) _).setIn (p := ⟨w.heap.size, 0, none⟩) (door3_0 w) _).setIn (p := ⟨w.heap.size + 1, 0, none⟩) (door3_1 w) _).setIn (p := ⟨w.heap.size + 1 + 1, 0, none⟩) (door3_2 w) _).drew
    generalize ((((w2.setCell ⟨w.heap.size, 0, none⟩ (.int .i64 Z)).setCell ⟨w.heap.size, 0, none⟩ (.int .i64 Z)).setCell ⟨w.heap.size + 1, 0, none⟩ (.int .i64 nk)).setCell ⟨w.heap.size + 1 + 1, 0, none⟩ (.int .i64 0)).drew = wy at hd3 hk3 ⊢
    refine leaves_cons (f := 188) (args := #[.pointer (some ⟨w.heap.size, 0, none⟩), .pointer (some ⟨w.heap.size + 1, 0, none⟩), .pointer (some ⟨w.heap.size + 1 + 1, 0, none⟩)]) (by simp) (by simp [go_sem]) ?_
    refine (intD_idle _ _ _ _).mono ?_
    rintro e u' w'' ⟨rfl, rfl, rfl⟩
    have e0 : w''.cell? ⟨w.heap.size, 0, none⟩ = some (.int .i64 Z) := hd3.b0.cell 0
    have e1 : w''.cell? ⟨w.heap.size + 1, 0, none⟩ = some (.int .i64 nk) := hd3.b1.cell 0
    have e2 : w''.cell? ⟨w.heap.size + 1 + 1, 0, none⟩ = some (.int .i64 0) := hd3.b2.cell 0
    have HQ : Hid (DoorOk w X nk (.returned (.tuple #[.int .i64 Z, .int .i64 nk, .int .i64 0])) w'') := Lib.hid ⟨_, w2, rfl, HX2.out, hk3, hd3.k⟩
    clear hd3 hk3 HX2 HX
    simp [Leaves, settle, results, Tryz.results96, go_sem, e0, e1, e2]
    exact HQ.out

end Go.Proofs.YtffdaohmalmkfaaGreat
