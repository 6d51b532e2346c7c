/-
  Contracts and plain laws that the claim's theorem rests on, some texts in one file.
-/
import Derived.Test.YtffdaohmalmkfaaGreatM39
import Derived.Deep.QuietTactic
import Derived.BigQuiet
import Derived.Laws.Slices
import Derived.WalkSpells
/-
  Codec: the reader's int; the reference's Uint and Int.
-/
namespace Go.Proofs.YtffdaohmalmkfaaGreat
open Go.RowKit
set_option linter.unusedVariables false

/-- Zigzag, back. -/
def unzz (N : Nat) : Int := if N % 2 = 0 then ((N / 2 : Nat) : Int) else -((N / 2 : Nat) : Int) - 1
theorem unzz_range (N : Nat) (h : N < 18446744073709551616) : -9223372036854775808 ≤ unzz N ∧ unzz N ≤ 9223372036854775807 := by unfold unzz; split <;> omega
theorem zz_unzz (N : Nat) : zz (unzz N) = N := by
  unfold zz unzz
  split <;> split <;> omega
theorem unzz_zz (m : Int) : unzz (zz m) = m := by
  unfold zz unzz
  split <;> split <;> omega

theorem xor_i64_0 (a : Nat) (h : a < 9223372036854775808) : bits .xor .i64 (a : Int) 0 = (a : Int) := by
  have h1 : (BitVec.ofInt 64 (a : Int)).toNat = a := by
    rw [BitVec.ofInt_natCast, BitVec.toNat_ofNat]; exact Nat.mod_eq_of_lt (by omega)
  show IntKind.i64.wrap ((BitVec.ofInt 64 (a : Int) ^^^ BitVec.ofInt 64 0).toNat : Int) = _
  have h0 : (BitVec.ofInt 64 0).toNat = 0 := by decide
  rw [BitVec.toNat_xor, h1, h0, Nat.xor_zero, IntKind.wrap_i64]
  omega
theorem xor_i64_1 (a : Nat) (h : a < 9223372036854775808) : bits .xor .i64 (a : Int) (-1) = -(a : Int) - 1 := by
  have h1 : (BitVec.ofInt 64 (a : Int)).toNat = a := by
    rw [BitVec.ofInt_natCast, BitVec.toNat_ofNat]; exact Nat.mod_eq_of_lt (by omega)
  show IntKind.i64.wrap ((BitVec.ofInt 64 (a : Int) ^^^ BitVec.ofInt 64 (-1)).toNat : Int) = _
  have h0 : (BitVec.ofInt 64 (-1)).toNat = 18446744073709551615 := by decide
  rw [BitVec.toNat_xor, h1, h0, xor_ones a (by omega), IntKind.wrap_i64]
  omega

theorem rdF_ok : ∀ (f i N : Nat) (l : List UInt8) (M k : Nat), f + i = 10 → N < 2 ^ (7 * i) → rdF f i N l = .ok (M, k) → M < 18446744073709551616 ∧ i < k ∧ k ≤ 10 ∧ k ≤ i + l.length
  | 0, i, N, l, M, k, _, _, h => by simp [rdF] at h
  | f + 1, i, N, [], M, k, _, _, h => by simp [rdF] at h
  | f + 1, i, N, c :: r, M, k, hf, hN, h => by
    have h5 : 2 ^ (7 * (i + 1)) = 128 * 2 ^ (7 * i) := by rw [show 7 * (i + 1) = 7 * i + 7 by omega, Nat.pow_add]; omega
    have c256 : c.toNat < 256 := c.toNat_lt
    simp only [rdF] at h
    split at h
    · rename_i h1
      have h4 : (c.toNat - 128) * 2 ^ (7 * i) ≤ 127 * 2 ^ (7 * i) := Nat.mul_le_mul_right _ (by omega)
      obtain ⟨q1, q2, q3, q4⟩ := rdF_ok f (i + 1) _ r M k (by omega) (by omega) h
      exact ⟨q1, by omega, q3, by simp only [List.length_cons]; omega⟩
    · rename_i h1
      split at h
      · cases h
      · rename_i h2
        simp only [Except.ok.injEq, Prod.mk.injEq] at h
        obtain ⟨rfl, rfl⟩ := h
        refine ⟨?_, by omega, by omega, by simp only [List.length_cons]; omega⟩
        by_cases hi : i ≤ 8
        · have h4 : c.toNat * 2 ^ (7 * i) ≤ 127 * 2 ^ (7 * i) := Nat.mul_le_mul_right _ (by omega)
          have h6 : 2 ^ (7 * (i + 1)) ≤ 2 ^ 63 := Nat.pow_le_pow_right (by decide) (by omega)
          omega
        · obtain rfl : i = 9 := by omega
          have h4 : c.toNat * 2 ^ (7 * 9) ≤ 1 * 2 ^ (7 * 9) := Nat.mul_le_mul_right _ (by omega)
          omega
theorem uintAt_ok {l : List UInt8} {n N k : Nat} (h : uintAt l n = .ok (N, k)) : N < 18446744073709551616 ∧ 0 < k ∧ k ≤ 10 ∧ k ≤ l.length - n := by
  obtain ⟨h1, h2, h3, h4⟩ := rdF_ok 10 0 0 (l.drop n) N k rfl (by decide) h
  refine ⟨h1, h2, h3, ?_⟩
  rw [List.length_drop] at h4
  omega

theorem and_one (N : Nat) (h : N < 18446744073709551616) : bits BinOp.and IntKind.u64 (N : Int) 1 = ((N % 2 : Nat) : Int) := by
  have e1 := bits_and_u64_nat N 1 h (by decide)
  have e2 : N &&& 1 = N % 2 := Nat.and_two_pow_sub_one_eq_mod N 1
  rw [e2] at e1
  exact e1
theorem zigback (N : Nat) (h : N < 18446744073709551616) : bits BinOp.xor IntKind.i64 (wrap64 ((N : Int) / 2)) (wrap64 (-wrap64 (bits BinOp.and IntKind.u64 (N : Int) 1))) = unzz N := by
  rw [and_one N h]
  have e1 : wrap64 ((N : Int) / 2) = ((N / 2 : Nat) : Int) := by unfold wrap64; omega
  rw [e1]
  by_cases h2 : N % 2 = 0
  · have e2 : wrap64 (-wrap64 ((N % 2 : Nat) : Int)) = 0 := by rw [h2]; unfold wrap64; omega
    rw [e2, xor_i64_0 _ (by omega), unzz, if_pos h2]
  · have h3 : N % 2 = 1 := by omega
    have e2 : wrap64 (-wrap64 ((N % 2 : Nat) : Int)) = -1 := by rw [h3]; unfold wrap64; omega
    rw [e2, xor_i64_1 _ (by omega), unzz, if_neg h2]

def IntOkD (D : Nat) (v : Value) (n : Nat) (x : Except Int (Nat × Nat)) (w : World) (e : Ending) (w' : World) : Prop :=
  Kept (Kone D) w w' ∧ match x with
    | .ok (N, k) => e = .returned (.int .i64 (unzz N)) ∧ Rdr w' D v (n + k)
    | .error c => e = Pan c

set_option maxHeartbeats 1000000 in
theorem int_dec (D n : Nat) (v : Value) (l : List UInt8) (w : World) (h : Rdr w D v n) (hb : Bs w v l) (hl : l.length ≤ 1000000) (hn : n ≤ l.length) :
    Calls Tryz.prog 190 #[.pointer (some ⟨D, 0, none⟩)] w (IntOkD D v n (uintAt l n) w) := by
  have H := Lib.hid h
  have HB := Lib.hid hb
  clear h hb
  cases hx : uintAt l n with
  | error c =>
    have HX := Lib.hid hx
    clear hx
    go_enter Tryz.func190, Tryz.ntmps190
    go_wp2_with fail
    refine (uint_any D n v l w H.out HB.out hl hn).mono ?_
    rintro e w1 ⟨hk1, hm⟩
    rw [HX.out] at hm
    simp only at hm
    subst hm
    exact ⟨rfl, hk1, rfl⟩
  | ok q =>
    obtain ⟨N, k⟩ := q
    have HX := Lib.hid hx
    clear hx
    go_enter Tryz.func190, Tryz.ntmps190
    go_wp2_with fail
    refine (uint_any D n v l w H.out HB.out hl hn).mono ?_
    rintro e w1 ⟨hk1, hm⟩
    rw [HX.out] at hm
    simp only at hm
    obtain ⟨rfl, hr1⟩ := hm
    have HR1 := Lib.hid hr1
    clear hr1
    have hN := (uintAt_ok HX.out).1
    have hz := zigback N hN
    obtain ⟨Z, hZ⟩ : ∃ Z, Z = unzz N := ⟨_, rfl⟩
    rw [← hZ] at hz
    have HZ := Lib.hid hZ
    have HX : Hid (IntOkD D v n (Except.ok (N, k)) w (.returned (.int .i64 Z)) w1) := Lib.hid ⟨hk1, by rw [HZ.out], HR1.out⟩
    clear hZ hN
    go_wp2
    go_ret
    exact HX.out

end Go.Proofs.YtffdaohmalmkfaaGreat
/-
  Steps of a region that only reads, laid by hand where the walk's own step is slow: a slice expression, a conversion. No program in sight.
-/
namespace Go.Proofs.YtffdaohmalmkfaaGreat
open Go.RowKit
set_option linter.unusedVariables false

section
variable {P : Program} {ops : Array Oper} {C : World → Prop} {Q : Act → Prop} {a : Act} {o : Oper} {rest : List Oper}
theorem quiet_run (v : Value) (hw : Region.wanted o (yielded ops a.tmps) = true) (h : ∀ w, C w → (execOp a.eval o).run P w = .ok (.value v) w) (hk : wpQuiet P ops C Q rest (a.put o.dst v)) : wpQuiet P ops C Q (o :: rest) a :=
  BigFrame.wpQuiet_want hw fun K hK => ⟨v, fun w hC => by unfold Oper.quietAt; rw [h w hC]; exact ⟨rfl, rfl⟩, hK _ hk⟩
theorem quiet_slice (v : Value) (t : TypeId) (x : Operand) (lo hi : Option Operand) (ho : o.op = .slice t x lo hi none) (ht : P.underlying t = some (.slice (P.elem t))) (hw : Region.wanted o (yielded ops a.tmps) = true)
    (x0 : Value) (l0 h0 : Option Value) (hx : a.eval x = x0) (hl : lo.map a.eval = l0) (hh : hi.map a.eval = h0)
    (h : ∀ w, C w → (Instr.slice t x0 l0 h0 none).run P w = .ok v w) (hk : wpQuiet P ops C Q rest (a.put o.dst v)) : wpQuiet P ops C Q (o :: rest) a :=
  quiet_run v hw (fun w hC => by
    unfold execOp
    simp only [ho, Sem.run_bind, Option.map_none]
    rw [hx, hl, hh, run_sliceAt_slice w t x0 l0 h0 none ht, h w hC]
    rfl) hk
theorem quiet_convert (v : Value) (s t : TypeId) (x : Operand) (ho : o.op = .convert s t x) (hw : Region.wanted o (yielded ops a.tmps) = true)
    (x0 : Value) (hx : a.eval x = x0) (h : ∀ w, C w → (convert s t x0).run P w = .ok v w) (hk : wpQuiet P ops C Q rest (a.put o.dst v)) : wpQuiet P ops C Q (o :: rest) a :=
  quiet_run v hw (fun w hC => by
    unfold execOp
    simp only [ho, Sem.run_bind]
    rw [hx, h w hC]
    rfl) hk
end

/-- 's[lo:hi]' of a slice of bytes: the run. -/
theorem run_slice_nat {P : Program} (w : World) (t : TypeId) (ht : P.underlying t = some (.slice (P.elem t))) (hsz : ∀ w, (sizeOf (P.elem t)).run P w = .ok 1 w) (A : Option Addr) (n cap lo hi : Nat) (h1 : lo ≤ hi) (h2 : hi ≤ cap) :
    (Instr.slice t (.slice A n cap) (some (.int .i64 (lo : Int))) (some (.int .i64 (hi : Int))) none).run P w = .ok (sliced A lo hi cap 1) w := by
  rw [run_slice_lh w t _ _ _ ht .i64 .i64 (lo : Int) (hi : Int) (Int.natCast_nonneg lo) (by omega) (by omega), hsz]
  simp only [Result.andThen, Int.toNat_natCast]
end Go.Proofs.YtffdaohmalmkfaaGreat
/-
  Codec: the reader's text.
-/
namespace Go.Proofs.YtffdaohmalmkfaaGreat
open Go.RowKit
set_option linter.unusedVariables false

def textAt (l : List UInt8) (n most : Nat) : Except Int (List UInt8 × Nat) := match uintAt l n with
  | .error c => .error c
  | .ok (N, k) => if most < N then .error 2 else if l.length - (n + k) < N then .error 20 else .ok ((l.drop (n + k)).take N, k + N)
def TextOkD (D : Nat) (v : Value) (n : Nat) (x : Except Int (List UInt8 × Nat)) (w : World) (e : Ending) (w' : World) : Prop :=
  Kept (Kone D) w w' ∧ match x with
    | .ok (b, k) => e = .returned (.string ⟨b.toArray⟩) ∧ Rdr w' D v (n + k)
    | .error c => e = Pan c

/-- A part of a slice of bytes. -/
theorem bs_part {w : World} {g o cap : Nat} {l : List UInt8} (h : Bs w (.slice (some ⟨g, o, none⟩) l.length cap) l) (a N : Nat) (ha : a + N ≤ l.length) : Bs w (.slice (some ⟨g, o + a, none⟩) N (cap - a)) ((l.drop a).take N) := by
  obtain ⟨A', cap', hv, h1, h2, h3, h4⟩ := h
  injection hv with e1 e2 e3
  subst e1 e3
  have hlen : ((l.drop a).take N).length = N := by rw [List.length_take, List.length_drop]; omega
  refine ⟨_, _, by rw [hlen], by rw [hlen]; omega, by simp, (fun h => by cases h), fun ad hA j u hj => ?_⟩
  cases hA
  have hj2 : j < N := by
    have := (List.getElem?_eq_some_iff.1 hj).1
    rw [List.length_map, hlen] at this
    exact this
  rw [add_lit0]
  have h5 := h4 ⟨g, o, none⟩ rfl (a + j) u (by
    rw [← hj, List.getElem?_map, List.getElem?_map, List.getElem?_take, if_pos hj2, List.getElem?_drop])
  rw [add_lit0] at h5
  rw [Nat.add_assoc]
  exact h5
theorem bs_part0 {w : World} {A : Option Addr} {cap : Nat} {l : List UInt8} (h : Bs w (.slice A l.length cap) l) : Bs w (.slice A 0 0) [] :=
  ⟨A, 0, rfl, Nat.le_refl _, rfl, fun _ => ⟨rfl, rfl⟩, fun ad hA j u hj => by simp at hj⟩

theorem part_nums (a N L cap : Nat) (h : a + N ≤ L) (hL : L ≤ 1000000) (hc : L ≤ cap) : (a : Int) + (N : Int) ≤ (cap : Int) ∧ IntKind.i64.wrap (N : Int) = (N : Int) ∧ IntKind.i64.wrap ((a : Int) + (N : Int)) = (a : Int) + (N : Int) ∧ ((a : Int) + (N : Int)).toNat = a + N ∧ (a : Int) ≤ (a : Int) + (N : Int) :=
  ⟨by omega, by rw [IntKind.wrap_i64]; omega, by rw [IntKind.wrap_i64]; omega, by omega, by omega⟩

set_option maxRecDepth 100000 in
set_option maxHeartbeats 2000000 in
theorem text_dec (D n most : Nat) (v : Value) (l : List UInt8) (w : World) (h : Rdr w D v n) (hb : Bs w v l) (hl : l.length ≤ 1000000) (hn : n ≤ l.length) (hm : most ≤ 9223372036854775807) :
    Calls Tryz.prog 317 #[.pointer (some ⟨D, 0, none⟩), .int .i64 most] w (TextOkD D v n (textAt l n most) w) := by
  have H := Lib.hid h
  have HB := Lib.hid hb
  clear h hb
  cases hx : uintAt l n with
  | error c =>
    have hy : textAt l n most = .error c := by unfold textAt; rw [hx]
    rw [hy]
    have HX := Lib.hid hx
    clear hx hy
    go_enter Tryz.func317, Tryz.ntmps317
    go_wp2_with fail
    refine (uint_any D n v l w H.out HB.out hl hn).mono ?_
    rintro e w1 ⟨hk1, hm⟩
    rw [HX.out] at hm
    simp only at hm
    subst hm
    exact ⟨rfl, hk1, rfl⟩
  | ok q =>
    obtain ⟨N, k⟩ := q
    obtain ⟨hN, hk0, hk10, hkl⟩ := uintAt_ok hx
    have HX := Lib.hid hx
    obtain ⟨R, hR⟩ : ∃ R, R = textAt l n most := ⟨_, rfl⟩
    rw [← hR]
    have hR2 : R = if most < N then .error 2 else if l.length - (n + k) < N then .error 20 else .ok ((l.drop (n + k)).take N, k + N) := by rw [hR]; unfold textAt; rw [hx]
    have HR := Lib.hid hR2
    clear hx hR hR2
    have hwm : IntKind.u64.wrap (most : Int) = (most : Int) := by rw [IntKind.wrap_u64]; omega
    go_enter Tryz.func317, Tryz.ntmps317
    go_wp2_with fail
    refine (uint_any D n v l w H.out HB.out hl hn).mono ?_
    rintro e w1 ⟨hk1, hm⟩
    rw [HX.out] at hm
    simp only at hm
    obtain ⟨rfl, hr1⟩ := hm
    have HB1 := Lib.hid (H.out.bs HB.out HB.out hk1)
    have HR1 := Lib.hid hr1
    obtain ⟨A, cap, rfl, hlc, -⟩ := HB.out
    by_cases h1 : most < N
    · have h1' : (most : Int) < (N : Int) := by omega
      have HXX : Hid (R = .error 2) := Lib.hid (by rw [HR.out, if_pos h1])
      clear hr1
      go_wp2
      rw [HXX.out]
      exact ⟨rfl, hk1, rfl⟩
    · have h1' : ¬ (most : Int) < (N : Int) := by omega
      have c0 : w1.cell? ⟨D, 0, none⟩ = some (.slice A l.length cap) := hr1.cell 0
      have c1 : w1.cell? ⟨D, 1, none⟩ = some (.int .i64 ((n + k : Nat) : Int)) := hr1.cell 1
      have f1 := hr1.frozen 1
      have hak : n + k ≤ l.length := by omega
      have ha0 : 0 < n + k := by omega
      have hRR := HR.out
      rw [if_neg h1] at hRR
      have HR2 := Lib.hid hRR
      clear hr1 hRR
      generalize hnk : n + k = a at c1 hak ha0 HR1 HR2 ⊢
      have HNK := Lib.hid hnk
      clear hnk
      by_cases h2 : l.length - a < N
      · rw [if_pos h2] at HR2
        have d1 : IntKind.u64.wrap (IntKind.i64.wrap ((l.length : Int) - (a : Int))) = ((l.length - a : Nat) : Int) := by rw [IntKind.wrap_u64, IntKind.wrap_i64]; omega
        have d2 : decide (l.length - a < N) = true := by simpa using h2
        go_wp2_with fail
        go_quiet (fail)
        have d3 : (l.length : Int) - (a : Int) < (N : Int) := by omega
        have hk2 : Kept (Kone D) w (w1.drewN nq) := hk1.drewN nq
        go_wp2
        rw [HR2.out]
        exact ⟨rfl, hk2, rfl⟩
      · rw [if_neg h2] at HR2
        have hla : a + N ≤ l.length := by omega
        have HA : ∃ g o, A = some ⟨g, o, none⟩ := by
          have hbb := HB1.out
          obtain ⟨A', cap', hv, h5, h6, h7, h8⟩ := hbb
          injection hv with e1 e2 e3
          subst e1 e3
          have hl0 : 0 < l.length := by omega
          rcases A with _ | ad
          · have := (h7 rfl).1; omega
          · have h0 := h8 ad rfl 0 (bv (l[0]'(by omega))) (by rw [List.getElem?_map, List.getElem?_eq_getElem (by omega)]; rfl)
            obtain ⟨g, o, spot⟩ := ad
            have := World.cell?_spot h0
            have hs : spot = none := by simpa [Addr.add] using this
            subst hs
            exact ⟨g, o, rfl⟩
        obtain ⟨g, o, rfl⟩ := HA
        have HP : Hid (∀ w', Kept Kno w1 w' → ∀ V, V = sliced (some ⟨g, o, none⟩) a (a + N) cap 1 → (convert 22 9 V).run Tryz.prog w' = .ok (.string ⟨((l.drop a).take N).toArray⟩) w') := Lib.hid (fun w' hk V hV => by
          subst hV
          have hbb : Bs w' (sliced (some ⟨g, o, none⟩) a (a + N) cap 1) ((l.drop a).take N) := by
            unfold sliced
            by_cases hca : cap = a
            · have hN0 : N = 0 := by omega
              subst hN0
              rw [if_pos hca, List.take_zero, hca, Nat.add_zero, Nat.sub_self]
              exact bs_part0 (HB1.out.kept0 hk)
            · rw [if_neg hca, Nat.mul_one, Nat.add_sub_cancel_left]
              have h9 := bs_part (HB1.out.kept0 hk) a N hla
              rw [← add_lit0] at h9
              exact h9
          exact run_string_bs (P := Tryz.prog) 22 9 5 hbb Tryz.underlying22 Tryz.underlying5 Tryz.underlying9)
        go_wp2_with fail
        go_quiet (fail)
        have c0' : (w1.drewN nq).cell? ⟨D, 0, none⟩ = some (.slice (some ⟨g, o, none⟩) l.length cap) := c0
        have c1' : (w1.drewN nq).cell? ⟨D, 1, none⟩ = some (.int .i64 (a : Int)) := c1
        have f1' : (w1.drewN nq).frozen? ⟨D, 1, none⟩ = false := f1
        have hk2 : Kept (Kone D) w (w1.drewN nq) := hk1.drewN nq
        have hkq : Kept Kno w1 (w1.drewN nq) := (Kept.refl _ w1).drewN nq
        have HR3 : Hid (Rdr (w1.drewN nq) D (.slice (some ⟨g, o, none⟩) l.length cap) a) := Lib.hid (Blk.drewN HR1.out nq)
        generalize w1.drewN nq = wq at c0' c1' f1' hk2 HR3 hkq ⊢
        clear c0 c1 f1 HR1 HB HB1 H HX
        have d3 : ¬ (l.length : Int) - (a : Int) < (N : Int) := by omega
        go_wp2_with fail
        obtain ⟨b1, b5, b6, b7, b9⟩ := part_nums a N l.length cap hla hl hlc
        generalize hS : sliced (some ⟨g, o, none⟩) a (a + N) cap 1 = V at HP
        have b8 : ∀ w', (Instr.slice 22 (.slice (some ⟨g, o, none⟩) l.length cap) (some (.int .i64 (a : Int))) (some (.int .i64 ((a : Int) + (N : Int)))) none).run Tryz.prog w' = .ok V w' := fun w' => by
          rw [run_slice_lh w' 22 _ _ _ Tryz.underlying22 .i64 .i64 (a : Int) ((a : Int) + (N : Int)) (Int.natCast_nonneg a) b9 b1]
          have hsz : (sizeOf (Tryz.prog.elem 22)).run Tryz.prog w' = .ok 1 w' := by
            have hel : Tryz.prog.elem 22 = 5 := by kernel_rfl
            obtain ⟨i0, hi, hz0, hz1, hz2⟩ := info_parts info_byte
            rw [hel]
            simp [sizeOf, typeInfo, hi, hz1]
          rw [hsz]
          simp only [Result.andThen, Int.toNat_natCast, b7, hS]
        have t1 : ∀ nq, (convert 22 9 V).run Tryz.prog (wq.drewN nq) = .ok (.string ⟨((l.drop a).take N).toArray⟩) (wq.drewN nq) := fun nq => HP.out (wq.drewN nq) (hkq.drewN nq) V rfl
        have T1 := Lib.hid t1
        have B8 := Lib.hid b8
        have HS := Lib.hid hS
        have hNs : N ≤ 1000000 := Nat.le_trans (Nat.le_add_left N a) (Nat.le_trans hla hl)
        clear t1 b8 hS HP hN hwm hk0 hk10 hkl h1' h1 d3 h2 b7 b9 b1 hlc hak ha0 hn HR
        refine wp_region_quiet_lit (by kernel_rfl) (by kernel_rfl) ?_
        iterate 15 (go_big_quiet_step (fail))
        refine quiet_slice V 22 _ _ _ rfl Tryz.underlying22 rfl _ _ _ rfl rfl rfl (fun w' _ => B8.out w') ?_
        refine quiet_convert (.string ⟨((l.drop a).take N).toArray⟩) 22 9 _ rfl rfl V rfl (fun w' ⟨nn, hw'⟩ => by rw [hw']; exact T1.out nn) ?_
        simp only [Act.put, List.setIfInBounds_toArray, List.set_cons_succ, List.set_cons_zero]
        go_big_quiet_step (fail)
        refine wpQuiet_nil ?_
        intro _ hw'
        obtain ⟨n2, hw''⟩ := hw'
        subst hw''
        have c1'' : (wq.drewN n2).cell? ⟨D, 1, none⟩ = some (.int .i64 (a : Int)) := c1'
        have f1'' : (wq.drewN n2).frozen? ⟨D, 1, none⟩ = false := f1'
        have hk3 : Kept (Kone D) w (wq.drewN n2) := hk2.drewN n2
        have HR4 : Hid (Rdr (wq.drewN n2) D (.slice (some ⟨g, o, none⟩) l.length cap) a) := Lib.hid (Blk.drewN HR3.out n2)
        generalize wq.drewN n2 = wz at c1'' f1'' hk3 HR4 ⊢
        clear c0' c1' f1' hk2 HR3 hkq T1 B8 HS b5 b6
        have hs1 : (a : Int) + (N : Int) ≤ 1000000 := by omega
        go_wp2
        go_ret
        rw [HR2.out]
        refine ⟨hk3.setIn (p := ⟨D, 1, none⟩) (Eq.refl D) _, rfl, ?_⟩
        have h9 := HR4.out.set_ 1 (.int .i64 ((a : Int) + (N : Int)))
        rw [← Nat.add_assoc, HNK.out]
        exact h9

end Go.Proofs.YtffdaohmalmkfaaGreat
