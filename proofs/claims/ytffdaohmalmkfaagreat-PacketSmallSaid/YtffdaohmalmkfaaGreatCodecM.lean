/-
  Codec: the reader's int; the reference's Uint and Int.
-/
import Derived.Test.YtffdaohmalmkfaaGreatCodecL
namespace Go.Proofs.YtffdaohmalmkfaaGreat
open Go.RowKit
set_option linter.unusedVariables false

/-- Zigzag, back. -/
def unzz (N : Nat) : Int := if N % 2 = 0 then ((N / 2 : Nat) : Int) else -((N / 2 : Nat) : Int) - 1
theorem unzz_range (N : Nat) (h : N < 18446744073709551616) : -9223372036854775808 ≤ unzz N ∧ unzz N ≤ 9223372036854775807 := by unfold unzz; split <;> omega
theorem zz_unzz (N : Nat) : zz (unzz N) = N := by
  unfold zz unzz
  split <;> split <;> omega
theorem unzz_zz (m : Int) : unzz (zz m) = m := by
  unfold zz unzz
  split <;> split <;> omega

theorem xor_i64_0 (a : Nat) (h : a < 9223372036854775808) : bits .xor .i64 (a : Int) 0 = (a : Int) := by
  have h1 : (BitVec.ofInt 64 (a : Int)).toNat = a := by
    rw [BitVec.ofInt_natCast, BitVec.toNat_ofNat]; exact Nat.mod_eq_of_lt (by omega)
  show IntKind.i64.wrap ((BitVec.ofInt 64 (a : Int) ^^^ BitVec.ofInt 64 0).toNat : Int) = _
  have h0 : (BitVec.ofInt 64 0).toNat = 0 := by decide
  rw [BitVec.toNat_xor, h1, h0, Nat.xor_zero, IntKind.wrap_i64]
  omega
theorem xor_i64_1 (a : Nat) (h : a < 9223372036854775808) : bits .xor .i64 (a : Int) (-1) = -(a : Int) - 1 := by
  have h1 : (BitVec.ofInt 64 (a : Int)).toNat = a := by
    rw [BitVec.ofInt_natCast, BitVec.toNat_ofNat]; exact Nat.mod_eq_of_lt (by omega)
  show IntKind.i64.wrap ((BitVec.ofInt 64 (a : Int) ^^^ BitVec.ofInt 64 (-1)).toNat : Int) = _
  have h0 : (BitVec.ofInt 64 (-1)).toNat = 18446744073709551615 := by decide
  rw [BitVec.toNat_xor, h1, h0, xor_ones a (by omega), IntKind.wrap_i64]
  omega

theorem rdF_ok : ∀ (f i N : Nat) (l : List UInt8) (M k : Nat), f + i = 10 → N < 2 ^ (7 * i) → rdF f i N l = .ok (M, k) → M < 18446744073709551616 ∧ i < k ∧ k ≤ 10 ∧ k ≤ i + l.length
  | 0, i, N, l, M, k, _, _, h => by simp [rdF] at h
  | f + 1, i, N, [], M, k, _, _, h => by simp [rdF] at h
  | f + 1, i, N, c :: r, M, k, hf, hN, h => by
    have h5 : 2 ^ (7 * (i + 1)) = 128 * 2 ^ (7 * i) := by rw [show 7 * (i + 1) = 7 * i + 7 by omega, Nat.pow_add]; omega
    have c256 : c.toNat < 256 := c.toNat_lt
    simp only [rdF] at h
    split at h
    · rename_i h1
      have h4 : (c.toNat - 128) * 2 ^ (7 * i) ≤ 127 * 2 ^ (7 * i) := Nat.mul_le_mul_right _ (by omega)
      obtain ⟨q1, q2, q3, q4⟩ := rdF_ok f (i + 1) _ r M k (by omega) (by omega) h
      exact ⟨q1, by omega, q3, by simp only [List.length_cons]; omega⟩
    · rename_i h1
      split at h
      · cases h
      · rename_i h2
        simp only [Except.ok.injEq, Prod.mk.injEq] at h
        obtain ⟨rfl, rfl⟩ := h
        refine ⟨?_, by omega, by omega, by simp only [List.length_cons]; omega⟩
        by_cases hi : i ≤ 8
        · have h4 : c.toNat * 2 ^ (7 * i) ≤ 127 * 2 ^ (7 * i) := Nat.mul_le_mul_right _ (by omega)
          have h6 : 2 ^ (7 * (i + 1)) ≤ 2 ^ 63 := Nat.pow_le_pow_right (by decide) (by omega)
          omega
        · obtain rfl : i = 9 := by omega
          have h4 : c.toNat * 2 ^ (7 * 9) ≤ 1 * 2 ^ (7 * 9) := Nat.mul_le_mul_right _ (by omega)
          omega
theorem uintAt_ok {l : List UInt8} {n N k : Nat} (h : uintAt l n = .ok (N, k)) : N < 18446744073709551616 ∧ 0 < k ∧ k ≤ 10 ∧ k ≤ l.length - n := by
  obtain ⟨h1, h2, h3, h4⟩ := rdF_ok 10 0 0 (l.drop n) N k rfl (by decide) h
  refine ⟨h1, h2, h3, ?_⟩
  rw [List.length_drop] at h4
  omega

theorem and_one (N : Nat) (h : N < 18446744073709551616) : bits BinOp.and IntKind.u64 (N : Int) 1 = ((N % 2 : Nat) : Int) := by
  have e1 := bits_and_u64_nat N 1 h (by decide)
  have e2 : N &&& 1 = N % 2 := Nat.and_two_pow_sub_one_eq_mod N 1
  rw [e2] at e1
  exact e1
theorem zigback (N : Nat) (h : N < 18446744073709551616) : bits BinOp.xor IntKind.i64 (wrap64 ((N : Int) / 2)) (wrap64 (-wrap64 (bits BinOp.and IntKind.u64 (N : Int) 1))) = unzz N := by
  rw [and_one N h]
  have e1 : wrap64 ((N : Int) / 2) = ((N / 2 : Nat) : Int) := by unfold wrap64; omega
  rw [e1]
  by_cases h2 : N % 2 = 0
  · have e2 : wrap64 (-wrap64 ((N % 2 : Nat) : Int)) = 0 := by rw [h2]; unfold wrap64; omega
    rw [e2, xor_i64_0 _ (by omega), unzz, if_pos h2]
  · have h3 : N % 2 = 1 := by omega
    have e2 : wrap64 (-wrap64 ((N % 2 : Nat) : Int)) = -1 := by rw [h3]; unfold wrap64; omega
    rw [e2, xor_i64_1 _ (by omega), unzz, if_neg h2]

def IntOkD (D : Nat) (v : Value) (n : Nat) (x : Except Int (Nat × Nat)) (w : World) (e : Ending) (w' : World) : Prop :=
  Kept (Kone D) w w' ∧ match x with
    | .ok (N, k) => e = .returned (.int .i64 (unzz N)) ∧ Rdr w' D v (n + k)
    | .error c => e = Pan c

set_option maxHeartbeats 1000000 in
theorem int_dec (D n : Nat) (v : Value) (l : List UInt8) (w : World) (h : Rdr w D v n) (hb : Bs w v l) (hl : l.length ≤ 1000000) (hn : n ≤ l.length) :
    Calls Tryz.prog 190 #[.pointer (some ⟨D, 0, none⟩)] w (IntOkD D v n (uintAt l n) w) := by
  have H := Lib.hid h
  have HB := Lib.hid hb
  clear h hb
  cases hx : uintAt l n with
  | error c =>
    have HX := Lib.hid hx
    clear hx
    go_enter Tryz.func190, Tryz.ntmps190
    go_wp2_with fail
    refine (uint_any D n v l w H.out HB.out hl hn).mono ?_
    rintro e w1 ⟨hk1, hm⟩
    rw [HX.out] at hm
    simp only at hm
    subst hm
    exact ⟨rfl, hk1, rfl⟩
  | ok q =>
    obtain ⟨N, k⟩ := q
    have HX := Lib.hid hx
    clear hx
    go_enter Tryz.func190, Tryz.ntmps190
    go_wp2_with fail
    refine (uint_any D n v l w H.out HB.out hl hn).mono ?_
    rintro e w1 ⟨hk1, hm⟩
    rw [HX.out] at hm
    simp only at hm
    obtain ⟨rfl, hr1⟩ := hm
    have HR1 := Lib.hid hr1
    clear hr1
    have hN := (uintAt_ok HX.out).1
    have hz := zigback N hN
    obtain ⟨Z, hZ⟩ : ∃ Z, Z = unzz N := ⟨_, rfl⟩
    rw [← hZ] at hz
    have HZ := Lib.hid hZ
    have HX : Hid (IntOkD D v n (Except.ok (N, k)) w (.returned (.int .i64 Z)) w1) := Lib.hid ⟨hk1, by rw [HZ.out], HR1.out⟩
    clear hZ hN
    go_wp2
    go_ret
    exact HX.out

end Go.Proofs.YtffdaohmalmkfaaGreat
