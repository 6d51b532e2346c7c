/-
  Codec: the plain law: what was written is read, what was read is written so, and a beginning of it is too short. No program in sight.
-/
import Derived.Test.YteoodgcpkgfomaaCodecQ
namespace Go.Proofs.Yteoodgcpkgfomaa
open Go.RowKit
set_option linter.unusedVariables false

theorem pow7 (i : Nat) : 2 ^ (7 * (i + 1)) = 128 * 2 ^ (7 * i) := by rw [show 7 * (i + 1) = 7 * i + 7 by omega, Nat.pow_add]; omega
theorem ofNat_toNat_lt (n : Nat) (h : n < 256) : (UInt8.ofNat n).toNat = n := by rw [UInt8.toNat_ofNat']; omega

/-- What was read is written so. -/
theorem rdF_one : ∀ (f i N : Nat) (l : List UInt8) (M k : Nat), f + i = 10 → N < 2 ^ (7 * i) → rdF f i N l = .ok (M, k) →
    ∃ Q : Nat, M = N + Q * 2 ^ (7 * i) ∧ i < k ∧ l.take (k - i) = leb Q ∧ (0 < i → Q ≠ 0)
  | 0, i, N, l, M, k, _, _, h => by simp [rdF] at h
  | f + 1, i, N, [], M, k, _, _, h => by simp [rdF] at h
  | f + 1, i, N, c :: r, M, k, hf, hN, h => by
    have hM := rdF_ok (f + 1) i N (c :: r) M k hf hN h
    have h5 := pow7 i
    have c256 : c.toNat < 256 := c.toNat_lt
    simp only [rdF] at h
    split at h
    · rename_i h1
      have h4 : (c.toNat - 128) * 2 ^ (7 * i) ≤ 127 * 2 ^ (7 * i) := Nat.mul_le_mul_right _ (by omega)
      obtain ⟨Q, q1, q2, q3, q4⟩ := rdF_one f (i + 1) _ r M k (by omega) (by omega) h
      have hQ := q4 (by omega)
      have e2 : (128 * Q + (c.toNat - 128)) * 2 ^ (7 * i) = (c.toNat - 128) * 2 ^ (7 * i) + Q * 2 ^ (7 * (i + 1)) := by
        rw [h5, Nat.add_mul, Nat.mul_comm 128 Q, Nat.mul_assoc]
        omega
      have hlt : 128 * Q + (c.toNat - 128) < 18446744073709551616 := by
        have h6 : (128 * Q + (c.toNat - 128)) * 1 ≤ (128 * Q + (c.toNat - 128)) * 2 ^ (7 * i) := Nat.mul_le_mul_left _ (Nat.two_pow_pos _)
        have := hM.1
        omega
      refine ⟨128 * Q + (c.toNat - 128), by rw [e2, q1]; omega, by omega, ?_, fun _ => by omega⟩
      rw [show k - i = (k - (i + 1)) + 1 by omega, List.take_succ_cons, q3, leb_step _ (by omega) hlt]
      have e3 : (128 * Q + (c.toNat - 128)) % 128 + 128 = c.toNat := by omega
      have e4 : (128 * Q + (c.toNat - 128)) / 128 = Q := by omega
      rw [e3, e4, UInt8.ofNat_toNat]
    · rename_i h1
      split at h
      · cases h
      · rename_i h2
        simp only [Except.ok.injEq, Prod.mk.injEq] at h
        obtain ⟨rfl, rfl⟩ := h
        refine ⟨c.toNat, rfl, by omega, ?_, fun h => by omega⟩
        rw [show i + 1 - i = 1 by omega, leb_small _ (by omega), UInt8.ofNat_toNat]
        rfl
theorem uint_one {l : List UInt8} {N k : Nat} (h : uintAt l 0 = .ok (N, k)) : l.take k = leb N := by
  obtain ⟨Q, q1, q2, q3, -⟩ := rdF_one 10 0 0 (l.drop 0) N k rfl (by decide) h
  have : N = Q := by omega
  subst this
  simpa using q3

/-- What was written is read. -/
theorem rdF_ret : ∀ (f i N Q : Nat) (r : List UInt8), f + i = 10 → i ≤ 9 → (0 < i → Q ≠ 0) → Q * 2 ^ (7 * i) < 18446744073709551616 → rdF f i N (leb Q ++ r) = .ok (N + Q * 2 ^ (7 * i), i + (leb Q).length)
  | 0, i, N, Q, r, hf, hi, _, _ => by omega
  | f + 1, i, N, Q, r, hf, hi, h0, hQ => by
    have hQ64 : Q < 18446744073709551616 := by
      have h6 : Q * 1 ≤ Q * 2 ^ (7 * i) := Nat.mul_le_mul_left _ (Nat.two_pow_pos _)
      omega
    by_cases hs : Q < 128
    · rw [leb_small Q hs]
      simp only [List.cons_append, List.nil_append, rdF, ofNat_toNat_lt Q (by omega)]
      rw [if_neg (by omega), if_neg]
      · simp
      · rintro (⟨h1, h2⟩ | ⟨h1, h2⟩)
        · exact h0 h2 h1
        · subst h2
          have : 2 * 2 ^ (7 * 9) ≤ Q * 2 ^ (7 * 9) := Nat.mul_le_mul_right _ (by omega)
          omega
    · rw [leb_step Q (by omega) hQ64]
      have h5 := pow7 i
      have hi8 : i ≤ 8 := by
        rcases Nat.lt_or_ge i 9 with h | h
        · omega
        · obtain rfl : i = 9 := by omega
          have : 128 * 2 ^ (7 * 9) ≤ Q * 2 ^ (7 * 9) := Nat.mul_le_mul_right _ (by omega)
          omega
      have e1 : Q / 128 * 2 ^ (7 * (i + 1)) ≤ Q * 2 ^ (7 * i) := by
        rw [h5, ← Nat.mul_assoc]
        exact Nat.mul_le_mul_right _ (by omega)
      have ih := rdF_ret f (i + 1) (N + (Q % 128 + 128 - 128) * 2 ^ (7 * i)) (Q / 128) r (by omega) (by omega) (fun _ => by omega) (by omega)
      simp only [List.cons_append, rdF, ofNat_toNat_lt (Q % 128 + 128) (by omega)]
      rw [if_pos (by omega), ih]
      have e2 : N + (Q % 128 + 128 - 128) * 2 ^ (7 * i) + Q / 128 * 2 ^ (7 * (i + 1)) = N + Q * 2 ^ (7 * i) := by
        have e3 : Q % 128 + 128 - 128 + Q / 128 * 128 = Q := by omega
        rw [h5, ← Nat.mul_assoc, Nat.add_assoc, ← Nat.add_mul, e3]
      rw [e2]
      simp only [List.length_cons]
      congr 2
      omega
theorem uint_ret (N : Nat) (r : List UInt8) (h : N < 18446744073709551616) : uintAt (leb N ++ r) 0 = .ok (N, (leb N).length) := by
  have := rdF_ret 10 0 0 N r rfl (by omega) (by omega) (by omega)
  unfold uintAt
  rw [List.drop_zero, this]
  simp

/-- A beginning is too short. -/
theorem rdF_cut : ∀ (f i N Q m : Nat), f + i = 10 → i ≤ 9 → Q * 2 ^ (7 * i) < 18446744073709551616 → m < (leb Q).length → rdF f i N ((leb Q).take m) = .error 20
  | 0, i, N, Q, m, hf, hi, _, _ => by omega
  | f + 1, i, N, Q, 0, hf, hi, hQ, hm => by simp [rdF]
  | f + 1, i, N, Q, m + 1, hf, hi, hQ, hm => by
    have hQ64 : Q < 18446744073709551616 := by
      have h6 : Q * 1 ≤ Q * 2 ^ (7 * i) := Nat.mul_le_mul_left _ (Nat.two_pow_pos _)
      omega
    by_cases hs : Q < 128
    · rw [leb_small Q hs] at hm
      simp at hm
    · rw [leb_step Q (by omega) hQ64] at hm ⊢
      have h5 := pow7 i
      have hi8 : i ≤ 8 := by
        rcases Nat.lt_or_ge i 9 with h | h
        · omega
        · obtain rfl : i = 9 := by omega
          have : 128 * 2 ^ (7 * 9) ≤ Q * 2 ^ (7 * 9) := Nat.mul_le_mul_right _ (by omega)
          omega
      have e1 : Q / 128 * 2 ^ (7 * (i + 1)) ≤ Q * 2 ^ (7 * i) := by
        rw [h5, ← Nat.mul_assoc]
        exact Nat.mul_le_mul_right _ (by omega)
      have ih := rdF_cut f (i + 1) (N + (Q % 128 + 128 - 128) * 2 ^ (7 * i)) (Q / 128) m (by omega) (by omega) (by omega) (by simpa using hm)
      simp only [List.take_succ_cons, rdF, ofNat_toNat_lt (Q % 128 + 128) (by omega)]
      rw [if_pos (by omega), ih]
theorem uint_cut (N m : Nat) (h : N < 18446744073709551616) (hm : m < (leb N).length) : uintAt ((leb N).take m) 0 = .error 20 := by
  unfold uintAt
  rw [List.drop_zero]
  exact rdF_cut 10 0 0 N m rfl (by omega) (by omega) hm

/-- Only what stands from the index on matters. -/
theorem uintAt_drop (l : List UInt8) (n : Nat) : uintAt l n = uintAt (l.drop n) 0 := by unfold uintAt; rw [List.drop_zero]
theorem uintAt_drop2 (l : List UInt8) (n m : Nat) : uintAt (l.drop n) m = uintAt l (n + m) := by unfold uintAt; rw [List.drop_drop]
theorem textAt_drop2 (l : List UInt8) (n m most : Nat) : textAt (l.drop n) m most = textAt l (n + m) most := by
  unfold textAt
  rw [uintAt_drop2]
  cases uintAt l (n + m) with
  | error c => rfl
  | ok p =>
    simp only
    rw [List.drop_drop, List.length_drop, show l.length - n - (m + p.2) = l.length - (n + m + p.2) by omega, show n + (m + p.2) = n + m + p.2 by omega]
theorem text_ret (s r : List UInt8) (most : Nat) (h : s.length < 18446744073709551616) (hm : s.length ≤ most) : textAt (leb s.length ++ (s ++ r)) 0 most = .ok (s, (leb s.length).length + s.length) := by
  unfold textAt
  rw [uint_ret _ _ h]
  simp only
  rw [if_neg (by omega), if_neg (by simp only [List.length_append]; omega), Nat.zero_add, List.drop_left, List.take_left]

/-- Where two lists part. -/
theorem take_len_lt {a b : List UInt8} {m : Nat} (h : m ≤ a.length) : (a ++ b).take m = a.take m := by rw [List.take_append_of_le_length h]
theorem take_len_ge {a b : List UInt8} {m : Nat} (h : a.length ≤ m) : (a ++ b).take m = a ++ b.take (m - a.length) := by
  rw [List.take_append, List.take_of_length_le h]

theorem text_cut (s : List UInt8) (most m : Nat) (h : s.length < 18446744073709551616) (hm : s.length ≤ most) (hc : m < (leb s.length).length + s.length) : textAt ((leb s.length ++ s).take m) 0 most = .error 20 := by
  unfold textAt
  by_cases hq : m < (leb s.length).length
  · rw [take_len_lt (by omega), uint_cut _ _ h hq]
  · rw [take_len_ge (by omega), uint_ret _ _ h]
    simp only
    rw [if_neg (by omega), if_pos]
    simp only [List.length_append, List.length_take]
    omega

theorem sbytes_nil (s : ByteArray) (h : s.toList.isEmpty = true) : s = ⟨#[]⟩ := by
  rw [List.isEmpty_iff, Lib.toList_data] at h
  obtain ⟨d⟩ := s
  simp only [ByteArray.mk.injEq]
  exact Array.toList_eq_nil_iff.1 h
theorem empty_ba : (⟨#[]⟩ : ByteArray).toList.isEmpty = true := by rw [Lib.toList_data]; rfl
theorem size_sbytes (s : ByteArray) : s.size = (sbytes s).length := (sbytes_length s).symm
theorem mk_sbytes (s : ByteArray) : (⟨(sbytes s).toArray⟩ : ByteArray) = s := by obtain ⟨d⟩ := s; rfl

theorem cons_drop (c : UInt8) (r : List UInt8) : (c :: r).drop 1 = r := rfl
theorem uintAt_cons (c : UInt8) (r : List UInt8) : uintAt (c :: r) 1 = uintAt r 0 := rfl
theorem textAt_cons (c : UInt8) (r : List UInt8) (most : Nat) : textAt (c :: r) 1 most = textAt r 0 most := by
  have := textAt_drop2 (c :: r) 1 0 most
  exact this.symm

end Go.Proofs.Yteoodgcpkgfomaa
