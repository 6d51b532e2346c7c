/-
  Codec: the plain law: what was written is read, what was read is written so, and a beginning of it is too short. No program in sight.
-/
import Derived.Test.YtdpbpmokmlnleaaCodecS
namespace Go.Proofs.Ytdpbpmokmlnleaa
open Go.RowKit
set_option linter.unusedVariables false

theorem pow7 (i : Nat) : 2 ^ (7 * (i + 1)) = 128 * 2 ^ (7 * i) := by rw [show 7 * (i + 1) = 7 * i + 7 by omega, Nat.pow_add]; omega
theorem ofNat_toNat_lt (n : Nat) (h : n < 256) : (UInt8.ofNat n).toNat = n := by rw [UInt8.toNat_ofNat']; omega

/-- What was read is written so. -/
theorem rdF_one : ∀ (f i N : Nat) (l : List UInt8) (M k : Nat), f + i = 10 → N < 2 ^ (7 * i) → rdF f i N l = .ok (M, k) →
    ∃ Q : Nat, M = N + Q * 2 ^ (7 * i) ∧ i < k ∧ l.take (k - i) = leb Q ∧ (0 < i → Q ≠ 0)
  | 0, i, N, l, M, k, _, _, h => by simp [rdF] at h
  | f + 1, i, N, [], M, k, _, _, h => by simp [rdF] at h
  | f + 1, i, N, c :: r, M, k, hf, hN, h => by
    have hM := rdF_ok (f + 1) i N (c :: r) M k hf hN h
    have h5 := pow7 i
    have c256 : c.toNat < 256 := c.toNat_lt
    simp only [rdF] at h
    split at h
    · rename_i h1
      have h4 : (c.toNat - 128) * 2 ^ (7 * i) ≤ 127 * 2 ^ (7 * i) := Nat.mul_le_mul_right _ (by omega)
      obtain ⟨Q, q1, q2, q3, q4⟩ := rdF_one f (i + 1) _ r M k (by omega) (by omega) h
      have hQ := q4 (by omega)
      have e2 : (128 * Q + (c.toNat - 128)) * 2 ^ (7 * i) = (c.toNat - 128) * 2 ^ (7 * i) + Q * 2 ^ (7 * (i + 1)) := by
        rw [h5, Nat.add_mul, Nat.mul_comm 128 Q, Nat.mul_assoc]
        omega
      have hlt : 128 * Q + (c.toNat - 128) < 18446744073709551616 := by
        have h6 : (128 * Q + (c.toNat - 128)) * 1 ≤ (128 * Q + (c.toNat - 128)) * 2 ^ (7 * i) := Nat.mul_le_mul_left _ (Nat.two_pow_pos _)
        have := hM.1
        omega
      refine ⟨128 * Q + (c.toNat - 128), by rw [e2, q1]; omega, by omega, ?_, fun _ => by omega⟩
      rw [show k - i = (k - (i + 1)) + 1 by omega, List.take_succ_cons, q3, leb_step _ (by omega) hlt]
      have e3 : (128 * Q + (c.toNat - 128)) % 128 + 128 = c.toNat := by omega
      have e4 : (128 * Q + (c.toNat - 128)) / 128 = Q := by omega
      rw [e3, e4, UInt8.ofNat_toNat]
    · rename_i h1
      split at h
      · cases h
      · rename_i h2
        simp only [Except.ok.injEq, Prod.mk.injEq] at h
        obtain ⟨rfl, rfl⟩ := h
        refine ⟨c.toNat, rfl, by omega, ?_, fun h => by omega⟩
        rw [show i + 1 - i = 1 by omega, leb_small _ (by omega), UInt8.ofNat_toNat]
        rfl
theorem uint_one {l : List UInt8} {N k : Nat} (h : uintAt l 0 = .ok (N, k)) : l.take k = leb N := by
  obtain ⟨Q, q1, q2, q3, -⟩ := rdF_one 10 0 0 (l.drop 0) N k rfl (by decide) h
  have : N = Q := by omega
  subst this
  simpa using q3

/-- What was written is read. -/
theorem rdF_ret : ∀ (f i N Q : Nat) (r : List UInt8), f + i = 10 → i ≤ 9 → (0 < i → Q ≠ 0) → Q * 2 ^ (7 * i) < 18446744073709551616 → rdF f i N (leb Q ++ r) = .ok (N + Q * 2 ^ (7 * i), i + (leb Q).length)
  | 0, i, N, Q, r, hf, hi, _, _ => by omega
  | f + 1, i, N, Q, r, hf, hi, h0, hQ => by
    have hQ64 : Q < 18446744073709551616 := by
      have h6 : Q * 1 ≤ Q * 2 ^ (7 * i) := Nat.mul_le_mul_left _ (Nat.two_pow_pos _)
      omega
    by_cases hs : Q < 128
    · rw [leb_small Q hs]
      simp only [List.cons_append, List.nil_append, rdF, ofNat_toNat_lt Q (by omega)]
      rw [if_neg (by omega), if_neg]
      · simp
      · rintro (⟨h1, h2⟩ | ⟨h1, h2⟩)
        · exact h0 h2 h1
        · subst h2
          have : 2 * 2 ^ (7 * 9) ≤ Q * 2 ^ (7 * 9) := Nat.mul_le_mul_right _ (by omega)
          omega
    · rw [leb_step Q (by omega) hQ64]
      have h5 := pow7 i
      have hi8 : i ≤ 8 := by
        rcases Nat.lt_or_ge i 9 with h | h
        · omega
        · obtain rfl : i = 9 := by omega
          have : 128 * 2 ^ (7 * 9) ≤ Q * 2 ^ (7 * 9) := Nat.mul_le_mul_right _ (by omega)
          omega
      have e1 : Q / 128 * 2 ^ (7 * (i + 1)) ≤ Q * 2 ^ (7 * i) := by
        rw [h5, ← Nat.mul_assoc]
        exact Nat.mul_le_mul_right _ (by omega)
      have ih := rdF_ret f (i + 1) (N + (Q % 128 + 128 - 128) * 2 ^ (7 * i)) (Q / 128) r (by omega) (by omega) (fun _ => by omega) (by omega)
      simp only [List.cons_append, rdF, ofNat_toNat_lt (Q % 128 + 128) (by omega)]
      rw [if_pos (by omega), ih]
      have e2 : N + (Q % 128 + 128 - 128) * 2 ^ (7 * i) + Q / 128 * 2 ^ (7 * (i + 1)) = N + Q * 2 ^ (7 * i) := by
        have e3 : Q % 128 + 128 - 128 + Q / 128 * 128 = Q := by omega
        rw [h5, ← Nat.mul_assoc, Nat.add_assoc, ← Nat.add_mul, e3]
      rw [e2]
      simp only [List.length_cons]
      congr 2
      omega
theorem uint_ret (N : Nat) (r : List UInt8) (h : N < 18446744073709551616) : uintAt (leb N ++ r) 0 = .ok (N, (leb N).length) := by
  have := rdF_ret 10 0 0 N r rfl (by omega) (by omega) (by omega)
  unfold uintAt
  rw [List.drop_zero, this]
  simp

/-- A beginning is too short. -/
theorem rdF_cut : ∀ (f i N Q m : Nat), f + i = 10 → i ≤ 9 → Q * 2 ^ (7 * i) < 18446744073709551616 → m < (leb Q).length → rdF f i N ((leb Q).take m) = .error 20
  | 0, i, N, Q, m, hf, hi, _, _ => by omega
  | f + 1, i, N, Q, 0, hf, hi, hQ, hm => by simp [rdF]
  | f + 1, i, N, Q, m + 1, hf, hi, hQ, hm => by
    have hQ64 : Q < 18446744073709551616 := by
      have h6 : Q * 1 ≤ Q * 2 ^ (7 * i) := Nat.mul_le_mul_left _ (Nat.two_pow_pos _)
      omega
    by_cases hs : Q < 128
    · rw [leb_small Q hs] at hm
      simp at hm
    · rw [leb_step Q (by omega) hQ64] at hm ⊢
      have h5 := pow7 i
      have hi8 : i ≤ 8 := by
        rcases Nat.lt_or_ge i 9 with h | h
        · omega
        · obtain rfl : i = 9 := by omega
          have : 128 * 2 ^ (7 * 9) ≤ Q * 2 ^ (7 * 9) := Nat.mul_le_mul_right _ (by omega)
          omega
      have e1 : Q / 128 * 2 ^ (7 * (i + 1)) ≤ Q * 2 ^ (7 * i) := by
        rw [h5, ← Nat.mul_assoc]
        exact Nat.mul_le_mul_right _ (by omega)
      have ih := rdF_cut f (i + 1) (N + (Q % 128 + 128 - 128) * 2 ^ (7 * i)) (Q / 128) m (by omega) (by omega) (by omega) (by simpa using hm)
      simp only [List.take_succ_cons, rdF, ofNat_toNat_lt (Q % 128 + 128) (by omega)]
      rw [if_pos (by omega), ih]
theorem uint_cut (N m : Nat) (h : N < 18446744073709551616) (hm : m < (leb N).length) : uintAt ((leb N).take m) 0 = .error 20 := by
  unfold uintAt
  rw [List.drop_zero]
  exact rdF_cut 10 0 0 N m rfl (by omega) (by omega) hm

/-- Only what stands from the index on matters. -/
theorem uintAt_drop (l : List UInt8) (n : Nat) : uintAt l n = uintAt (l.drop n) 0 := by unfold uintAt; rw [List.drop_zero]
theorem uintAt_drop2 (l : List UInt8) (n m : Nat) : uintAt (l.drop n) m = uintAt l (n + m) := by unfold uintAt; rw [List.drop_drop]
theorem textAt_drop2 (l : List UInt8) (n m most : Nat) : textAt (l.drop n) m most = textAt l (n + m) most := by
  unfold textAt
  rw [uintAt_drop2]
  cases uintAt l (n + m) with
  | error c => rfl
  | ok p =>
    simp only
    rw [List.drop_drop, List.length_drop, show l.length - n - (m + p.2) = l.length - (n + m + p.2) by omega, show n + (m + p.2) = n + m + p.2 by omega]
theorem valAt_drop2 (l : List UInt8) (n m : Nat) : valAt (l.drop n) m = valAt l (n + m) := by
  unfold valAt
  rw [List.getElem?_drop, List.getElem?_drop, uintAt_drop2, textAt_drop2, ← Nat.add_assoc]
theorem valsAt_drop2 (N : Nat) (l : List UInt8) (n m : Nat) : valsAt N (l.drop n) m = valsAt N l (n + m) := by
  induction N generalizing m with
  | zero => rfl
  | succ N ih =>
    simp only [valsAt]
    rw [valAt_drop2]
    cases valAt l (n + m) with
    | error c => rfl
    | ok p => simp only; rw [ih, Nat.add_assoc]
theorem rowAt_drop (l : List UInt8) (n : Nat) : rowAt l n = rowAt (l.drop n) 0 := by
  unfold rowAt
  rw [uintAt_drop2, Nat.add_zero]
  cases uintAt l n with
  | error c => rfl
  | ok p => simp only; rw [valsAt_drop2, Nat.zero_add]

theorem text_ret (s r : List UInt8) (most : Nat) (h : s.length < 18446744073709551616) (hm : s.length ≤ most) : textAt (leb s.length ++ (s ++ r)) 0 most = .ok (s, (leb s.length).length + s.length) := by
  unfold textAt
  rw [uint_ret _ _ h]
  simp only
  rw [if_neg (by omega), if_neg (by simp only [List.length_append]; omega), Nat.zero_add, List.drop_left, List.take_left]

/-- Where two lists part. -/
theorem take_len_lt {a b : List UInt8} {m : Nat} (h : m ≤ a.length) : (a ++ b).take m = a.take m := by rw [List.take_append_of_le_length h]
theorem take_len_ge {a b : List UInt8} {m : Nat} (h : a.length ≤ m) : (a ++ b).take m = a ++ b.take (m - a.length) := by
  rw [List.take_append, List.take_of_length_le h]

theorem text_cut (s : List UInt8) (most m : Nat) (h : s.length < 18446744073709551616) (hm : s.length ≤ most) (hc : m < (leb s.length).length + s.length) : textAt ((leb s.length ++ s).take m) 0 most = .error 20 := by
  unfold textAt
  by_cases hq : m < (leb s.length).length
  · rw [take_len_lt (by omega), uint_cut _ _ h hq]
  · rw [take_len_ge (by omega), uint_ret _ _ h]
    simp only
    rw [if_neg (by omega), if_pos]
    simp only [List.length_append, List.length_take]
    omega

theorem sbytes_nil (s : ByteArray) (h : s.toList.isEmpty = true) : s = ⟨#[]⟩ := by
  rw [List.isEmpty_iff, Lib.toList_data] at h
  obtain ⟨d⟩ := s
  simp only [ByteArray.mk.injEq]
  exact Array.toList_eq_nil_iff.1 h
theorem empty_ba : (⟨#[]⟩ : ByteArray).toList.isEmpty = true := by rw [Lib.toList_data]; rfl
theorem size_sbytes (s : ByteArray) : s.size = (sbytes s).length := (sbytes_length s).symm
theorem mk_sbytes (s : ByteArray) : (⟨(sbytes s).toArray⟩ : ByteArray) = s := by obtain ⟨d⟩ := s; rfl

/-- What a valid value's bytes are, kind by kind. -/
theorem venc_cases (x : Val) (h : validB x.kind x.n x.s = true) : (x = ⟨1, 0, ⟨#[]⟩⟩ ∧ venc x = [1]) ∨ (x = ⟨2, 0, ⟨#[]⟩⟩ ∧ venc x = [2]) ∨ (∃ b : UInt8, b.toNat ≤ 1 ∧ x = ⟨3, b.toNat, ⟨#[]⟩⟩ ∧ venc x = [3, b]) ∨
    (x.kind = 4 ∧ x.s = ⟨#[]⟩ ∧ venc x = 4 :: leb (zz x.n)) ∨ (x.kind = 5 ∧ x.n = 0 ∧ x.s.size ≤ 64 ∧ venc x = 5 :: (leb x.s.size ++ sbytes x.s)) := by
  obtain ⟨kind, n, s⟩ := x
  simp only [validB] at h ⊢
  by_cases k1 : kind = 1
  · subst k1
    simp at h
    have := sbytes_nil s (by simpa using h.2)
    obtain ⟨h1, -⟩ := h
    subst h1 this
    exact .inl ⟨rfl, rfl⟩
  · rw [if_neg k1] at h
    by_cases k2 : kind = 2
    · subst k2
      simp at h
      have := sbytes_nil s (by simpa using h.2)
      obtain ⟨h1, -⟩ := h
      subst h1 this
      exact .inr (.inl ⟨rfl, rfl⟩)
    · rw [if_neg k2] at h
      by_cases k3 : kind = 3
      · subst k3
        simp at h
        have hs := sbytes_nil s (by simpa using h.2)
        have hn : n = 0 ∨ n = 1 := h.1
        subst hs
        refine .inr (.inr (.inl ⟨UInt8.ofNat n.toNat, by rw [ofNat_toNat_lt _ (by omega)]; omega, ?_, rfl⟩))
        rw [ofNat_toNat_lt _ (by omega)]
        congr 1
        omega
      · rw [if_neg k3] at h
        by_cases k4 : kind = 4
        · subst k4
          rw [if_pos rfl] at h
          exact .inr (.inr (.inr (.inl ⟨rfl, sbytes_nil s h, rfl⟩)))
        · rw [if_neg k4] at h
          by_cases k5 : kind = 5
          · subst k5
            simp at h
            exact .inr (.inr (.inr (.inr ⟨rfl, h.1, h.2, rfl⟩)))
          · rw [if_neg k5] at h
            cases h

theorem cons_drop (c : UInt8) (r : List UInt8) : (c :: r).drop 1 = r := rfl
theorem uintAt_cons (c : UInt8) (r : List UInt8) : uintAt (c :: r) 1 = uintAt r 0 := rfl
theorem textAt_cons (c : UInt8) (r : List UInt8) (most : Nat) : textAt (c :: r) 1 most = textAt r 0 most := by
  have := textAt_drop2 (c :: r) 1 0 most
  exact this.symm

theorem val_ret (x : Val) (r : List UInt8) (h : validB x.kind x.n x.s = true) (hok : okVal x) : valAt (venc x ++ r) 0 = .ok (x, (venc x).length) := by
  rcases venc_cases x h with ⟨rfl, he⟩ | ⟨rfl, he⟩ | ⟨b, hb, rfl, he⟩ | ⟨hk, hs, he⟩ | ⟨hk, hn, hs, he⟩
  · rw [he]; rfl
  · rw [he]; rfl
  · rw [he]
    unfold valAt
    simp only [List.cons_append, List.nil_append, List.getElem?_cons_zero, List.getElem?_cons_succ]
    rw [if_neg (by decide), if_neg (by decide), if_pos (by decide), if_neg (by omega)]
    rfl
  · rw [he]
    unfold valAt
    simp only [List.cons_append, List.getElem?_cons_zero]
    rw [if_neg (by decide), if_neg (by decide), if_neg (by decide), if_pos (by decide), uintAt_cons, uint_ret _ _ (zz_lt _ hok.1 hok.2.1)]
    simp only [unzz_zz]
    obtain ⟨kind, n, s⟩ := x
    simp only at hk hs ⊢
    subst hk hs
    simp only [List.length_cons]
    rw [Nat.add_comm]
  · rw [he]
    unfold valAt
    simp only [List.cons_append, List.getElem?_cons_zero]
    rw [if_neg (by decide), if_neg (by decide), if_neg (by decide), if_neg (by decide), if_pos (by decide), textAt_cons, size_sbytes, List.append_assoc, text_ret _ _ _ (by rw [sbytes_length]; omega) (by rw [sbytes_length]; omega)]
    obtain ⟨kind, n, s⟩ := x
    simp only at hk hn ⊢
    subst hk hn
    simp only [mk_sbytes, List.length_cons, List.length_append]
    rw [Nat.add_comm]

theorem val_cut (x : Val) (m : Nat) (h : validB x.kind x.n x.s = true) (hok : okVal x) (hm : m < (venc x).length) : valAt ((venc x).take m) 0 = .error 20 := by
  rcases m with _ | m
  · rw [List.take_zero]; rfl
  rcases venc_cases x h with ⟨rfl, he⟩ | ⟨rfl, he⟩ | ⟨b, hb, rfl, he⟩ | ⟨hk, hs, he⟩ | ⟨hk, hn, hs, he⟩
  · rw [he] at hm; simp at hm
  · rw [he] at hm; simp at hm
  · rw [he] at hm ⊢
    have : m = 0 := by simp at hm; omega
    subst this
    unfold valAt
    simp only [List.take_succ_cons, List.take_zero, List.getElem?_cons_zero, List.getElem?_cons_succ]
    rw [if_neg (by decide), if_neg (by decide), if_pos (by decide)]
    rfl
  · rw [he] at hm ⊢
    unfold valAt
    simp only [List.take_succ_cons, List.getElem?_cons_zero]
    rw [if_neg (by decide), if_neg (by decide), if_neg (by decide), if_pos (by decide), uintAt_cons, uint_cut _ _ (zz_lt _ hok.1 hok.2.1) (by simpa using hm)]
  · rw [he] at hm ⊢
    unfold valAt
    simp only [List.take_succ_cons, List.getElem?_cons_zero]
    simp only [List.length_cons, List.length_append, sbytes_length] at hm
    rw [if_neg (by decide), if_neg (by decide), if_neg (by decide), if_neg (by decide), if_pos (by decide), textAt_cons, size_sbytes, text_cut _ _ _ (by rw [sbytes_length]; omega) (by rw [sbytes_length]; omega) (by rw [sbytes_length]; omega)]

theorem val_one {l : List UInt8} {x : Val} {k : Nat} (h : valAt l 0 = .ok (x, k)) : validB x.kind x.n x.s = true ∧ okVal x ∧ l.take k = venc x := by
  unfold valAt at h
  cases l with
  | nil => cases h
  | cons c r =>
    have c256 : c.toNat < 256 := c.toNat_lt
    simp only [List.getElem?_cons_zero, List.getElem?_cons_succ, Nat.zero_add] at h
    split at h
    · rename_i hc
      cases h
      refine ⟨by simp [validB, empty_ba], ⟨by decide, by decide, by decide⟩, ?_⟩
      have : c = 1 := UInt8.toNat_inj.1 hc
      subst this; rfl
    · split at h
      · rename_i hc
        cases h
        refine ⟨by simp [validB, empty_ba], ⟨by decide, by decide, by decide⟩, ?_⟩
        have : c = 2 := UInt8.toNat_inj.1 hc
        subst this; rfl
      · split at h
        · rename_i hc
          have : c = 3 := UInt8.toNat_inj.1 hc
          subst this
          cases r with
          | nil => cases h
          | cons b r =>
            simp only [List.getElem?_cons_zero] at h
            split at h
            · cases h
            · rename_i hb
              cases h
              refine ⟨?_, ⟨by simp only; omega, by simp only; omega, Nat.zero_le _⟩, ?_⟩
              · have : (b.toNat : Int) = 0 ∨ (b.toNat : Int) = 1 := by omega
                rcases this with e | e <;> simp [validB, e, empty_ba]
              · simp [venc]
        · split at h
          · rename_i hc
            have : c = 4 := UInt8.toNat_inj.1 hc
            subst this
            rw [uintAt_cons] at h
            cases hx : uintAt r 0 with
            | error e => rw [hx] at h; cases h
            | ok p =>
              rw [hx] at h
              obtain ⟨N, k'⟩ := p
              cases h
              have h1 := (uintAt_ok hx).1
              have h2 := unzz_range N h1
              refine ⟨by simp [validB, empty_ba], ⟨h2.1, h2.2, Nat.zero_le _⟩, ?_⟩
              rw [Nat.add_comm, List.take_succ_cons, uint_one hx]
              simp [venc, zz_unzz]
          · split at h
            · rename_i hc
              have : c = 5 := UInt8.toNat_inj.1 hc
              subst this
              rw [textAt_cons] at h
              cases hx : textAt r 0 64 with
              | error e => rw [hx] at h; cases h
              | ok p =>
                rw [hx] at h
                obtain ⟨b, k'⟩ := p
                cases h
                unfold textAt at hx
                cases hy : uintAt r 0 with
                | error e => rw [hy] at hx; cases hx
                | ok q =>
                  rw [hy] at hx
                  obtain ⟨N, j⟩ := q
                  simp only at hx
                  split at hx
                  · cases hx
                  · split at hx
                    · cases hx
                    · rename_i g1 g2
                      have hj := uintAt_ok hy
                      have hbl : b.length = N ∧ b = (r.drop j).take N ∧ k' = j + N := by
                        cases hx
                        refine ⟨?_, by rw [Nat.zero_add], rfl⟩
                        rw [List.length_take, List.length_drop]; omega
                      obtain ⟨hb1, hb2, hb3⟩ := hbl
                      have hsz : (⟨b.toArray⟩ : ByteArray).size = N := by rw [← hb1]; rfl
                      refine ⟨?_, ⟨by show (-9223372036854775808 : Int) ≤ 0; omega, by show (0 : Int) ≤ 9223372036854775807; omega, by simp only [hsz, maxLen]; omega⟩, ?_⟩
                      · have : validB 5 0 ⟨b.toArray⟩ = ((0 : Int) == 0 && decide ((⟨b.toArray⟩ : ByteArray).size ≤ 64)) := rfl
                        rw [this, hsz]
                        simp; omega
                      · rw [Nat.add_comm, List.take_succ_cons]
                        have : venc ⟨5, 0, ⟨b.toArray⟩⟩ = 5 :: (leb (⟨b.toArray⟩ : ByteArray).size ++ sbytes ⟨b.toArray⟩) := rfl
                        rw [this, hsz, ← uint_one hy, show sbytes ⟨b.toArray⟩ = b from rfl, hb3, hb2]
                        congr 1
                        rw [List.take_add]
            · cases h

theorem vals_ret (xs : List Val) (r : List UInt8) (h : valsOk xs = true) (hok : ∀ x ∈ xs, okVal x) : valsAt xs.length (xs.flatMap venc ++ r) 0 = .ok (xs, (xs.flatMap venc).length) := by
  induction xs with
  | nil => rfl
  | cons x xs ih =>
    simp only [valsOk, List.all_cons, Bool.and_eq_true] at h
    simp only [List.flatMap_cons, List.length_cons, valsAt, List.append_assoc]
    rw [val_ret x _ h.1 (hok x (by simp))]
    simp only
    have hd := valsAt_drop2 xs.length (venc x ++ (xs.flatMap venc ++ r)) (venc x).length 0
    rw [List.drop_left, Nat.add_zero] at hd
    rw [Nat.zero_add, ← hd, ih h.2 (fun y hy => hok y (by simp [hy]))]
    simp

theorem vals_cut (xs : List Val) (m : Nat) (h : valsOk xs = true) (hok : ∀ x ∈ xs, okVal x) (hm : m < (xs.flatMap venc).length) : valsAt xs.length ((xs.flatMap venc).take m) 0 = .error 20 := by
  induction xs generalizing m with
  | nil => simp at hm
  | cons x xs ih =>
    simp only [valsOk, List.all_cons, Bool.and_eq_true] at h
    simp only [List.flatMap_cons, List.length_cons, valsAt, List.length_append] at hm ⊢
    by_cases hq : m < (venc x).length
    · rw [take_len_lt (by omega), val_cut x m h.1 (hok x (by simp)) hq]
    · rw [take_len_ge (by omega), val_ret x _ h.1 (hok x (by simp))]
      simp only
      have hd := valsAt_drop2 xs.length (venc x ++ (xs.flatMap venc).take (m - (venc x).length)) (venc x).length 0
      rw [List.drop_left, Nat.add_zero] at hd
      rw [Nat.zero_add, ← hd, ih (m - (venc x).length) h.2 (fun y hy => hok y (by simp [hy])) (by omega)]

theorem vals_one : ∀ (N : Nat) {l : List UInt8} {xs : List Val} {k : Nat}, valsAt N l 0 = .ok (xs, k) → xs.length = N ∧ valsOk xs = true ∧ (∀ x ∈ xs, okVal x) ∧ l.take k = xs.flatMap venc ∧ k ≤ l.length
  | 0, l, xs, k, h => by cases h; exact ⟨rfl, rfl, (fun x hx => by cases hx), rfl, Nat.zero_le _⟩
  | N + 1, l, xs, k, h => by
    simp only [valsAt] at h
    cases hv : valAt l 0 with
    | error c => rw [hv] at h; cases h
    | ok p =>
      obtain ⟨x, k1⟩ := p
      rw [hv] at h
      simp only at h
      have hd := valsAt_drop2 N l k1 0
      rw [Nat.add_zero] at hd
      rw [Nat.zero_add, ← hd] at h
      cases hw : valsAt N (l.drop k1) 0 with
      | error c => rw [hw] at h; cases h
      | ok q =>
        obtain ⟨ys, k2⟩ := q
        rw [hw] at h
        cases h
        obtain ⟨i1, i2, i3, i4, i5⟩ := vals_one N hw
        obtain ⟨v1, v2, v3⟩ := val_one hv
        have v4 := (valAt_len hv).2
        rw [List.length_drop] at i5
        refine ⟨by simp [i1], ?_, ?_, ?_, by omega⟩
        · simp only [valsOk, List.all_cons, Bool.and_eq_true]
          exact ⟨v1, i2⟩
        · intro y hy
          rcases List.mem_cons.1 hy with rfl | hy
          · exact v2
          · exact i3 y hy
        · rw [List.take_add, v3, i4, List.flatMap_cons]

theorem row_ret (xs : List Val) (r : List UInt8) (h : valsOk xs = true) (hok : ∀ x ∈ xs, okVal x) (h12 : xs.length ≤ 12) : rowAt (renc xs ++ r) 0 = .ok (xs, (renc xs).length) := by
  unfold rowAt renc
  rw [List.append_assoc, uint_ret _ _ (by omega)]
  simp only
  have hd := valsAt_drop2 xs.length (leb xs.length ++ (xs.flatMap venc ++ r)) (leb xs.length).length 0
  rw [List.drop_left, Nat.add_zero] at hd
  rw [if_neg (by omega), Nat.zero_add, ← hd, vals_ret xs r h hok]
  simp

theorem row_cut (xs : List Val) (m : Nat) (h : valsOk xs = true) (hok : ∀ x ∈ xs, okVal x) (h12 : xs.length ≤ 12) (hm : m < (renc xs).length) : rowAt ((renc xs).take m) 0 = .error 20 := by
  unfold rowAt
  unfold renc at hm ⊢
  rw [List.length_append] at hm
  by_cases hq : m < (leb xs.length).length
  · rw [take_len_lt (by omega), uint_cut _ _ (by omega) hq]
  · rw [take_len_ge (by omega), uint_ret _ _ (by omega)]
    simp only
    have hd := valsAt_drop2 xs.length (leb xs.length ++ (xs.flatMap venc).take (m - (leb xs.length).length)) (leb xs.length).length 0
    rw [List.drop_left, Nat.add_zero] at hd
    rw [if_neg (by omega), Nat.zero_add, ← hd, vals_cut xs _ h hok (by omega)]

theorem row_one {l : List UInt8} {xs : List Val} {k : Nat} (h : rowAt l 0 = .ok (xs, k)) : xs.length ≤ 12 ∧ valsOk xs = true ∧ (∀ x ∈ xs, okVal x) ∧ l.take k = renc xs ∧ k ≤ l.length := by
  unfold rowAt at h
  cases hx : uintAt l 0 with
  | error c => rw [hx] at h; cases h
  | ok p =>
    obtain ⟨N, k1⟩ := p
    rw [hx] at h
    simp only at h
    split at h
    · cases h
    · rename_i h12
      have hd := valsAt_drop2 N l k1 0
      rw [Nat.add_zero] at hd
      rw [Nat.zero_add, ← hd] at h
      cases hw : valsAt N (l.drop k1) 0 with
      | error c => rw [hw] at h; cases h
      | ok q =>
        obtain ⟨ys, k2⟩ := q
        rw [hw] at h
        cases h
        obtain ⟨i1, i2, i3, i4, i5⟩ := vals_one N hw
        have hj := uintAt_ok hx
        rw [List.length_drop] at i5
        refine ⟨by omega, i2, i3, ?_, by omega⟩
        unfold renc
        rw [List.take_add, uint_one hx, i4, i1]

end Go.Proofs.Ytdpbpmokmlnleaa
