/-
  Journal: the plain law: frames of records, how a file is read back, what is torn. No program in sight.
-/
import Derived.Test.YteoodgcpkgfomaaCodecW
namespace Go.Proofs.Yteoodgcpkgfomaa
open Go.RowKit
set_option linter.unusedVariables false

/-- A record as the file holds it. -/
def frame (b : List UInt8) : List UInt8 := leb b.length ++ b
def frames (rs : List (List UInt8)) : List UInt8 := rs.flatMap frame
/-- The index behind each record. -/
def endsFrom : Nat → List (List UInt8) → List Nat
  | _, [] => []
  | n, r :: rs => (n + (frame r).length) :: endsFrom (n + (frame r).length) rs
/-- Records that are short enough. -/
def Short (rs : List (List UInt8)) : Prop := ∀ r ∈ rs, r.length ≤ 1048576

theorem frames_nil : frames [] = [] := rfl
theorem frames_cons (r : List UInt8) (rs : List (List UInt8)) : frames (r :: rs) = frame r ++ frames rs := rfl
theorem frames_append (rs ts : List (List UInt8)) : frames (rs ++ ts) = frames rs ++ frames ts := by simp [frames]
theorem frames_snoc (rs : List (List UInt8)) (r : List UInt8) : frames (rs ++ [r]) = frames rs ++ frame r := by simp [frames]
theorem frame_length (b : List UInt8) : (frame b).length = (leb b.length).length + b.length := by simp [frame]
theorem frame_pos (b : List UInt8) : 0 < (frame b).length := by have := (leb_length b.length).1; rw [frame_length]; omega
theorem ends_length (n : Nat) (rs : List (List UInt8)) : (endsFrom n rs).length = rs.length := by
  induction rs generalizing n with
  | nil => rfl
  | cons r rs ih => simp [endsFrom, ih]
theorem ends_append (n : Nat) (rs ts : List (List UInt8)) : endsFrom n (rs ++ ts) = endsFrom n rs ++ endsFrom (n + (frames rs).length) ts := by
  induction rs generalizing n with
  | nil => simp [endsFrom, frames]
  | cons r rs ih => simp [endsFrom, ih, frames_cons, Nat.add_assoc]
theorem ends_snoc (rs : List (List UInt8)) (r : List UInt8) : endsFrom 0 (rs ++ [r]) = endsFrom 0 rs ++ [(frames rs).length + (frame r).length] := by
  rw [ends_append]; simp [endsFrom]
theorem ends_take (n k : Nat) (rs : List (List UInt8)) : (endsFrom n rs).take k = endsFrom n (rs.take k) := by
  induction rs generalizing n k with
  | nil => simp [endsFrom]
  | cons r rs ih =>
    cases k with
    | zero => simp [endsFrom]
    | succ k => simp [endsFrom, ih]
theorem ends_at (n k : Nat) (rs : List (List UInt8)) (h : k < rs.length) : (endsFrom n rs)[k]? = some (n + (frames (rs.take (k + 1))).length) := by
  induction rs generalizing n k with
  | nil => simp at h
  | cons r rs ih =>
    cases k with
    | zero => simp [endsFrom, frames]
    | succ k =>
      simp only [endsFrom, List.getElem?_cons_succ, List.take_succ_cons]
      rw [ih _ k (by simpa using h), frames_cons, List.length_append, Nat.add_assoc]
theorem frames_take_le (rs : List (List UInt8)) (k : Nat) : (frames (rs.take k)).length ≤ (frames rs).length := by
  have h : frames rs = frames (rs.take k) ++ frames (rs.drop k) := by rw [← frames_append, List.take_append_drop]
  rw [h, List.length_append]; omega
theorem frames_take (rs : List (List UInt8)) (k : Nat) : (frames rs).take (frames (rs.take k)).length = frames (rs.take k) := by
  have h : frames rs = frames (rs.take k) ++ frames (rs.drop k) := by rw [← frames_append, List.take_append_drop]
  rw [h, List.take_left]
theorem Short.take {rs : List (List UInt8)} (h : Short rs) (k : Nat) : Short (rs.take k) := fun r hr => h r (List.mem_of_mem_take hr)
theorem Short.append {rs ts : List (List UInt8)} (h : Short rs) (h2 : Short ts) : Short (rs ++ ts) := fun r hr => by
  rcases List.mem_append.1 hr with h3 | h3
  · exact h r h3
  · exact h2 r h3
theorem Short.one {r : List UInt8} (h : r.length ≤ 1048576) : Short [r] := fun x hx => by rw [List.mem_singleton.1 hx]; exact h

/-- How a file is read: the whole records, how many bytes they have, and why the reading ends (0: at the end). -/
def scanS : Nat → List UInt8 → List (List UInt8) × Nat × Int
  | 0, _ => ([], 0, 0)
  | _ + 1, [] => ([], 0, 0)
  | f + 1, c :: s => match textAt (c :: s) 0 1048576 with
    | .error e => ([], 0, e)
    | .ok (b, k) => (b :: (scanS f ((c :: s).drop k)).1, k + (scanS f ((c :: s).drop k)).2.1, (scanS f ((c :: s).drop k)).2.2)
def scan (l : List UInt8) : List (List UInt8) × Nat × Int := scanS (l.length + 1) l

theorem text_one {l : List UInt8} {b : List UInt8} {k most : Nat} (h : textAt l 0 most = .ok (b, k)) : k = (frame b).length ∧ l.take k = frame b ∧ b.length ≤ most ∧ k ≤ l.length := by
  unfold textAt at h
  cases hu : uintAt l 0 with
  | error c => rw [hu] at h; cases h
  | ok p =>
    obtain ⟨N, j⟩ := p
    rw [hu] at h
    simp only at h
    have h1 := uint_one hu
    obtain ⟨h2, h3, h4, h5⟩ := uintAt_ok hu
    split at h
    · cases h
    · rename_i hm
      split at h
      · cases h
      · rename_i hl
        simp only [Except.ok.injEq, Prod.mk.injEq, Nat.zero_add] at h hl
        obtain ⟨rfl, rfl⟩ := h
        have e1 : ((l.drop j).take N).length = N := by rw [List.length_take, List.length_drop]; omega
        have e2 : (leb N).length = j := by rw [← h1, List.length_take]; omega
        refine ⟨by rw [frame_length, e1, e2], ?_, by rw [e1]; omega, by omega⟩
        rw [frame, e1, ← h1, List.take_add]

theorem scanS_fuel (f g : Nat) (s : List UInt8) (hf : s.length < f) (hg : s.length < g) : scanS f s = scanS g s := by
  induction f generalizing g s with
  | zero => omega
  | succ f ih =>
    obtain ⟨g, rfl⟩ : ∃ g', g = g' + 1 := ⟨g - 1, by omega⟩
    cases s with
    | nil => rfl
    | cons c s =>
      simp only [scanS]
      cases ht : textAt (c :: s) 0 1048576 with
      | error e => rfl
      | ok p =>
        obtain ⟨b, k⟩ := p
        obtain ⟨h1, -, -, h4⟩ := text_one ht
        have := frame_pos b
        simp only
        rw [ih g ((c :: s).drop k) (by rw [List.length_drop]; simp only [List.length_cons] at *; omega) (by rw [List.length_drop]; simp only [List.length_cons] at *; omega)]
theorem scan_nil : scan [] = ([], 0, 0) := rfl
theorem scan_err {s : List UInt8} {e : Int} (h0 : 0 < s.length) (h : textAt s 0 1048576 = .error e) : scan s = ([], 0, e) := by
  cases s with
  | nil => simp at h0
  | cons c s => simp only [scan, scanS, h]
theorem scan_ok {s : List UInt8} {b : List UInt8} {k : Nat} (h0 : 0 < s.length) (h : textAt s 0 1048576 = .ok (b, k)) : scan s = (b :: (scan (s.drop k)).1, k + (scan (s.drop k)).2.1, (scan (s.drop k)).2.2) := by
  cases s with
  | nil => simp at h0
  | cons c s =>
    obtain ⟨h1, -, -, h4⟩ := text_one h
    have := frame_pos b
    have e : scanS ((c :: s).length) ((c :: s).drop k) = scan ((c :: s).drop k) := scanS_fuel _ _ _ (by rw [List.length_drop]; simp only [List.length_cons] at *; omega) (by omega)
    rw [← e]
    simp only [scan, List.length_cons, scanS, h]

/-- What is behind the whole records begins a record. -/
def unfin (l : List UInt8) (n : Nat) : Bool := match uintAt l n with
  | .ok _ => true
  | .error _ => decide (l.length - n ≤ 2)
theorem unfin_drop (l : List UInt8) (a b : Nat) : unfin (l.drop a) b = unfin l (a + b) := by
  unfold unfin
  rw [uintAt_drop2, List.length_drop, Nat.sub_sub]
theorem textAt_at (l : List UInt8) (n most : Nat) : textAt l n most = textAt (l.drop n) 0 most := (textAt_drop2 l n 0 most).symm

theorem leb_short (n : Nat) (h : n ≤ 1048576) : (leb n).length ≤ 3 := by
  by_cases h1 : n < 128
  · rw [leb_small n h1]; simp
  · rw [leb_step n (by omega) (by omega), List.length_cons]
    by_cases h2 : n / 128 < 128
    · rw [leb_small _ h2]; simp
    · rw [leb_step _ (by omega) (by omega), List.length_cons]
      rw [leb_small _ (by omega)]; simp

/-- What was read, whatever the bytes. -/
theorem scan_any (s : List UInt8) : (scan s).2.1 = (frames (scan s).1).length ∧ s.take (scan s).2.1 = frames (scan s).1 ∧ Short (scan s).1 ∧ (scan s).2.1 ≤ s.length ∧ ((scan s).2.2 = 0 → (scan s).2.1 = s.length) := by
  generalize hn : s.length = n
  induction n using Nat.strongRecOn generalizing s with
  | _ n ih =>
    rcases Nat.eq_zero_or_pos s.length with h0 | h0
    · have : s = [] := List.eq_nil_of_length_eq_zero h0
      subst this
      rw [scan_nil]
      exact ⟨rfl, rfl, fun r hr => by simp at hr, by simp, fun _ => by simpa using hn⟩
    · cases ht : textAt s 0 1048576 with
      | error e =>
        rw [scan_err h0 ht]
        refine ⟨rfl, rfl, fun r hr => by simp at hr, by simp, fun h => ?_⟩
        simp only at h
        subst h
        exfalso
        unfold textAt at ht
        cases hu : uintAt s 0 with
        | error c =>
          rw [hu] at ht
          simp only [Except.error.injEq] at ht
          subst ht
          exact rdF_err0 _ _ _ _ hu
        | ok p =>
          obtain ⟨N, j⟩ := p
          rw [hu] at ht
          simp only at ht
          split at ht
          · cases ht
          · split at ht <;> cases ht
      | ok p =>
        obtain ⟨b, k⟩ := p
        obtain ⟨h1, h2, h3, h4⟩ := text_one ht
        have hp := frame_pos b
        rw [scan_ok h0 ht]
        obtain ⟨i1, i2, i3, i4, i5⟩ := ih (s.drop k).length (by rw [List.length_drop]; omega) (s.drop k) rfl
        rw [List.length_drop] at i4 i5
        refine ⟨?_, ?_, ?_, ?_, fun h => ?_⟩
        · simp only [frames_cons, List.length_append]; omega
        · simp only [frames_cons]
          rw [List.take_add, h2, i2]
        · intro r hr
          rcases List.mem_cons.1 hr with rfl | hr
          · exact h3
          · exact i3 r hr
        · simp only; omega
        · have := i5 h; simp only; omega
where
  rdF_err0 : ∀ (f i N : Nat) (l : List UInt8), rdF f i N l = .error 0 → False
    | 0, i, N, l, h => by simp [rdF] at h
    | f + 1, i, N, [], h => by simp [rdF] at h
    | f + 1, i, N, c :: r, h => by
      simp only [rdF] at h
      split at h
      · exact rdF_err0 f _ _ r h
      · split at h <;> cases h

/-- A beginning of frames: the whole records come back, and what is behind them begins a record. -/
def Cut (L : List (List UInt8)) (s : List UInt8) (k : Nat) : Prop :=
  k ≤ L.length ∧ (scan s).1 = L.take k ∧ (scan s).2.1 = (frames (L.take k)).length ∧
    (((scan s).2.2 = 0 ∧ (scan s).2.1 = s.length) ∨ ((scan s).2.2 = 20 ∧ (scan s).2.1 < s.length ∧ unfin s (scan s).2.1 = true)) ∧
    (frames (L.take k)).length ≤ s.length ∧ (k < L.length → s.length < (frames (L.take (k + 1))).length)

theorem scan_cut (L : List (List UInt8)) (m : Nat) (hL : Short L) (hm : m ≤ (frames L).length) : ∃ k, Cut L ((frames L).take m) k := by
  induction L generalizing m with
  | nil =>
    have : m = 0 := by simpa [frames] using hm
    subst this
    exact ⟨0, by simp, rfl, rfl, .inl ⟨rfl, rfl⟩, by simp [frames], by simp⟩
  | cons r L ih =>
    have hr : r.length ≤ 1048576 := hL r (List.mem_cons_self ..)
    have hL' : Short L := fun x hx => hL x (List.mem_cons_of_mem _ hx)
    have hp := frame_pos r
    rw [frames_cons, List.length_append] at hm
    have hlen : ((frames (r :: L)).take m).length = m := by rw [List.length_take, frames_cons, List.length_append]; omega
    by_cases hlt : m < (frame r).length
    · refine ⟨0, by simp, ?_⟩
      have e1 : (frames (r :: L)).take m = (frame r).take m := by rw [frames_cons, List.take_append_of_le_length (by omega)]
      rw [e1] at hlen ⊢
      have hl1 : 0 < (r :: L).length → m < (frames ((r :: L).take (0 + 1))).length := fun _ => by simp [frames]; exact hlt
      rcases Nat.eq_zero_or_pos m with h0 | h0
      · subst h0
        rw [List.take_zero, scan_nil]
        exact ⟨rfl, rfl, .inl ⟨rfl, rfl⟩, Nat.le_refl _, fun h => hl1 (by simp)⟩
      · have ht := text_cut r 1048576 m (by omega) hr (by rw [← frame_length]; exact hlt)
        rw [show leb r.length ++ r = frame r from rfl] at ht
        have hu : unfin ((frame r).take m) 0 = true := by
          unfold unfin
          by_cases hm2 : m < (leb r.length).length
          · have e3 : (frame r).take m = (leb r.length).take m := by rw [frame, List.take_append_of_le_length (by omega)]
            rw [e3, uint_cut r.length m (by omega) hm2]
            have := leb_short r.length hr
            simp only [List.length_take, decide_eq_true_eq]
            omega
          · have e3 : (frame r).take m = leb r.length ++ r.take (m - (leb r.length).length) := by rw [frame, take_len_ge (by omega)]
            rw [e3, uint_ret r.length _ (by omega)]
        rw [scan_err (by omega) ht, hlen]
        exact ⟨rfl, rfl, .inr ⟨rfl, h0, hu⟩, by simp [frames], fun h => hl1 (by simp)⟩
    · obtain ⟨k, k1, k2, k3, k4, k5, k6⟩ := ih (m - (frame r).length) hL' (by omega)
      have e1 : (frames (r :: L)).take m = leb r.length ++ (r ++ (frames L).take (m - (frame r).length)) := by
        rw [frames_cons, take_len_ge (by omega), frame, List.append_assoc]
      have ht := text_ret r ((frames L).take (m - (frame r).length)) 1048576 (by omega) hr
      rw [← e1, ← frame_length] at ht
      have e2 : ((frames (r :: L)).take m).drop (frame r).length = (frames L).take (m - (frame r).length) := by
        rw [e1, ← List.append_assoc]
        exact List.drop_left
      have hl2 : ((frames L).take (m - (frame r).length)).length = m - (frame r).length := by rw [List.length_take]; omega
      have hs := scan_ok (by rw [hlen]; omega) ht
      rw [e2] at hs
      have hun : ∀ x, unfin ((frames (r :: L)).take m) ((frame r).length + x) = unfin ((frames L).take (m - (frame r).length)) x := fun x => by rw [← unfin_drop, e2]
      have hk2 : (frames ((r :: L).take (k + 1))).length = (frame r).length + (frames (L.take k)).length := by rw [List.take_succ_cons, frames_cons, List.length_append]
      refine ⟨k + 1, by simp; omega, ?_, ?_, ?_, ?_, fun h => ?_⟩
      · rw [hs, List.take_succ_cons, k2]
      · rw [hs, hk2, ← k3]
      · rw [hs, hlen]
        simp only
        rw [hun]
        rcases k4 with ⟨a, b⟩ | ⟨a, b, c⟩
        · exact .inl ⟨a, by omega⟩
        · exact .inr ⟨a, by omega, c⟩
      · rw [hlen, hk2]; omega
      · have := k6 (by simpa using h)
        rw [hlen, List.take_succ_cons, frames_cons, List.length_append]
        omega

theorem frames_take_lt (L : List (List UInt8)) (k : Nat) (h : k < L.length) : (frames (L.take k)).length < (frames (L.take (k + 1))).length := by
  have e : L.take (k + 1) = L.take k ++ [L[k]] := by rw [List.take_add_one, List.getElem?_eq_getElem h]; rfl
  have := frame_pos L[k]
  rw [e, frames_snoc, List.length_append]; omega
theorem scan_frames (L : List (List UInt8)) (hL : Short L) : scan (frames L) = (L, (frames L).length, 0) := by
  obtain ⟨k, k1, k2, k3, k4, k5, k6⟩ := scan_cut L (frames L).length hL (Nat.le_refl _)
  rw [List.take_length] at *
  have hk : k = L.length := by
    rcases Nat.lt_or_ge k L.length with h | h
    · have h1 := k6 h
      have h2 := frames_take_le L (k + 1)
      omega
    · omega
  subst hk
  rw [List.take_length] at k2 k3
  rcases k4 with ⟨a, b⟩ | ⟨a, b, c⟩
  · ext1 <;> simp_all
    ext1 <;> simp_all
  · omega
/-- The whole frames within the first m bytes. -/
theorem cut_unique {L : List (List UInt8)} {s : List UInt8} {k j : Nat} (h : Cut L s k) (hj : j ≤ L.length) (h1 : (frames (L.take j)).length ≤ s.length) (h2 : j < L.length → s.length < (frames (L.take (j + 1))).length) : k = j := by
  obtain ⟨k1, -, -, -, k5, k6⟩ := h
  have mono : ∀ a b, a ≤ b → (frames (L.take a)).length ≤ (frames (L.take b)).length := fun a b hab => by
    have := frames_take_le (L.take b) a
    rw [List.take_take, Nat.min_eq_left hab] at this
    exact this
  rcases Nat.lt_trichotomy k j with h | h | h
  · have a := k6 (by omega)
    have b := mono (k + 1) j h
    omega
  · exact h
  · have a := h2 (by omega)
    have b := mono (j + 1) k h
    omega

/-- The reference's word for it. -/
def possB (s : List UInt8) : Bool := match s with
  | a :: b :: c :: _ => decide (a.toNat < 128 ∨ b.toNat < 128 ∨ c.toNat < 128)
  | _ => true

theorem rdF_20 : ∀ (f i N : Nat) (l : List UInt8), rdF f i N l = .error 20 → ∀ c ∈ l, 128 ≤ c.toNat
  | 0, i, N, l, h => by simp [rdF] at h
  | f + 1, i, N, [], h => by simp
  | f + 1, i, N, c :: r, h => by
    simp only [rdF] at h
    split at h
    · rename_i h1
      intro x hx
      rcases List.mem_cons.1 hx with rfl | hx
      · exact h1
      · exact rdF_20 f _ _ r h x hx
    · split at h <;> cases h
theorem rdF_last : ∀ (f i N : Nat) (l : List UInt8) (M k : Nat), rdF f i N l = .ok (M, k) → i < k ∧ ∃ c, l[k - i - 1]? = some c ∧ c.toNat < 128
  | 0, i, N, l, M, k, h => by simp [rdF] at h
  | f + 1, i, N, [], M, k, h => by simp [rdF] at h
  | f + 1, i, N, c :: r, M, k, h => by
    simp only [rdF] at h
    split at h
    · obtain ⟨h1, d, h2, h3⟩ := rdF_last f _ _ r M k h
      refine ⟨by omega, d, ?_, h3⟩
      rw [show k - i - 1 = (k - (i + 1) - 1) + 1 by omega, List.getElem?_cons_succ]
      exact h2
    · split at h
      · cases h
      · rename_i h1 h2
        simp only [Except.ok.injEq, Prod.mk.injEq] at h
        obtain ⟨rfl, rfl⟩ := h
        refine ⟨by omega, c, ?_, by omega⟩
        rw [show i + 1 - i - 1 = 0 by omega]
        rfl

/-- The two words for 'torn' agree. -/
theorem torn_same {s : List UInt8} (h : textAt s 0 1048576 = .error 20) : unfin s 0 = possB s := by
  unfold textAt at h
  unfold unfin
  cases hu : uintAt s 0 with
  | error c =>
    rw [hu] at h
    simp only [Except.error.injEq] at h
    subst h
    have h1 := rdF_20 _ _ _ _ hu
    simp only [List.drop_zero, Nat.sub_zero] at h1 ⊢
    match s, h1 with
    | [], _ => rfl
    | [a], _ => rfl
    | [a, b], _ => rfl
    | a :: b :: c :: r, h1 =>
      have ha := h1 a (by simp)
      have hb := h1 b (by simp)
      have hc := h1 c (by simp)
      simp only [possB, List.length_cons]
      rw [decide_eq_false (by omega), decide_eq_false (by omega)]
  | ok p =>
    obtain ⟨N, k⟩ := p
    rw [hu] at h
    simp only at h ⊢
    split at h
    · cases h
    · rename_i hN
      obtain ⟨h1, c, h2, h3⟩ := rdF_last _ _ _ _ _ _ hu
      have h4 := uint_one hu
      have h5 := leb_short N (by omega)
      obtain ⟨-, -, -, h6⟩ := uintAt_ok hu
      have h7 : k = (leb N).length := by rw [← h4, List.length_take]; omega
      simp only [List.drop_zero, Nat.sub_zero] at h2
      match s, h2 with
      | [], _ => rfl
      | [a], _ => rfl
      | [a, b], _ => rfl
      | x :: y :: z :: r, h2 =>
        simp only [possB]
        have : k = 1 ∨ k = 2 ∨ k = 3 := by omega
        symm
        rw [decide_eq_true_eq]
        rcases this with rfl | rfl | rfl
        · simp at h2; subst h2; omega
        · simp at h2; subst h2; omega
        · simp at h2; subst h2; omega

end Go.Proofs.Yteoodgcpkgfomaa
