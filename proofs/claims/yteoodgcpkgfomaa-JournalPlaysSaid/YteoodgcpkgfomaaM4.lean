/-
  Contracts and plain laws that the claim's theorem rests on, some texts in one file.
-/
import Derived.Test.YteoodgcpkgfomaaM3
import Derived.BigRegion
/-
  Journal: the plain law: frames of records, how a file is read back, what is torn. No program in sight.
-/
namespace Go.Proofs.Yteoodgcpkgfomaa
open Go.RowKit
set_option linter.unusedVariables false

/-- A record as the file holds it. -/
def frame (b : List UInt8) : List UInt8 := leb b.length ++ b
def frames (rs : List (List UInt8)) : List UInt8 := rs.flatMap frame
/-- The index behind each record. -/
def endsFrom : Nat → List (List UInt8) → List Nat
  | _, [] => []
  | n, r :: rs => (n + (frame r).length) :: endsFrom (n + (frame r).length) rs
/-- Records that are short enough. -/
def Short (rs : List (List UInt8)) : Prop := ∀ r ∈ rs, r.length ≤ 1048576

theorem frames_nil : frames [] = [] := rfl
theorem frames_cons (r : List UInt8) (rs : List (List UInt8)) : frames (r :: rs) = frame r ++ frames rs := rfl
theorem frames_append (rs ts : List (List UInt8)) : frames (rs ++ ts) = frames rs ++ frames ts := by simp [frames]
theorem frames_snoc (rs : List (List UInt8)) (r : List UInt8) : frames (rs ++ [r]) = frames rs ++ frame r := by simp [frames]
theorem frame_length (b : List UInt8) : (frame b).length = (leb b.length).length + b.length := by simp [frame]
theorem frame_pos (b : List UInt8) : 0 < (frame b).length := by have := (leb_length b.length).1; rw [frame_length]; omega
theorem ends_length (n : Nat) (rs : List (List UInt8)) : (endsFrom n rs).length = rs.length := by
  induction rs generalizing n with
  | nil => rfl
  | cons r rs ih => simp [endsFrom, ih]
theorem ends_append (n : Nat) (rs ts : List (List UInt8)) : endsFrom n (rs ++ ts) = endsFrom n rs ++ endsFrom (n + (frames rs).length) ts := by
  induction rs generalizing n with
  | nil => simp [endsFrom, frames]
  | cons r rs ih => simp [endsFrom, ih, frames_cons, Nat.add_assoc]
theorem ends_snoc (rs : List (List UInt8)) (r : List UInt8) : endsFrom 0 (rs ++ [r]) = endsFrom 0 rs ++ [(frames rs).length + (frame r).length] := by
  rw [ends_append]; simp [endsFrom]
theorem ends_take (n k : Nat) (rs : List (List UInt8)) : (endsFrom n rs).take k = endsFrom n (rs.take k) := by
  induction rs generalizing n k with
  | nil => simp [endsFrom]
  | cons r rs ih =>
    cases k with
    | zero => simp [endsFrom]
    | succ k => simp [endsFrom, ih]
theorem ends_at (n k : Nat) (rs : List (List UInt8)) (h : k < rs.length) : (endsFrom n rs)[k]? = some (n + (frames (rs.take (k + 1))).length) := by
  induction rs generalizing n k with
  | nil => simp at h
  | cons r rs ih =>
    cases k with
    | zero => simp [endsFrom, frames]
    | succ k =>
      simp only [endsFrom, List.getElem?_cons_succ, List.take_succ_cons]
      rw [ih _ k (by simpa using h), frames_cons, List.length_append, Nat.add_assoc]
theorem frames_take_le (rs : List (List UInt8)) (k : Nat) : (frames (rs.take k)).length ≤ (frames rs).length := by
  have h : frames rs = frames (rs.take k) ++ frames (rs.drop k) := by rw [← frames_append, List.take_append_drop]
  rw [h, List.length_append]; omega
theorem frames_take (rs : List (List UInt8)) (k : Nat) : (frames rs).take (frames (rs.take k)).length = frames (rs.take k) := by
  have h : frames rs = frames (rs.take k) ++ frames (rs.drop k) := by rw [← frames_append, List.take_append_drop]
  rw [h, List.take_left]
theorem Short.take {rs : List (List UInt8)} (h : Short rs) (k : Nat) : Short (rs.take k) := fun r hr => h r (List.mem_of_mem_take hr)
theorem Short.append {rs ts : List (List UInt8)} (h : Short rs) (h2 : Short ts) : Short (rs ++ ts) := fun r hr => by
  rcases List.mem_append.1 hr with h3 | h3
  · exact h r h3
  · exact h2 r h3
theorem Short.one {r : List UInt8} (h : r.length ≤ 1048576) : Short [r] := fun x hx => by rw [List.mem_singleton.1 hx]; exact h

/-- How a file is read: the whole records, how many bytes they have, and why the reading ends (0: at the end). -/
def scanS : Nat → List UInt8 → List (List UInt8) × Nat × Int
  | 0, _ => ([], 0, 0)
  | _ + 1, [] => ([], 0, 0)
  | f + 1, c :: s => match textAt (c :: s) 0 1048576 with
    | .error e => ([], 0, e)
    | .ok (b, k) => (b :: (scanS f ((c :: s).drop k)).1, k + (scanS f ((c :: s).drop k)).2.1, (scanS f ((c :: s).drop k)).2.2)
def scan (l : List UInt8) : List (List UInt8) × Nat × Int := scanS (l.length + 1) l

theorem text_one {l : List UInt8} {b : List UInt8} {k most : Nat} (h : textAt l 0 most = .ok (b, k)) : k = (frame b).length ∧ l.take k = frame b ∧ b.length ≤ most ∧ k ≤ l.length := by
  unfold textAt at h
  cases hu : uintAt l 0 with
  | error c => rw [hu] at h; cases h
  | ok p =>
    obtain ⟨N, j⟩ := p
    rw [hu] at h
    simp only at h
    have h1 := uint_one hu
    obtain ⟨h2, h3, h4, h5⟩ := uintAt_ok hu
    split at h
    · cases h
    · rename_i hm
      split at h
      · cases h
      · rename_i hl
        simp only [Except.ok.injEq, Prod.mk.injEq, Nat.zero_add] at h hl
        obtain ⟨rfl, rfl⟩ := h
        have e1 : ((l.drop j).take N).length = N := by rw [List.length_take, List.length_drop]; omega
        have e2 : (leb N).length = j := by rw [← h1, List.length_take]; omega
        refine ⟨by rw [frame_length, e1, e2], ?_, by rw [e1]; omega, by omega⟩
        rw [frame, e1, ← h1, List.take_add]

theorem scanS_fuel (f g : Nat) (s : List UInt8) (hf : s.length < f) (hg : s.length < g) : scanS f s = scanS g s := by
  induction f generalizing g s with
  | zero => omega
  | succ f ih =>
    obtain ⟨g, rfl⟩ : ∃ g', g = g' + 1 := ⟨g - 1, by omega⟩
    cases s with
    | nil => rfl
    | cons c s =>
      simp only [scanS]
      cases ht : textAt (c :: s) 0 1048576 with
      | error e => rfl
      | ok p =>
        obtain ⟨b, k⟩ := p
        obtain ⟨h1, -, -, h4⟩ := text_one ht
        have := frame_pos b
        simp only
        rw [ih g ((c :: s).drop k) (by rw [List.length_drop]; simp only [List.length_cons] at *; omega) (by rw [List.length_drop]; simp only [List.length_cons] at *; omega)]
theorem scan_nil : scan [] = ([], 0, 0) := rfl
theorem scan_err {s : List UInt8} {e : Int} (h0 : 0 < s.length) (h : textAt s 0 1048576 = .error e) : scan s = ([], 0, e) := by
  cases s with
  | nil => simp at h0
  | cons c s => simp only [scan, scanS, h]
theorem scan_ok {s : List UInt8} {b : List UInt8} {k : Nat} (h0 : 0 < s.length) (h : textAt s 0 1048576 = .ok (b, k)) : scan s = (b :: (scan (s.drop k)).1, k + (scan (s.drop k)).2.1, (scan (s.drop k)).2.2) := by
  cases s with
  | nil => simp at h0
  | cons c s =>
    obtain ⟨h1, -, -, h4⟩ := text_one h
    have := frame_pos b
    have e : scanS ((c :: s).length) ((c :: s).drop k) = scan ((c :: s).drop k) := scanS_fuel _ _ _ (by rw [List.length_drop]; simp only [List.length_cons] at *; omega) (by omega)
    rw [← e]
    simp only [scan, List.length_cons, scanS, h]

/-- What is behind the whole records begins a record. -/
def unfin (l : List UInt8) (n : Nat) : Bool := match uintAt l n with
  | .ok _ => true
  | .error _ => decide (l.length - n ≤ 2)
theorem unfin_drop (l : List UInt8) (a b : Nat) : unfin (l.drop a) b = unfin l (a + b) := by
  unfold unfin
  rw [uintAt_drop2, List.length_drop, Nat.sub_sub]
theorem textAt_at (l : List UInt8) (n most : Nat) : textAt l n most = textAt (l.drop n) 0 most := (textAt_drop2 l n 0 most).symm

theorem leb_short (n : Nat) (h : n ≤ 1048576) : (leb n).length ≤ 3 := by
  by_cases h1 : n < 128
  · rw [leb_small n h1]; simp
  · rw [leb_step n (by omega) (by omega), List.length_cons]
    by_cases h2 : n / 128 < 128
    · rw [leb_small _ h2]; simp
    · rw [leb_step _ (by omega) (by omega), List.length_cons]
      rw [leb_small _ (by omega)]; simp

/-- What was read, whatever the bytes. -/
theorem scan_any (s : List UInt8) : (scan s).2.1 = (frames (scan s).1).length ∧ s.take (scan s).2.1 = frames (scan s).1 ∧ Short (scan s).1 ∧ (scan s).2.1 ≤ s.length ∧ ((scan s).2.2 = 0 → (scan s).2.1 = s.length) := by
  generalize hn : s.length = n
  induction n using Nat.strongRecOn generalizing s with
  | _ n ih =>
    rcases Nat.eq_zero_or_pos s.length with h0 | h0
    · have : s = [] := List.eq_nil_of_length_eq_zero h0
      subst this
      rw [scan_nil]
      exact ⟨rfl, rfl, fun r hr => by simp at hr, by simp, fun _ => by simpa using hn⟩
    · cases ht : textAt s 0 1048576 with
      | error e =>
        rw [scan_err h0 ht]
        refine ⟨rfl, rfl, fun r hr => by simp at hr, by simp, fun h => ?_⟩
        simp only at h
        subst h
        exfalso
        unfold textAt at ht
        cases hu : uintAt s 0 with
        | error c =>
          rw [hu] at ht
          simp only [Except.error.injEq] at ht
          subst ht
          exact rdF_err0 _ _ _ _ hu
        | ok p =>
          obtain ⟨N, j⟩ := p
          rw [hu] at ht
          simp only at ht
          split at ht
          · cases ht
          · split at ht <;> cases ht
      | ok p =>
        obtain ⟨b, k⟩ := p
        obtain ⟨h1, h2, h3, h4⟩ := text_one ht
        have hp := frame_pos b
        rw [scan_ok h0 ht]
        obtain ⟨i1, i2, i3, i4, i5⟩ := ih (s.drop k).length (by rw [List.length_drop]; omega) (s.drop k) rfl
        rw [List.length_drop] at i4 i5
        refine ⟨?_, ?_, ?_, ?_, fun h => ?_⟩
        · simp only [frames_cons, List.length_append]; omega
        · simp only [frames_cons]
          rw [List.take_add, h2, i2]
        · intro r hr
          rcases List.mem_cons.1 hr with rfl | hr
          · exact h3
          · exact i3 r hr
        · simp only; omega
        · have := i5 h; simp only; omega
where
  rdF_err0 : ∀ (f i N : Nat) (l : List UInt8), rdF f i N l = .error 0 → False
    | 0, i, N, l, h => by simp [rdF] at h
    | f + 1, i, N, [], h => by simp [rdF] at h
    | f + 1, i, N, c :: r, h => by
      simp only [rdF] at h
      split at h
      · exact rdF_err0 f _ _ r h
      · split at h <;> cases h

/-- A beginning of frames: the whole records come back, and what is behind them begins a record. -/
def Cut (L : List (List UInt8)) (s : List UInt8) (k : Nat) : Prop :=
  k ≤ L.length ∧ (scan s).1 = L.take k ∧ (scan s).2.1 = (frames (L.take k)).length ∧
    (((scan s).2.2 = 0 ∧ (scan s).2.1 = s.length) ∨ ((scan s).2.2 = 20 ∧ (scan s).2.1 < s.length ∧ unfin s (scan s).2.1 = true)) ∧
    (frames (L.take k)).length ≤ s.length ∧ (k < L.length → s.length < (frames (L.take (k + 1))).length)

theorem scan_cut (L : List (List UInt8)) (m : Nat) (hL : Short L) (hm : m ≤ (frames L).length) : ∃ k, Cut L ((frames L).take m) k := by
  induction L generalizing m with
  | nil =>
    have : m = 0 := by simpa [frames] using hm
    subst this
    exact ⟨0, by simp, rfl, rfl, .inl ⟨rfl, rfl⟩, by simp [frames], by simp⟩
  | cons r L ih =>
    have hr : r.length ≤ 1048576 := hL r (List.mem_cons_self ..)
    have hL' : Short L := fun x hx => hL x (List.mem_cons_of_mem _ hx)
    have hp := frame_pos r
    rw [frames_cons, List.length_append] at hm
    have hlen : ((frames (r :: L)).take m).length = m := by rw [List.length_take, frames_cons, List.length_append]; omega
    by_cases hlt : m < (frame r).length
    · refine ⟨0, by simp, ?_⟩
      have e1 : (frames (r :: L)).take m = (frame r).take m := by rw [frames_cons, List.take_append_of_le_length (by omega)]
      rw [e1] at hlen ⊢
      have hl1 : 0 < (r :: L).length → m < (frames ((r :: L).take (0 + 1))).length := fun _ => by simp [frames]; exact hlt
      rcases Nat.eq_zero_or_pos m with h0 | h0
      · subst h0
        rw [List.take_zero, scan_nil]
        exact ⟨rfl, rfl, .inl ⟨rfl, rfl⟩, Nat.le_refl _, fun h => hl1 (by simp)⟩
      · have ht := text_cut r 1048576 m (by omega) hr (by rw [← frame_length]; exact hlt)
        rw [show leb r.length ++ r = frame r from rfl] at ht
        have hu : unfin ((frame r).take m) 0 = true := by
          unfold unfin
          by_cases hm2 : m < (leb r.length).length
          · have e3 : (frame r).take m = (leb r.length).take m := by rw [frame, List.take_append_of_le_length (by omega)]
            rw [e3, uint_cut r.length m (by omega) hm2]
            have := leb_short r.length hr
            simp only [List.length_take, decide_eq_true_eq]
            omega
          · have e3 : (frame r).take m = leb r.length ++ r.take (m - (leb r.length).length) := by rw [frame, take_len_ge (by omega)]
            rw [e3, uint_ret r.length _ (by omega)]
        rw [scan_err (by omega) ht, hlen]
        exact ⟨rfl, rfl, .inr ⟨rfl, h0, hu⟩, by simp [frames], fun h => hl1 (by simp)⟩
    · obtain ⟨k, k1, k2, k3, k4, k5, k6⟩ := ih (m - (frame r).length) hL' (by omega)
      have e1 : (frames (r :: L)).take m = leb r.length ++ (r ++ (frames L).take (m - (frame r).length)) := by
        rw [frames_cons, take_len_ge (by omega), frame, List.append_assoc]
      have ht := text_ret r ((frames L).take (m - (frame r).length)) 1048576 (by omega) hr
      rw [← e1, ← frame_length] at ht
      have e2 : ((frames (r :: L)).take m).drop (frame r).length = (frames L).take (m - (frame r).length) := by
        rw [e1, ← List.append_assoc]
        exact List.drop_left
      have hl2 : ((frames L).take (m - (frame r).length)).length = m - (frame r).length := by rw [List.length_take]; omega
      have hs := scan_ok (by rw [hlen]; omega) ht
      rw [e2] at hs
      have hun : ∀ x, unfin ((frames (r :: L)).take m) ((frame r).length + x) = unfin ((frames L).take (m - (frame r).length)) x := fun x => by rw [← unfin_drop, e2]
      have hk2 : (frames ((r :: L).take (k + 1))).length = (frame r).length + (frames (L.take k)).length := by rw [List.take_succ_cons, frames_cons, List.length_append]
      refine ⟨k + 1, by simp; omega, ?_, ?_, ?_, ?_, fun h => ?_⟩
      · rw [hs, List.take_succ_cons, k2]
      · rw [hs, hk2, ← k3]
      · rw [hs, hlen]
        simp only
        rw [hun]
        rcases k4 with ⟨a, b⟩ | ⟨a, b, c⟩
        · exact .inl ⟨a, by omega⟩
        · exact .inr ⟨a, by omega, c⟩
      · rw [hlen, hk2]; omega
      · have := k6 (by simpa using h)
        rw [hlen, List.take_succ_cons, frames_cons, List.length_append]
        omega

theorem frames_take_lt (L : List (List UInt8)) (k : Nat) (h : k < L.length) : (frames (L.take k)).length < (frames (L.take (k + 1))).length := by
  have e : L.take (k + 1) = L.take k ++ [L[k]] := by rw [List.take_add_one, List.getElem?_eq_getElem h]; rfl
  have := frame_pos L[k]
  rw [e, frames_snoc, List.length_append]; omega
theorem scan_frames (L : List (List UInt8)) (hL : Short L) : scan (frames L) = (L, (frames L).length, 0) := by
  obtain ⟨k, k1, k2, k3, k4, k5, k6⟩ := scan_cut L (frames L).length hL (Nat.le_refl _)
  rw [List.take_length] at *
  have hk : k = L.length := by
    rcases Nat.lt_or_ge k L.length with h | h
    · have h1 := k6 h
      have h2 := frames_take_le L (k + 1)
      omega
    · omega
  subst hk
  rw [List.take_length] at k2 k3
  rcases k4 with ⟨a, b⟩ | ⟨a, b, c⟩
  · ext1 <;> simp_all
    ext1 <;> simp_all
  · omega
/-- The whole frames within the first m bytes. -/
theorem cut_unique {L : List (List UInt8)} {s : List UInt8} {k j : Nat} (h : Cut L s k) (hj : j ≤ L.length) (h1 : (frames (L.take j)).length ≤ s.length) (h2 : j < L.length → s.length < (frames (L.take (j + 1))).length) : k = j := by
  obtain ⟨k1, -, -, -, k5, k6⟩ := h
  have mono : ∀ a b, a ≤ b → (frames (L.take a)).length ≤ (frames (L.take b)).length := fun a b hab => by
    have := frames_take_le (L.take b) a
    rw [List.take_take, Nat.min_eq_left hab] at this
    exact this
  rcases Nat.lt_trichotomy k j with h | h | h
  · have a := k6 (by omega)
    have b := mono (k + 1) j h
    omega
  · exact h
  · have a := h2 (by omega)
    have b := mono (j + 1) k h
    omega

/-- The reference's word for it. -/
def possB (s : List UInt8) : Bool := match s with
  | a :: b :: c :: _ => decide (a.toNat < 128 ∨ b.toNat < 128 ∨ c.toNat < 128)
  | _ => true

theorem rdF_20 : ∀ (f i N : Nat) (l : List UInt8), rdF f i N l = .error 20 → ∀ c ∈ l, 128 ≤ c.toNat
  | 0, i, N, l, h => by simp [rdF] at h
  | f + 1, i, N, [], h => by simp
  | f + 1, i, N, c :: r, h => by
    simp only [rdF] at h
    split at h
    · rename_i h1
      intro x hx
      rcases List.mem_cons.1 hx with rfl | hx
      · exact h1
      · exact rdF_20 f _ _ r h x hx
    · split at h <;> cases h
theorem rdF_last : ∀ (f i N : Nat) (l : List UInt8) (M k : Nat), rdF f i N l = .ok (M, k) → i < k ∧ ∃ c, l[k - i - 1]? = some c ∧ c.toNat < 128
  | 0, i, N, l, M, k, h => by simp [rdF] at h
  | f + 1, i, N, [], M, k, h => by simp [rdF] at h
  | f + 1, i, N, c :: r, M, k, h => by
    simp only [rdF] at h
    split at h
    · obtain ⟨h1, d, h2, h3⟩ := rdF_last f _ _ r M k h
      refine ⟨by omega, d, ?_, h3⟩
      rw [show k - i - 1 = (k - (i + 1) - 1) + 1 by omega, List.getElem?_cons_succ]
      exact h2
    · split at h
      · cases h
      · rename_i h1 h2
        simp only [Except.ok.injEq, Prod.mk.injEq] at h
        obtain ⟨rfl, rfl⟩ := h
        refine ⟨by omega, c, ?_, by omega⟩
        rw [show i + 1 - i - 1 = 0 by omega]
        rfl

/-- The two words for 'torn' agree. -/
theorem torn_same {s : List UInt8} (h : textAt s 0 1048576 = .error 20) : unfin s 0 = possB s := by
  unfold textAt at h
  unfold unfin
  cases hu : uintAt s 0 with
  | error c =>
    rw [hu] at h
    simp only [Except.error.injEq] at h
    subst h
    have h1 := rdF_20 _ _ _ _ hu
    simp only [List.drop_zero, Nat.sub_zero] at h1 ⊢
    match s, h1 with
    | [], _ => rfl
    | [a], _ => rfl
    | [a, b], _ => rfl
    | a :: b :: c :: r, h1 =>
      have ha := h1 a (by simp)
      have hb := h1 b (by simp)
      have hc := h1 c (by simp)
      simp only [possB, List.length_cons]
      rw [decide_eq_false (by omega), decide_eq_false (by omega)]
  | ok p =>
    obtain ⟨N, k⟩ := p
    rw [hu] at h
    simp only at h ⊢
    split at h
    · cases h
    · rename_i hN
      obtain ⟨h1, c, h2, h3⟩ := rdF_last _ _ _ _ _ _ hu
      have h4 := uint_one hu
      have h5 := leb_short N (by omega)
      obtain ⟨-, -, -, h6⟩ := uintAt_ok hu
      have h7 : k = (leb N).length := by rw [← h4, List.length_take]; omega
      simp only [List.drop_zero, Nat.sub_zero] at h2
      match s, h2 with
      | [], _ => rfl
      | [a], _ => rfl
      | [a, b], _ => rfl
      | x :: y :: z :: r, h2 =>
        simp only [possB]
        have : k = 1 ∨ k = 2 ∨ k = 3 := by omega
        symm
        rw [decide_eq_true_eq]
        rcases this with rfl | rfl | rfl
        · simp at h2; subst h2; omega
        · simp at h2; subst h2; omega
        · simp at h2; subst h2; omega

end Go.Proofs.Yteoodgcpkgfomaa
/-
  Disk: contracts of gate and its closures.
-/
namespace Go.Proofs.Yteoodgcpkgfomaa
open Go.RowKit
set_option linter.unusedVariables false

/-- Function K is entered by a call. -/
def Ent (K : Nat) : Prop := ∀ (args : Array Value) (w : World), (callFunc K args).run Try.prog w = .ok (.enter K args) w

set_option maxHeartbeats 400000 in
theorem gate_free (B K : Nat) (caps : Array Value) (torn : Bool) (w : World) (Q : World → Prop) (hK : Ent K) (h : w.cell? ⟨B, 18, none⟩ = some (.int .i64 0)) 
    (hk : Calls Try.prog K caps w fun e w' => e = .returned (.tuple #[]) ∧ Q w') :
    Calls Try.prog 68 #[.pointer (some ⟨B, 0, none⟩), .bool torn, .func (.func K) #[] caps] w fun e w' => e = .returned (.int .i64 0) ∧ Q w' := by
  have H := Lib.hid hk
  have e1 : ∀ (args : Array Value) (w : World), (callFunc K args).run Try.prog w = .ok (.enter K args) w := hK
  clear hk hK
  go_enter Try.func68, Try.ntmps68
  go_wp2_with fail
  refine H.out.mono ?_
  rintro e w1 ⟨rfl, hq⟩
  go_wp2
  go_ret
  exact ⟨rfl, hq⟩

set_option maxHeartbeats 400000 in
theorem gate_more (B K : Nat) (caps : Array Value) (torn : Bool) (p : Int) (w : World) (Q : World → Prop) (hK : Ent K) (h : w.cell? ⟨B, 18, none⟩ = some (.int .i64 p)) (hf : w.frozen? ⟨B, 18, none⟩ = false) (hp : 1 < p) (hp2 : p ≤ 9223372036854775807)
    (hk : Calls Try.prog K caps (w.setCell ⟨B, 18, none⟩ (.int .i64 (p - 1))) fun e w' => e = .returned (.tuple #[]) ∧ Q w') :
    Calls Try.prog 68 #[.pointer (some ⟨B, 0, none⟩), .bool torn, .func (.func K) #[] caps] w fun e w' => e = .returned (.int .i64 0) ∧ Q w' := by
  have H := Lib.hid hk
  have e1 : ∀ (args : Array Value) (w : World), (callFunc K args).run Try.prog w = .ok (.enter K args) w := hK
  clear hk hK
  have hs : (w.setCell ⟨B, 18, none⟩ (.int .i64 (p - 1))).cell? ⟨B, 18, none⟩ = some (.int .i64 (p - 1)) := World.cell?_setCell_same w _ _ h
  go_enter Try.func68, Try.ntmps68
  go_wp2_with fail
  refine H.out.mono ?_
  rintro e w1 ⟨rfl, hq⟩
  go_wp2
  go_ret
  exact ⟨rfl, hq⟩

set_option maxHeartbeats 400000 in
theorem gate_torn (B K : Nat) (caps : Array Value) (w : World) (Q : World → Prop) (hK : Ent K) (h : w.cell? ⟨B, 18, none⟩ = some (.int .i64 1)) (hf : w.frozen? ⟨B, 18, none⟩ = false) (h2 : w.cell? ⟨B, 17, none⟩ = some (.bool false)) (hf2 : w.frozen? ⟨B, 17, none⟩ = false)
    (hk : Calls Try.prog K caps ((w.setCell ⟨B, 18, none⟩ (.int .i64 0)).setCell ⟨B, 17, none⟩ (.bool true)) fun e w' => e = .returned (.tuple #[]) ∧ Q w') :
    Calls Try.prog 68 #[.pointer (some ⟨B, 0, none⟩), .bool true, .func (.func K) #[] caps] w fun e w' => e = .returned (.int .i64 220) ∧ Q w' := by
  have H := Lib.hid hk
  have e1 : ∀ (args : Array Value) (w : World), (callFunc K args).run Try.prog w = .ok (.enter K args) w := hK
  clear hk hK
  have hs : (w.setCell ⟨B, 18, none⟩ (.int .i64 0)).cell? ⟨B, 18, none⟩ = some (.int .i64 0) := World.cell?_setCell_same w _ _ h
  go_enter Try.func68, Try.ntmps68
  go_wp2_with fail
  refine H.out.mono ?_
  rintro e w1 ⟨rfl, hq⟩
  go_wp2
  go_ret
  exact ⟨rfl, hq⟩

set_option maxHeartbeats 400000 in
theorem gate_down (B K : Nat) (caps : Array Value) (w : World) (h : w.cell? ⟨B, 18, none⟩ = some (.int .i64 1)) (hf : w.frozen? ⟨B, 18, none⟩ = false) (h2 : w.cell? ⟨B, 17, none⟩ = some (.bool false)) (hf2 : w.frozen? ⟨B, 17, none⟩ = false) :
    Calls Try.prog 68 #[.pointer (some ⟨B, 0, none⟩), .bool false, .func (.func K) #[] caps] w fun e w' => e = .returned (.int .i64 220) ∧ w' = ((w.setCell ⟨B, 18, none⟩ (.int .i64 0)).setCell ⟨B, 17, none⟩ (.bool true)) := by
  have hs : (w.setCell ⟨B, 18, none⟩ (.int .i64 0)).cell? ⟨B, 18, none⟩ = some (.int .i64 0) := World.cell?_setCell_same w _ _ h
  go_enter Try.func68, Try.ntmps68
  go_wp2
  go_ret
  exact ⟨rfl, rfl⟩

/-- A disk as its document knows it. -/
structure Ab where
  room : Int
  fs : List (List UInt8 × Nat)
  off : Bool
  plan : Int

def File.ab (f : File) : List UInt8 × Nat := (f.l, f.s)

theorem fCells_set_v (fs : List File) (i : Nat) (f : File) (v : Value) (l : List UInt8) (h : fs[i]? = some f) : (fCells fs).set (i * 2) v = fCells (fs.set i ⟨v, l, f.s⟩) := by
  induction fs generalizing i with
  | nil => simp at h
  | cons q fs ih =>
    cases i with
    | zero => simp at h; subst h; simp [fCells]
    | succ i =>
      have h2 := ih i (by simpa using h)
      have e1 : (i + 1) * 2 = i * 2 + 1 + 1 := by omega
      rw [e1]
      simpa [fCells] using h2
theorem fCells_set_s (fs : List File) (i : Nat) (f : File) (s : Nat) (l : List UInt8) (h : fs[i]? = some f) : (fCells fs).set (i * 2 + 1) (.int .i64 s) = fCells (fs.set i ⟨f.v, l, s⟩) := by
  induction fs generalizing i with
  | nil => simp at h
  | cons q fs ih =>
    cases i with
    | zero => simp at h; subst h; simp [fCells]
    | succ i =>
      have h2 := ih i (by simpa using h)
      have e1 : (i + 1) * 2 + 1 = i * 2 + 1 + 1 + 1 := by omega
      rw [e1]
      simpa [fCells] using h2

section
variable {w w' : World} {base B : Nat} {room plan : Int} {fs : List File} {off : Bool} {i : Nat} {f : File}
theorem blk_v (h : Blk w B 87 (dCells room fs off plan).toArray) (hf : fs[i]? = some f) (v : Value) (l : List UInt8) :
    Blk (w.setCell ⟨B, 1 + i * 2, none⟩ v) B 87 (dCells room (fs.set i ⟨v, l, f.s⟩) off plan).toArray := by
  have hi : i < fs.length := (List.getElem?_eq_some_iff.1 hf).1
  have hl := fCells_length fs
  have h2 := h.set_ (1 + i * 2) v
  have e : (dCells room fs off plan).toArray.setIfInBounds (1 + i * 2) v = (dCells room (fs.set i ⟨v, l, f.s⟩) off plan).toArray := by
    rw [List.setIfInBounds_toArray, show 1 + i * 2 = i * 2 + 1 from by omega]
    simp only [dCells, List.set_cons_succ]
    rw [List.set_append_left _ _ (by omega), fCells_set_v fs i f v l hf]
  rw [e] at h2
  exact h2
theorem blk_s (h : Blk w B 87 (dCells room fs off plan).toArray) (hf : fs[i]? = some f) (s : Nat) (l : List UInt8) :
    Blk (w.setCell ⟨B, 1 + i * 2 + 1, none⟩ (.int .i64 s)) B 87 (dCells room (fs.set i ⟨f.v, l, s⟩) off plan).toArray := by
  have hi : i < fs.length := (List.getElem?_eq_some_iff.1 hf).1
  have hl := fCells_length fs
  have h2 := h.set_ (1 + i * 2 + 1) (.int .i64 s)
  have e : (dCells room fs off plan).toArray.setIfInBounds (1 + i * 2 + 1) (.int .i64 s) = (dCells room (fs.set i ⟨f.v, l, s⟩) off plan).toArray := by
    rw [List.setIfInBounds_toArray, show 1 + i * 2 + 1 = i * 2 + 1 + 1 from by omega]
    simp only [dCells, List.set_cons_succ]
    rw [List.set_append_left _ _ (by omega), fCells_set_s fs i f s l hf]
  rw [e] at h2
  exact h2
theorem blk_vs (h : Blk w B 87 (dCells room fs off plan).toArray) (hf : fs[i]? = some f) (v : Value) (s : Nat) (l : List UInt8) :
    Blk ((w.setCell ⟨B, 1 + i * 2, none⟩ v).setCell ⟨B, 1 + i * 2 + 1, none⟩ (.int .i64 s)) B 87 (dCells room (fs.set i ⟨v, l, s⟩) off plan).toArray := by
  have hi : i < fs.length := (List.getElem?_eq_some_iff.1 hf).1
  have h2 := blk_s (blk_v h hf v l) (i := i) (f := ⟨v, l, f.s⟩) (by rw [List.getElem?_set_self hi]) s l
  rw [List.set_set] at h2
  exact h2
theorem blk_off (h : Blk w B 87 (dCells room fs off plan).toArray) (hn : fs.length = 8) (b : Bool) : Blk (w.setCell ⟨B, 17, none⟩ (.bool b)) B 87 (dCells room fs b plan).toArray := by
  have hl := fCells_length fs
  rw [hn] at hl
  have h2 := h.set_ 17 (.bool b)
  have e : (dCells room fs off plan).toArray.setIfInBounds 17 (.bool b) = (dCells room fs b plan).toArray := by
    rw [List.setIfInBounds_toArray]
    simp only [dCells, List.set_cons_succ]
    rw [List.set_append_right _ _ (by omega), hl]
    rfl
  rw [e] at h2
  exact h2
theorem blk_plan (h : Blk w B 87 (dCells room fs off plan).toArray) (hn : fs.length = 8) (b : Int) : Blk (w.setCell ⟨B, 18, none⟩ (.int .i64 b)) B 87 (dCells room fs off b).toArray := by
  have hl := fCells_length fs
  rw [hn] at hl
  have h2 := h.set_ 18 (.int .i64 b)
  have e : (dCells room fs off plan).toArray.setIfInBounds 18 (.int .i64 b) = (dCells room fs off b).toArray := by
    rw [List.setIfInBounds_toArray]
    simp only [dCells, List.set_cons_succ]
    rw [List.set_append_right _ _ (by omega), hl]
    rfl
  rw [e] at h2
  exact h2

theorem Dsk.own_B (h : Dsk w base B room fs off plan) {g : File} (hg : g ∈ fs) : g.v.ownBlock ≠ some B := own_blk_ne (h.files g hg).1 h.blk (by decide)
/-- Only the disk's own words change. -/
theorem Dsk.words (h : Dsk w base B room fs off plan) {off' : Bool} {plan' : Int} (hb : Blk w' B 87 (dCells room fs off' plan').toArray) (hk : Kept (Kone B) w w') (hp : 0 ≤ plan') (hp1 : plan' ≤ 9223372036854775807) : Dsk w' base B room fs off' plan' :=
  ⟨h.low, hb, h.len, fun g hg => ⟨own_kept (h.files g hg).1 hk (fun k hk hS => h.own_B hg (by unfold Kone at hS; rw [hk, hS])), (h.files g hg).2⟩, h.apart, h.fits, h.room0, h.room1, hp, hp1⟩
theorem Dsk.set_plan (h : Dsk w base B room fs off plan) {p : Int} (hp : 0 ≤ p) (hp1 : p ≤ 9223372036854775807) : Dsk (w.setCell ⟨B, 18, none⟩ (.int .i64 p)) base B room fs off p :=
  h.words (blk_plan h.blk h.len p) (Kept.setIn (S := Kone B) (Kept.refl _ _) (p := ⟨B, 18, none⟩) (Eq.refl B) _) hp hp1
theorem Dsk.set_off (h : Dsk w base B room fs off plan) (b : Bool) : Dsk (w.setCell ⟨B, 17, none⟩ (.bool b)) base B room fs b plan :=
  h.words (blk_off h.blk h.len b) (Kept.setIn (S := Kone B) (Kept.refl _ _) (p := ⟨B, 17, none⟩) (Eq.refl B) _) h.plan0 h.plan1

theorem used_set (fs : List File) (i : Nat) (f f' : File) (h : fs[i]? = some f) : used (fs.set i f') + f.l.length = used fs + f'.l.length := by
  induction fs generalizing i with
  | nil => simp at h
  | cons q fs ih =>
    cases i with
    | zero => simp at h; subst h; simp [used]; omega
    | succ i =>
      have h2 := ih i (by simpa using h)
      simp only [used, List.set_cons_succ, List.map_cons, List.sum_cons] at h2 ⊢
      omega

/-- File i becomes f'. -/
theorem Dsk.turn (h : Dsk w base B room fs off plan) (hf : fs[i]? = some f) {f' : File} (hb : Blk w' B 87 (dCells room (fs.set i f') off plan).toArray)
    (hk : Kept (fun k => k = B ∨ f.v.ownBlock = some k) w w') (hn : FileIn w' base f') (ha : ∀ k, f'.v.ownBlock = some k → f.v.ownBlock = some k ∨ w.heap.size ≤ k) (hfit : (used fs : Int) + f'.l.length - f.l.length ≤ room) :
    Dsk w' base B room (fs.set i f') off plan := by
  have hi : i < fs.length := (List.getElem?_eq_some_iff.1 hf).1
  have hfi : fs[i] = f := (List.getElem?_eq_some_iff.1 hf).2
  have hp := List.pairwise_iff_getElem.1 h.apart
  have hlt : ∀ g ∈ fs, ∀ k, g.v.ownBlock = some k → k < w.heap.size := fun g hg k hk => (own_base (h.files g hg).1 hk).2
  have hne : ∀ j (hj : j < fs.length), j ≠ i → ∀ k, fs[j].v.ownBlock = some k → f.v.ownBlock ≠ some k := by
    intro j hj hji k hk he
    rcases Nat.lt_or_gt_of_ne hji with hl | hl
    · have := hp j i hj hi hl k hk; rw [hfi] at this; exact this he
    · have := hp i j hi hj hl k (by rw [hfi]; exact he); exact this hk
  refine ⟨h.low, hb, by rw [List.length_set]; exact h.len, ?_, ?_, ?_, h.room0, h.room1, h.plan0, h.plan1⟩
  · intro g hg
    obtain ⟨j, hj, rfl⟩ := List.getElem_of_mem hg
    rw [List.length_set] at hj
    rw [List.getElem_set]
    split
    · exact hn
    · rename_i hij
      refine ⟨own_kept (h.files _ (List.getElem_mem hj)).1 hk ?_, (h.files _ (List.getElem_mem hj)).2⟩
      rintro k hq (rfl | he)
      · exact h.own_B (List.getElem_mem hj) hq
      · exact hne j hj (fun e => hij e.symm) k hq he
  · rw [List.pairwise_iff_getElem]
    intro a b ha1 hb1 hab k hk1
    rw [List.length_set] at ha1 hb1
    rw [List.getElem_set] at hk1 ⊢
    split at hk1
    · rename_i e; subst e
      rw [if_neg (by omega)]
      intro hk2
      rcases ha k hk1 with h3 | h3
      · exact hne b hb1 (by omega) k hk2 h3
      · exact absurd (hlt _ (List.getElem_mem hb1) k hk2) (by omega)
    · split
      · rename_i e; subst e
        intro hk2
        rcases ha k hk2 with h3 | h3
        · exact hne a ha1 (by omega) k hk1 h3
        · exact absurd (hlt _ (List.getElem_mem ha1) k hk1) (by omega)
      · exact hp a b ha1 hb1 hab k hk1
  · have := used_set fs i f f' hf
    omega
end

/-- What a call of a disk leaves: a disk again, which has changed only what it owned. -/
def Turn (base B : Nat) (fs : List File) (ab : Ab) (w w' : World) : Prop :=
  ∃ fs', Dsk w' base B ab.room fs' ab.off ab.plan ∧ fs'.map File.ab = ab.fs ∧ Kept (DK B fs) w w' ∧ ∀ k, DK B fs' k → DK B fs k ∨ w.heap.size ≤ k

theorem turn_set {w w' : World} {base B : Nat} {room plan : Int} {fs : List File} {off : Bool} {i : Nat} {f f' : File} (h : Dsk w base B room fs off plan) (hf : fs[i]? = some f)
    (hb : Blk w' B 87 (dCells room (fs.set i f') off plan).toArray)
    (hk : Kept (fun k => k = B ∨ f.v.ownBlock = some k) w w') (hn : FileIn w' base f') (ha : ∀ k, f'.v.ownBlock = some k → f.v.ownBlock = some k ∨ w.heap.size ≤ k) (hfit : (used fs : Int) + f'.l.length - f.l.length ≤ room) :
    Turn base B fs ⟨room, (fs.map File.ab).set i f'.ab, off, plan⟩ w w' := by
  refine ⟨fs.set i f', h.turn hf hb hk hn ha hfit, by rw [List.map_set], hk.mono ?_, ?_⟩
  · rintro k _ (rfl | he)
    · exact .inl rfl
    · exact .inr ⟨f, List.mem_of_getElem? hf, he⟩
  · rintro k (rfl | ⟨g, hg, he⟩)
    · exact .inl (.inl rfl)
    · rcases List.mem_or_eq_of_mem_set hg with hg | rfl
      · exact .inl (.inr ⟨g, hg, he⟩)
      · rcases ha k he with h3 | h3
        · exact .inl (.inr ⟨f, List.mem_of_getElem? hf, h3⟩)
        · exact .inr h3

end Go.Proofs.Yteoodgcpkgfomaa
/-
  Disk: contracts of the four changes (closures).
-/
namespace Go.Proofs.Yteoodgcpkgfomaa
open Go.RowKit
set_option linter.unusedVariables false

theorem close_append {base B i : Nat} {room plan : Int} {fs : List File} {off : Bool} {f : File} {A A1 : Option Addr} {cap cap1 : Nat} {lb : List UInt8} {w w1 : World} (h : Dsk w base B room fs off plan) (hf : fs[i]? = some f)
    (hv : f.v = .slice A f.l.length cap) (hfit : (used fs : Int) + lb.length ≤ room) (hk : Kept (fun k => (Value.slice A f.l.length cap).ownBlock = some k) w w1)
    (ho : w1.ownsRow base 5 1 (.slice A1 (f.l.length + lb.length) cap1) (f.l.length + lb.length) (f.l.map bv ++ lb.map bv))
    (hat : (Value.slice A1 (f.l.length + lb.length) cap1).ownBlock = (Value.slice A f.l.length cap).ownBlock ∨ (Value.slice A1 (f.l.length + lb.length) cap1).ownBlock = some w.heap.size) :
    Turn base B fs ⟨room, (fs.map File.ab).set i (f.l ++ lb, f.s), off, plan⟩ w (w1.setCell ⟨B, 1 + i * 2, none⟩ (.slice A1 (f.l.length + lb.length) cap1)) := by
  rw [← hv] at hk hat
  have hm := List.mem_of_getElem? hf
  have hB := h.own_B hm
  have hs := (h.files f hm).2
  have hb1 := h.blk.kept hk hB
  have ho2 : OwnB w1 base 5 (.slice A1 (f.l.length + lb.length) cap1) (f.l ++ lb) := by
    unfold OwnB
    rw [List.length_append, List.map_append]
    exact ho
  have hne : (Value.slice A1 (f.l.length + lb.length) cap1).ownBlock ≠ some B := own_blk_ne ho hb1 (by decide)
  refine turn_set (f' := ⟨.slice A1 (f.l.length + lb.length) cap1, f.l ++ lb, f.s⟩) h hf (blk_v hb1 hf _ _) ((hk.mono (fun k _ e => .inr e)).setIn (.inl rfl) _) ⟨own_far ho2 hne _, ?_⟩ ?_ ?_
  · simp only [List.length_append]; omega
  · intro k he
    rcases hat with e | e
    · exact .inl (e ▸ he)
    · rw [e] at he; injection he with he; exact .inr (by omega)
  · simp only [List.length_append]; omega

set_option maxHeartbeats 800000 in
theorem appendK (base B F X i : Nat) (room plan : Int) (fs : List File) (off : Bool) (f : File) (b : Value) (lb : List UInt8) (w : World) (h : Dsk w base B room fs off plan) (hf : fs[i]? = some f)
    (hF : w.cell? ⟨F, 0, none⟩ = some (.pointer (some ⟨B, 1 + i * 2, none⟩))) (hX : w.cell? ⟨X, 0, none⟩ = some b) (hb : Bs w b lb) (hfit : (used fs : Int) + lb.length ≤ room) (hFB : F ≠ B) (hXB : X ≠ B) (hFo : f.v.ownBlock ≠ some F) (hFl : F < w.heap.size) :
    Calls Try.prog 69 #[.pointer (some ⟨F, 0, none⟩), .pointer (some ⟨X, 0, none⟩)] w fun e w' => e = .returned (.tuple #[]) ∧ Turn base B fs ⟨room, (fs.map File.ab).set i (f.l ++ lb, f.s), off, plan⟩ w w' := by
  obtain ⟨i0, hi0, hz0, hz1, hz2⟩ := info_parts info_byte
  have HD := Lib.hid h
  have HF := Lib.hid hf
  obtain ⟨c1, -⟩ := h.c_file hf
  have c0 := h.blk.frozen (1 + i * 2)
  have hown := (h.files f (List.mem_of_getElem? hf)).1
  have hle := used_le (List.mem_of_getElem? hf)
  obtain ⟨A, cap, hv⟩ := own_form hown
  have HV := Lib.hid hv
  have HB := Lib.hid hb
  obtain ⟨Ab, capb, rfl, -⟩ := hb
  have h63 : f.l.length + lb.length ≤ maxLen := by have := h.room1; simp only [maxLen]; omega
  have hby : (f.l.length + lb.length) * 1 ≤ 140737488355328 := by have := h.room1; omega
  have hbase : base ≤ w.heap.size := Nat.le_trans h.low (Nat.le_of_lt h.blk.lt)
  have HO := Lib.hid hown
  rw [hv] at c1
  have HO2 : Hid (w.ownsRow base 5 1 (.slice A f.l.length cap) f.l.length (f.l.map bv)) := Lib.hid (by rw [← hv]; exact hown)
  have hFo2 : (Value.slice A f.l.length cap).ownBlock ≠ some F := by rw [← hv]; exact hFo
  have hne : (Value.slice A f.l.length cap).ownBlock ≠ some B := by rw [← hv]; exact h.own_B (List.mem_of_getElem? hf)
  have lB := h.blk.lt
  clear h hf hown hv hle hFo
  go_enter Try.func69, Try.ntmps69
  go_region_law ((refine step_append_rd _ (by rfl) _ _ 30 (by rfl) base 5 i0 _ 1 1 Try.underlying30 hi0 hz0 hz1 hz2 (by rfl) (by decide) (.slice A f.l.length cap) f.l.length (f.l.map bv) (by rfl) HO2.out (.slice Ab lb.length capb) lb.length (lb.map bv) (by rfl) HB.out (bvs_one lb) h63 hby hbase ?_
                  intro A1 cap1 w1 hown1 hg1 hat1
                  have q0 : w1.frozen? ⟨B, 1 + i * 2, none⟩ = false := (World.frozen?_of_block (hg1.block B lB (fun e => hne e.symm))).trans c0
                  have q1 : w1.cell? ⟨B, 1 + i * 2, none⟩ = some (.slice A f.l.length cap) := hg1.cell c1 (fun e => hne e.symm)
                  have q2 : w1.cell? ⟨F, 0, none⟩ = some (.pointer (some ⟨B, 1 + i * 2, none⟩)) := hg1.cell hF (fun e => hFo2 e.symm)))
  all_goals
    go_wp2
    go_end0
    exact ⟨rfl, close_append HD.out HF.out HV.out hfit (Kept.grown (Kept.drewN (Kept.refl _ w) _) hg1 (fun k _ e => e)) hown1 hat1⟩

theorem close_s {base B i s : Nat} {room plan : Int} {fs : List File} {off : Bool} {f : File} {w w1 : World} (h : Dsk w base B room fs off plan) (hf : fs[i]? = some f) (hs : s ≤ f.l.length) (hk : Kept Kno w w1) :
    Turn base B fs ⟨room, (fs.map File.ab).set i (f.l, s), off, plan⟩ w (w1.setCell ⟨B, 1 + i * 2 + 1, none⟩ (.int .i64 s)) := by
  have hm := List.mem_of_getElem? hf
  have h1 := h.kept0 hk
  have ho := (h1.files f hm).1
  have hfit := h.fits
  refine turn_set (f' := ⟨f.v, f.l, s⟩) h hf (blk_s h1.blk hf s f.l) ((hk.mono (fun k _ e => e.elim)).setIn (.inl rfl) _) ⟨own_far ho (h.own_B hm) _, hs⟩ (fun k he => .inl he) (by dsimp only; omega)

set_option maxHeartbeats 800000 in
theorem syncK (base B F i : Nat) (room plan : Int) (fs : List File) (off : Bool) (f : File) (w : World) (h : Dsk w base B room fs off plan) (hf : fs[i]? = some f)
    (hF : w.cell? ⟨F, 0, none⟩ = some (.pointer (some ⟨B, 1 + i * 2, none⟩))) (hFB : F ≠ B) :
    Calls Try.prog 77 #[.pointer (some ⟨F, 0, none⟩)] w fun e w' => e = .returned (.tuple #[]) ∧ Turn base B fs ⟨room, (fs.map File.ab).set i (f.l, f.l.length), off, plan⟩ w w' := by
  have HD := Lib.hid h
  have HF := Lib.hid hf
  obtain ⟨c1, c2⟩ := h.c_file hf
  have c0 := h.blk.frozen (1 + i * 2 + 1)
  have hown := (h.files f (List.mem_of_getElem? hf)).1
  obtain ⟨A, cap, hv⟩ := own_form hown
  rw [hv] at c1
  clear h hf hown hv
  go_enter Try.func77, Try.ntmps77
  go_region_law (fail)
  all_goals
    go_wp2
    go_end0
    exact ⟨rfl, close_s HD.out HF.out (Nat.le_refl _) (Kept.drewN (Kept.refl _ w) _)⟩

theorem own_cut {base m : Nat} {A : Option Addr} {cap : Nat} {l : List UInt8} {w : World} {t : TypeId} (h : OwnB w base t (.slice A l.length cap) l) (hm : m ≤ l.length) : OwnB w base t (.slice A m cap) (l.take m) := by
  have e : (l.take m).length = m := by rw [List.length_take]; omega
  unfold OwnB at h ⊢
  rw [e]
  rcases h with ⟨h1, h2⟩
  refine ⟨by rw [List.length_map, e]; omega, ?_⟩
  rcases h2 with ⟨h3, h4⟩ | ⟨g, cap', cur, h3, hb, hh, hnc, hcm, hs, ht⟩
  · injection h3 with hA hn hc
    subst hA hc
    exact .inl ⟨by rw [show m = 0 from by omega], by omega⟩
  · injection h3 with hA hn hc
    subst hA hc
    refine .inr ⟨g, cap, cur, rfl, hb, hh, by omega, hcm, hs, ?_⟩
    rw [List.map_take, ← ht, List.take_take]
    congr 1
    omega

theorem close_vs {base B i s : Nat} {room plan : Int} {fs : List File} {off : Bool} {f : File} {w w1 : World} {v : Value} {l : List UInt8} (h : Dsk w base B room fs off plan) (hf : fs[i]? = some f) (hs : s ≤ l.length) (hk : Kept Kno w w1)
    (ho : OwnB w1 base 5 v l) (hat : ∀ k, v.ownBlock = some k → f.v.ownBlock = some k ∨ w.heap.size ≤ k) (hfit : (used fs : Int) + l.length - f.l.length ≤ room) :
    Turn base B fs ⟨room, (fs.map File.ab).set i (l, s), off, plan⟩ w ((w1.setCell ⟨B, 1 + i * 2, none⟩ v).setCell ⟨B, 1 + i * 2 + 1, none⟩ (.int .i64 s)) := by
  have hm := List.mem_of_getElem? hf
  have h1 := h.kept0 hk
  have hne : v.ownBlock ≠ some B := own_blk_ne ho h1.blk (by decide)
  exact turn_set (f' := ⟨v, l, s⟩) h hf (blk_vs h1.blk hf v s l) (((hk.mono (fun k _ e => e.elim)).setIn (.inl rfl) _).setIn (.inl rfl) _) ⟨own_far (own_far ho hne _) hne _, hs⟩ hat hfit

theorem own_cap {base : Nat} {v : Value} {A : Option Addr} {cap : Nat} {l : List UInt8} {w : World} {t : TypeId} (h : OwnB w base t v l) (hv : v = .slice A l.length cap) : l.length ≤ cap ∧ cap ≤ maxLen := by
  subst hv
  rcases h.2 with ⟨h3, h4⟩ | ⟨g, cap', cur, h3, hb, hh, hnc, hcm, hs, ht⟩
  · injection h3 with hA hn hc
    subst hc
    omega
  · injection h3 with hA hn hc
    subst hc
    exact ⟨hnc, hcm⟩

end Go.Proofs.Yteoodgcpkgfomaa
/-
  Disk: the contract of the change that Truncate makes.
-/
namespace Go.Proofs.Yteoodgcpkgfomaa
open Go.RowKit
set_option linter.unusedVariables false

set_option maxHeartbeats 800000 in
theorem truncK (base B F X i n : Nat) (room plan : Int) (fs : List File) (off : Bool) (f : File) (w : World) (h : Dsk w base B room fs off plan) (hf : fs[i]? = some f) (hn : n ≤ f.l.length)
    (hF : w.cell? ⟨F, 0, none⟩ = some (.pointer (some ⟨B, 1 + i * 2, none⟩))) (hX : w.cell? ⟨X, 0, none⟩ = some (.int .i64 n)) (hFB : F ≠ B) (hXB : X ≠ B) :
    Calls Try.prog 76 #[.pointer (some ⟨F, 0, none⟩), .pointer (some ⟨X, 0, none⟩)] w fun e w' => e = .returned (.tuple #[]) ∧ Turn base B fs ⟨room, (fs.map File.ab).set i (f.l.take n, n), off, plan⟩ w w' := by
  have HD := Lib.hid h
  have HF := Lib.hid hf
  obtain ⟨c1, c2⟩ := h.c_file hf
  have c0 := h.blk.frozen (1 + i * 2)
  have c3 := h.blk.frozen (1 + i * 2 + 1)
  have hm := List.mem_of_getElem? hf
  have hown := (h.files f hm).1
  have hu := used_le hm
  have hr := h.room1
  have hfi := h.fits
  obtain ⟨A, cap, hv⟩ := own_form hown
  have HV := Lib.hid hv
  have hcap := own_cap hown hv
  rw [hv] at c1
  have hx : Turn base B fs ⟨room, (fs.map File.ab).set i (f.l.take n, n), off, plan⟩ w (((w.drewN 1).setCell ⟨B, 1 + i * 2, none⟩ (.slice A n cap)).setCell ⟨B, 1 + i * 2 + 1, none⟩ (.int .i64 n)) :=
    close_vs h hf (by rw [List.length_take]; omega) (Kept.drewN (Kept.refl _ w) 1) (own_cut (by have h9 : OwnB w base 5 f.v f.l := hown; rw [hv] at h9; exact h9) hn) (fun k he => .inl (by rw [hv]; cases A <;> exact he)) (by rw [List.length_take]; omega)
  have HX := Lib.hid hx
  have hn0 : (n : Int) ≤ f.l.length := by omega
  have hn1 : (n : Int) ≤ cap := by omega
  have hn2 : n ≤ cap := by omega
  clear h hf hown hv hx hm
  go_enter Try.func76, Try.ntmps76
  go_region
  all_goals
    go_wp2
    go_end0
    exact ⟨rfl, HX.out⟩

end Go.Proofs.Yteoodgcpkgfomaa
/-
  Disk: the contract of the change that Replace makes.
-/
namespace Go.Proofs.Yteoodgcpkgfomaa
open Go.RowKit
set_option linter.unusedVariables false

set_option maxHeartbeats 800000 in
theorem replaceK (base B F X i : Nat) (room plan : Int) (fs : List File) (off : Bool) (f : File) (b : Value) (lb : List UInt8) (w : World) (h : Dsk w base B room fs off plan) (hf : fs[i]? = some f)
    (hF : w.cell? ⟨F, 0, none⟩ = some (.pointer (some ⟨B, 1 + i * 2, none⟩))) (hX : w.cell? ⟨X, 0, none⟩ = some b) (hb : Bs w b lb) (hfit : (used fs : Int) + lb.length - f.l.length ≤ room) (hFB : F ≠ B) (hXB : X ≠ B) :
    Calls Try.prog 70 #[.pointer (some ⟨X, 0, none⟩), .pointer (some ⟨F, 0, none⟩)] w fun e w' => e = .returned (.tuple #[]) ∧ Turn base B fs ⟨room, (fs.map File.ab).set i (lb, lb.length), off, plan⟩ w w' := by
  have HD := Lib.hid h
  have HF := Lib.hid hf
  obtain ⟨c1, c2⟩ := h.c_file hf
  have c0 := h.blk.frozen (1 + i * 2)
  have c3 := h.blk.frozen (1 + i * 2 + 1)
  have hm := List.mem_of_getElem? hf
  have hu := used_le hm
  have hr := h.room1
  have lB := h.blk.lt
  have hlb : lb.length ≤ 140737488355328 := by omega
  have hbase : base ≤ w.heap.size := Nat.le_trans h.low (Nat.le_of_lt h.blk.lt)
  have HB := Lib.hid hb
  obtain ⟨Ab, capb, rfl, -⟩ := hb
  clear h hf hm
  go_enter Try.func70, Try.ntmps70
  go_region_held3 (fun w' => w'.cell? ⟨F, 0, none⟩ = some (.pointer (some ⟨B, 1 + i * 2, none⟩)) ∧ w'.cell? ⟨X, 0, none⟩ = some (.slice Ab lb.length capb)) (first | go_keep | (exact ⟨q5, q6⟩) | (exact ⟨(World.cell?_setCell_far _ _ _ _ hFB.symm).trans q5, (World.cell?_setCell_far _ _ _ _ hXB.symm).trans q6⟩) | (exact ⟨(World.cell?_setCell_far _ _ _ _ hFB.symm).trans ((World.cell?_setCell_far _ _ _ _ hFB.symm).trans q5), (World.cell?_setCell_far _ _ _ _ hXB.symm).trans ((World.cell?_setCell_far _ _ _ _ hXB.symm).trans q6)⟩))
    (first | (go_at_call 60; refine (sclone_any _ lb _ ?_ hlb).mono ?_; (exact HB.out); rintro e w1 ⟨A1, cap1, rfl, hown, hk'⟩; have hk : Kept Kno w w1 := Kept.then0 (Kept.drew (Kept.refl _ w)) hk'; clear hk'; have q1 := hk.cell_some c1 (fun h => h); have q2 := hk.cell_some c2 (fun h => h); have q3 := hk.frozen_no c0 lB (fun h => h); have q4 := hk.frozen_no c3 lB (fun h => h); have q5 := hk.cell_some hF (fun h => h); have q6 := hk.cell_some hX (fun h => h)))
  go_wp2
  go_end0
  exact ⟨rfl, close_vs HD.out HF.out (Nat.le_refl _) hk (own_rebase hown (fun k hk' => by have := (own_base hown hk').1; simp at this; omega)) (fun k hk' => .inr (by have := (own_base hown hk').1; simpa using this)) hfit⟩

end Go.Proofs.Yteoodgcpkgfomaa
/-
  Disk: gate at a whole disk; the abstract steps; Append, Truncate, Replace, Sync.
-/
namespace Go.Proofs.Yteoodgcpkgfomaa
open Go.RowKit
set_option linter.unusedVariables false

/-- A change through the gate. -/
def gateOf (a : Ab) (torn : Bool) (i : Nat) (new : List UInt8 × Nat) : Ab × Int :=
  if a.plan = 0 then (⟨a.room, a.fs.set i new, a.off, 0⟩, 0)
  else if a.plan = 1 then (⟨a.room, if torn then a.fs.set i new else a.fs, true, 0⟩, 220)
  else (⟨a.room, a.fs.set i new, a.off, a.plan - 1⟩, 0)

theorem Turn.before {base B : Nat} {fs : List File} {ab : Ab} {w w1 w' : World} (h : Turn base B fs ab w1 w') (hk : Kept (Kone B) w w1) : Turn base B fs ab w w' := by
  obtain ⟨fs', h1, h2, h3, h4⟩ := h
  refine ⟨fs', h1, h2, (hk.mono (T := DK B fs) (fun k _ e => .inl e)).trans h3 (fun _ _ e => e), fun k hk' => ?_⟩
  rcases h4 k hk' with e | e
  · exact .inl e
  · exact .inr (Nat.le_trans hk.size e)
theorem Turn.before0 {base B : Nat} {fs : List File} {ab : Ab} {w w1 w' : World} (h : Turn base B fs ab w1 w') (hk : Kept Kno w w1) : Turn base B fs ab w w' := h.before (hk.mono (fun _ _ e => e.elim))
theorem Dsk.turn0 {w w' : World} {base B : Nat} {room plan : Int} {fs : List File} {off : Bool} (h : Dsk w' base B room fs off plan) (hk : Kept (Kone B) w w') : Turn base B fs ⟨room, fs.map File.ab, off, plan⟩ w w' :=
  ⟨fs, h, rfl, hk.mono (fun k _ e => .inl e), fun k e => .inl e⟩

theorem gate_dsk (base B K i : Nat) (caps : Array Value) (torn : Bool) (room plan : Int) (fs : List File) (new : List UInt8 × Nat) (w : World) (h : Dsk w base B room fs false plan) (hK : Ent K)
    (hk : ∀ w1 off' plan', Kept (Kone B) w w1 → Dsk w1 base B room fs off' plan' → Calls Try.prog K caps w1 fun e w' => e = .returned (.tuple #[]) ∧ Turn base B fs ⟨room, (fs.map File.ab).set i new, off', plan'⟩ w1 w') :
    Calls Try.prog 68 #[.pointer (some ⟨B, 0, none⟩), .bool torn, .func (.func K) #[] caps] w fun e w' =>
      e = .returned (.int .i64 (gateOf ⟨room, fs.map File.ab, false, plan⟩ torn i new).2) ∧ Turn base B fs (gateOf ⟨room, fs.map File.ab, false, plan⟩ torn i new).1 w w' := by
  have h0 := h.plan0
  have h1 := h.plan1
  have c1 := h.c_plan
  have f1 := h.blk.frozen 18
  have c2 := h.c_off
  have f2 := h.blk.frozen 17
  by_cases e0 : plan = 0
  · subst e0
    simp only [gateOf, if_true]
    exact gate_free B K caps torn w _ hK c1 (hk w false 0 (Kept.refl _ _) h)
  · by_cases e1 : plan = 1
    · subst e1
      have hs := (h.set_plan (p := 0) (by omega) (by omega)).set_off true
      have hkk : Kept (Kone B) w ((w.setCell ⟨B, 18, none⟩ (.int .i64 0)).setCell ⟨B, 17, none⟩ (.bool true)) := Kept.setIn (S := Kone B) (Kept.setIn (S := Kone B) (Kept.refl _ _) (p := ⟨B, 18, none⟩) (Eq.refl B) _) (p := ⟨B, 17, none⟩) (Eq.refl B) _
      cases torn with
      | true =>
        simp only [gateOf, if_true, if_neg e0]
        exact gate_torn B K caps w _ hK c1 f1 c2 f2 ((hk _ true 0 hkk hs).mono fun e w' ⟨a, b⟩ => ⟨a, b.before hkk⟩)
      | false =>
        simp only [gateOf, if_true, if_neg e0]
        refine (gate_down B K caps w c1 f1 c2 f2).mono ?_
        rintro e w' ⟨rfl, rfl⟩
        exact ⟨rfl, hs.turn0 hkk⟩
    · simp only [gateOf, if_neg e0, if_neg e1]
      have hs := h.set_plan (p := plan - 1) (by omega) (by omega)
      have hkk : Kept (Kone B) w (w.setCell ⟨B, 18, none⟩ (.int .i64 (plan - 1))) := Kept.setIn (S := Kone B) (Kept.refl _ _) (p := ⟨B, 18, none⟩) (Eq.refl B) _
      exact gate_more B K caps torn plan w _ hK c1 f1 (by omega) h1 ((hk _ false (plan - 1) hkk hs).mono fun e w' ⟨a, b⟩ => ⟨a, b.before hkk⟩)

end Go.Proofs.Yteoodgcpkgfomaa
/-
  Disk: Append.
-/
namespace Go.Proofs.Yteoodgcpkgfomaa
open Go.RowKit
set_option linter.unusedVariables false

theorem checkOf_ok {i : Nat} (h : i < 8) : checkOf false (i : Int) = 0 := by simp only [checkOf]; rw [if_neg (by simp), if_neg (by omega)]

set_option maxHeartbeats 800000 in
theorem append_no (base B : Nat) (room plan : Int) (fs : List File) (off : Bool) (i c : Int) (Ab : Option Addr) (n capb : Nat) (w : World) (h : Dsk w base B room fs off plan) (hc : checkOf off i = c) (hc0 : c ≠ 0) :
    Calls Try.prog 33 #[.pointer (some ⟨B, 0, none⟩), .int .i64 i, .slice Ab n capb] w fun e w' => e = .returned (.int .i64 c) ∧ Kept Kno w w' := by
  have HD := Lib.hid h
  have HC := Lib.hid hc
  clear h hc
  go_enter Try.func33, Try.ntmps33
  go_wp2_with fail
  refine (check_any B off i _ ((HD.out.kept0 ((Kept.refl _ w).alloc _)).c_off)).mono ?_
  rintro e w1 ⟨rfl, rfl⟩
  rw [HC.out]
  go_wp2
  go_ret
  exact ⟨rfl, (Kept.refl _ w).alloc _⟩

theorem used_quiet {w : World} {base B : Nat} {room plan : Int} {fs : List File} {off : Bool} (h : Dsk w base B room fs off plan) (n : Nat) :
    Calls Try.prog 17 #[.pointer (some ⟨B, 0, none⟩)] (w.drewN n) fun e w' => e = .returned (.int .i64 (used fs)) ∧ w' = w.drewN n :=
  (used_any base B room plan fs off (w.drewN n) (h.kept0 (Kept.drewN (Kept.refl _ w) n))).mono fun _ _ ⟨a, b⟩ => ⟨a, b.symm⟩

set_option maxHeartbeats 800000 in
theorem append_full (base B i : Nat) (room plan : Int) (fs : List File) (Ab : Option Addr) (n capb : Nat) (w : World) (h : Dsk w base B room fs false plan) (hi : i < 8) (hn : room - (used fs : Int) < n) :
    Calls Try.prog 33 #[.pointer (some ⟨B, 0, none⟩), .int .i64 i, .slice Ab n capb] w fun e w' => e = .returned (.int .i64 221) ∧ Kept Kno w w' := by
  have HD := Lib.hid h
  have HC := Lib.hid (checkOf_ok hi)
  have h0 := h.room0
  have h1 := h.room1
  have h2 := h.fits
  have hB := h.blk.lt
  have c1 := h.c_room
  clear h
  go_enter Try.func33, Try.ntmps33
  go_wp2_with fail
  refine (check_any B false i _ ((HD.out.kept0 ((Kept.refl _ w).alloc _)).c_off)).mono ?_
  rintro e w1 ⟨rfl, rfl⟩
  rw [HC.out]
  go_wp2_with fail
  go_quiet ((go_at_call 17; exact Calls.quiet_of_same (used_quiet (HD.out.kept0 ((Kept.refl _ w).alloc _)) _)))
  go_wp2
  go_ret
  exact ⟨rfl, ((Kept.refl _ w).alloc _).drewN _⟩

set_option maxHeartbeats 800000 in
theorem append_yes (base B i : Nat) (room plan : Int) (fs : List File) (f : File) (Ab : Option Addr) (lb : List UInt8) (capb : Nat) (w : World) (h : Dsk w base B room fs false plan) (hi : i < 8) (hf : fs[i]? = some f) (hfit : (used fs : Int) + lb.length ≤ room)
    (hbB : ∀ w1, Kept (Kone B) w w1 → Bs w1 (.slice Ab lb.length capb) lb) :
    Calls Try.prog 33 #[.pointer (some ⟨B, 0, none⟩), .int .i64 i, .slice Ab lb.length capb] w fun e w' =>
      e = .returned (.int .i64 (gateOf ⟨room, fs.map File.ab, false, plan⟩ true i (f.l ++ lb, f.s)).2) ∧ Turn base B fs (gateOf ⟨room, fs.map File.ab, false, plan⟩ true i (f.l ++ lb, f.s)).1 w w' := by
  have HD := Lib.hid h
  have HB := Lib.hid hbB
  have HF := Lib.hid hf
  have HC := Lib.hid (checkOf_ok hi)
  have h0 := h.room0
  have h1 := h.room1
  have h2 := h.fits
  have hB := h.blk.lt
  have c1 := h.c_room
  have hi1 : (i : Int) < 8 := by omega
  clear h hbB hf
  go_enter Try.func33, Try.ntmps33
  go_wp2_with fail
  refine (check_any B false i _ ((HD.out.kept0 ((Kept.refl _ w).alloc _)).c_off)).mono ?_
  rintro e w1 ⟨rfl, rfl⟩
  rw [HC.out]
  go_wp2_with fail
  go_quiet ((go_at_call 17; exact Calls.quiet_of_same (used_quiet (HD.out.kept0 ((Kept.refl _ w).alloc _)) _)))
  have hmf : ∀ (fn : Fn) (first cap : Array Value) (w : World), (Instr.makeFunc fn first cap).run Try.prog w = .ok (.func fn first cap) w := fun _ _ _ _ => rfl
  go_wp2_with fail
  have hk : Kept Kno w (((w.alloc (.cells #[.slice Ab lb.length capb] 30)).drewN nq).alloc (.cells #[.pointer (some ⟨B, 1 + i * 2, none⟩)] 96)) := (((Kept.refl _ w).alloc _).drewN _).alloc _
  have hX : (((w.alloc (.cells #[.slice Ab lb.length capb] 30)).drewN nq).alloc (.cells #[.pointer (some ⟨B, 1 + i * 2, none⟩)] 96)).cell? ⟨w.heap.size, 0, none⟩ = some (.slice Ab lb.length capb) := by go_simp
  have hF : (((w.alloc (.cells #[.slice Ab lb.length capb] 30)).drewN nq).alloc (.cells #[.pointer (some ⟨B, 1 + i * 2, none⟩)] 96)).cell? ⟨w.heap.size + 1, 0, none⟩ = some (.pointer (some ⟨B, 1 + i * 2, none⟩)) := by go_simp
  have hsz : w.heap.size + 2 ≤ (((w.alloc (.cells #[.slice Ab lb.length capb] 30)).drewN nq).alloc (.cells #[.pointer (some ⟨B, 1 + i * 2, none⟩)] 96)).heap.size := by simp
  generalize (((w.alloc (.cells #[.slice Ab lb.length capb] 30)).drewN nq).alloc (.cells #[.pointer (some ⟨B, 1 + i * 2, none⟩)] 96)) = wg at hk hX hF hsz ⊢
  refine (gate_dsk base B 69 i _ true room plan fs (f.l ++ lb, f.s) wg (HD.out.kept0 hk) Try.call69 ?_).mono ?_
  · intro w1 off' plan' hk1 hd1
    have hb1 : Bs w1 (.slice Ab lb.length capb) lb := HB.out w1 ((hk.mono (T := Kone B) (fun _ _ e => e.elim)).trans hk1 (fun _ _ e => e))
    refine appendK base B (w.heap.size + 1) w.heap.size i room plan' fs off' f _ lb w1 hd1 HF.out (hk1.cell_some hF ?_) (hk1.cell_some hX ?_) hb1 hfit (by omega) (by omega) ?_ (by have := hk1.size; omega)
    · intro e; unfold Kone at e; simp at e; omega
    · intro e; unfold Kone at e; simp at e; omega
    · intro e; have := (own_base (HD.out.files f (List.mem_of_getElem? HF.out)).1 e).2; omega
  · rintro e w2 ⟨rfl, ht⟩
    go_wp2
    go_ret
    exact ⟨rfl, ht.before0 hk⟩

end Go.Proofs.Yteoodgcpkgfomaa
/-
  Disk: Sync, Read, Size.
-/
namespace Go.Proofs.Yteoodgcpkgfomaa
open Go.RowKit
set_option linter.unusedVariables false

set_option maxHeartbeats 800000 in
theorem sync_no (base B : Nat) (room plan : Int) (fs : List File) (off : Bool) (i c : Int) (w : World) (h : Dsk w base B room fs off plan) (hc : checkOf off i = c) (hc0 : c ≠ 0) :
    Calls Try.prog 53 #[.pointer (some ⟨B, 0, none⟩), .int .i64 i] w fun e w' => e = .returned (.int .i64 c) ∧ w = w' := by
  have HD := Lib.hid h
  have HC := Lib.hid hc
  clear h hc
  go_enter Try.func53, Try.ntmps53
  go_wp2_with fail
  refine (check_any B off i _ HD.out.c_off).mono ?_
  rintro e w1 ⟨rfl, rfl⟩
  rw [HC.out]
  go_wp2
  go_ret
  exact ⟨rfl, rfl⟩

set_option maxHeartbeats 800000 in
theorem sync_yes (base B i : Nat) (room plan : Int) (fs : List File) (f : File) (w : World) (h : Dsk w base B room fs false plan) (hi : i < 8) (hf : fs[i]? = some f) :
    Calls Try.prog 53 #[.pointer (some ⟨B, 0, none⟩), .int .i64 i] w fun e w' =>
      e = .returned (.int .i64 (gateOf ⟨room, fs.map File.ab, false, plan⟩ false i (f.l, f.l.length)).2) ∧ Turn base B fs (gateOf ⟨room, fs.map File.ab, false, plan⟩ false i (f.l, f.l.length)).1 w w' := by
  have HD := Lib.hid h
  have HF := Lib.hid hf
  have HC := Lib.hid (checkOf_ok hi)
  have hB := h.blk.lt
  have hi1 : (i : Int) < 8 := by omega
  clear h hf
  go_enter Try.func53, Try.ntmps53
  go_wp2_with fail
  refine (check_any B false i _ HD.out.c_off).mono ?_
  rintro e w1 ⟨rfl, rfl⟩
  rw [HC.out]
  have hmf : ∀ (fn : Fn) (first cap : Array Value) (w : World), (Instr.makeFunc fn first cap).run Try.prog w = .ok (.func fn first cap) w := fun _ _ _ _ => rfl
  go_wp2_with fail
  have hk : Kept Kno w (w.alloc (.cells #[.pointer (some ⟨B, 1 + i * 2, none⟩)] 96)) := (Kept.refl _ w).alloc _
  have hF : (w.alloc (.cells #[.pointer (some ⟨B, 1 + i * 2, none⟩)] 96)).cell? ⟨w.heap.size, 0, none⟩ = some (.pointer (some ⟨B, 1 + i * 2, none⟩)) := by go_simp
  generalize (w.alloc (.cells #[.pointer (some ⟨B, 1 + i * 2, none⟩)] 96)) = wg at hk hF ⊢
  refine (gate_dsk base B 77 i _ false room plan fs (f.l, f.l.length) wg (HD.out.kept0 hk) Try.call77 ?_).mono ?_
  · intro w1 off' plan' hk1 hd1
    refine syncK base B w.heap.size i room plan' fs off' f w1 hd1 HF.out (hk1.cell_some hF ?_) (by omega)
    intro e; unfold Kone at e; simp at e; omega
  · rintro e w2 ⟨rfl, ht⟩
    go_wp2
    go_ret
    exact ⟨rfl, ht.before0 hk⟩

set_option maxHeartbeats 800000 in
theorem read_no (base B : Nat) (room plan : Int) (fs : List File) (off : Bool) (i c : Int) (w : World) (h : Dsk w base B room fs off plan) (hc : checkOf off i = c) (hc0 : c ≠ 0) :
    Calls Try.prog 19 #[.pointer (some ⟨B, 0, none⟩), .int .i64 i] w fun e w' => e = .returned (.tuple #[.slice none 0 0, .int .i64 c]) ∧ w = w' := by
  have HD := Lib.hid h
  have HC := Lib.hid hc
  clear h hc
  go_enter Try.func19, Try.ntmps19
  go_wp2_with fail
  refine (check_any B off i _ HD.out.c_off).mono ?_
  rintro e w1 ⟨rfl, rfl⟩
  rw [HC.out]
  go_wp2
  go_ret2
  exact ⟨rfl, rfl⟩

end Go.Proofs.Yteoodgcpkgfomaa
