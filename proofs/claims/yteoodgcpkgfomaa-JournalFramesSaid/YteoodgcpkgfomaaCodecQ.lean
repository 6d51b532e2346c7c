/-
  Codec: the reference's Int and Text.
-/
import Derived.Test.YteoodgcpkgfomaaCodecP
namespace Go.Proofs.Yteoodgcpkgfomaa
open Go.RowKit
set_option linter.unusedVariables false

theorem rdF_err : ∀ (f i N : Nat) (l : List UInt8) (c : Int), rdF f i N l = .error c → c = 20 ∨ c = 21
  | 0, i, N, l, c, h => by simp only [rdF] at h; cases h; exact .inr rfl
  | f + 1, i, N, [], c, h => by simp only [rdF] at h; cases h; exact .inl rfl
  | f + 1, i, N, b :: r, c, h => by
    simp only [rdF] at h
    split at h
    · exact rdF_err f (i + 1) _ r c h
    · split at h
      · cases h; exact .inr rfl
      · cases h
theorem uintAt_err {l : List UInt8} {n : Nat} {c : Int} (h : uintAt l n = .error c) : c = 20 ∨ c = 21 := rdF_err _ _ _ _ _ h

/-- How the three readers hang together. -/
theorem uintRes_cases (l : List UInt8) (n : Int) : ((n < 0 ∨ (l.length : Int) < n) ∧ uintRes l n = (0, 0, 1) ∧ intRes l n = (0, 0, 1)) ∨
    (∃ c, 0 ≤ n ∧ n ≤ (l.length : Int) ∧ uintAt l n.toNat = .error c ∧ (c = 20 ∨ c = 21) ∧ uintRes l n = (0, 0, c) ∧ intRes l n = (0, 0, c)) ∨
    (∃ N k, 0 ≤ n ∧ n ≤ (l.length : Int) ∧ uintAt l n.toNat = .ok (N, k) ∧ uintRes l n = (N, n.toNat + k, 0) ∧ intRes l n = (unzz N, n.toNat + k, 0)) := by
  unfold uintRes intRes
  by_cases hn : n < 0 ∨ (l.length : Int) < n
  · exact .inl ⟨hn, by rw [if_pos hn], by rw [if_pos hn]⟩
  · rw [if_neg hn, if_neg hn]
    cases hx : uintAt l n.toNat with
    | error c => exact .inr (.inl ⟨c, by omega, by omega, rfl, uintAt_err hx, rfl, rfl⟩)
    | ok p => exact .inr (.inr ⟨p.1, p.2, by omega, by omega, rfl, rfl, rfl⟩)

theorem ret3_0 {x y : Value} {a b : Int} (h : a = b) : Ending.returned (.tuple #[.int .i64 a, x, y]) = .returned (.tuple #[.int .i64 b, x, y]) := by rw [h]
theorem xor_i64_2 (a : Nat) (h : a < 9223372036854775808) : bits .xor .i64 (-1) (a : Int) = -(a : Int) - 1 := by
  have h1 : (BitVec.ofInt 64 (a : Int)).toNat = a := by
    rw [BitVec.ofInt_natCast, BitVec.toNat_ofNat]; exact Nat.mod_eq_of_lt (by omega)
  show IntKind.i64.wrap ((BitVec.ofInt 64 (-1) ^^^ BitVec.ofInt 64 (a : Int)).toNat : Int) = _
  have h0 : (BitVec.ofInt 64 (-1)).toNat = 18446744073709551615 := by decide
  rw [BitVec.toNat_xor, h1, h0, Nat.xor_comm, xor_ones a (by omega), IntKind.wrap_i64]
  omega
theorem half_i64 (N : Nat) (h : N < 18446744073709551616) : wrap64 ((N : Int) / 2) = ((N / 2 : Nat) : Int) := by unfold wrap64; omega

/-- Text, out of Uint. -/
theorem textRes_cases (l : List UInt8) (n most : Int) : ((n < 0 ∨ (l.length : Int) < n ∨ most < 0) ∧ textRes l n most = ([], 0, 1)) ∨
    (0 ≤ n ∧ n ≤ (l.length : Int) ∧ 0 ≤ most ∧ ((∃ c, uintAt l n.toNat = .error c ∧ (c = 20 ∨ c = 21) ∧ uintRes l n = (0, 0, c) ∧ textRes l n most = ([], 0, c)) ∨
    (∃ N k, uintAt l n.toNat = .ok (N, k) ∧ uintRes l n = (N, n.toNat + k, 0) ∧
      textRes l n most = if most.toNat < N then ([], 0, 2) else if l.length - (n.toNat + k) < N then ([], 0, 20) else ((l.drop (n.toNat + k)).take N, n.toNat + (k + N), 0)))) := by
  unfold uintRes textRes
  by_cases hn : n < 0 ∨ (l.length : Int) < n ∨ most < 0
  · exact .inl ⟨hn, by rw [if_pos hn]⟩
  · rw [if_neg hn, if_neg (by omega)]
    refine .inr ⟨by omega, by omega, by omega, ?_⟩
    unfold textAt
    cases hx : uintAt l n.toNat with
    | error c => exact .inl ⟨c, rfl, uintAt_err hx, rfl, rfl⟩
    | ok p =>
      refine .inr ⟨p.1, p.2, rfl, rfl, ?_⟩
      simp only
      by_cases h1 : most.toNat < p.1
      · rw [if_pos h1, if_pos h1]
      · rw [if_neg h1, if_neg h1]
        by_cases h2 : l.length - (n.toNat + p.2) < p.1
        · rw [if_pos h2, if_pos h2]
        · rw [if_neg h2, if_neg h2]

set_option maxRecDepth 100000 in
/-- 'string(b[a : a+N])' inside the length. -/
theorem run_part_string (w : World) (A : Option Addr) (cap a N : Nat) (l : List UInt8) (hb : Bs w (.slice A l.length cap) l) (hla : a + N ≤ l.length) (ha0 : 0 < a) :
    (∀ w', (Instr.slice 30 (.slice A l.length cap) (some (.int .i64 (a : Int))) (some (.int .i64 ((a + N : Nat) : Int))) none).run Try.prog w' = .ok (sliced A a (a + N) cap 1) w') ∧
    (convert 30 9 (sliced A a (a + N) cap 1)).run Try.prog w = .ok (strOf ((l.drop a).take N)) w := by
  have hbb := hb
  obtain ⟨A', cap', hv, h5, h6, h7, h8⟩ := hbb
  injection hv with e1 e2 e3
  subst e1 e3
  have hsz : ∀ w', (sizeOf (Try.prog.elem 30)).run Try.prog w' = .ok 1 w' := fun w' => by
    have hel : Try.prog.elem 30 = 5 := by kernel_rfl
    obtain ⟨i0, hi, hz0, hz1, hz2⟩ := info_parts info_byte
    rw [hel]
    simp [sizeOf, typeInfo, hi, hz1]
  have HA : ∃ g o, A = some ⟨g, o, none⟩ := by
    rcases A with _ | ad
    · have := (h7 rfl).1; omega
    · have h0 := h8 ad rfl 0 (bv (l[0]'(by omega))) (by rw [List.getElem?_map, List.getElem?_eq_getElem (by omega)]; rfl)
      obtain ⟨g, o, spot⟩ := ad
      have := World.cell?_spot h0
      have hs : spot = none := by simpa [Addr.add] using this
      subst hs
      exact ⟨g, o, rfl⟩
  obtain ⟨g, o, rfl⟩ := HA
  refine ⟨fun w' => run_slice_nat w' 30 Try.underlying30 hsz _ _ cap a (a + N) (by omega) (by omega), ?_⟩
  have hbs : Bs w (sliced (some ⟨g, o, none⟩) a (a + N) cap 1) ((l.drop a).take N) := by
    unfold sliced
    by_cases hca : cap = a
    · have hN0 : N = 0 := by omega
      subst hN0
      rw [if_pos hca, List.take_zero, hca, Nat.add_zero, Nat.sub_self]
      exact bs_part0 hb
    · rw [if_neg hca, Nat.mul_one, Nat.add_sub_cancel_left]
      have h9 := bs_part hb a N hla
      rw [← add_lit0] at h9
      exact h9
  exact run_string_bs (P := Try.prog) 30 9 5 hbs Try.underlying30 Try.underlying5 Try.underlying9

set_option maxRecDepth 100000 in
set_option maxHeartbeats 2000000 in
theorem refTextF_any (v : Value) (l : List UInt8) (n most : Int) (w : World) (hb : Bs w v l) (hl : l.length ≤ 1000000) (hm : most ≤ 9223372036854775807) :
    Calls Try.prog 81 #[v, .int .i64 n, .int .i64 most] w fun e w' => e = .returned (.tuple #[strOf (textRes l n most).1, .int .i64 (textRes l n most).2.1, .int .i64 (textRes l n most).2.2]) ∧ w = w' := by
  have HB := Lib.hid hb
  obtain ⟨A, cap, rfl, hlc, -⟩ := hb
  rcases textRes_cases l n most with ⟨h0, h2⟩ | ⟨h0, h00, hm0, ⟨c, -, hc, h1, h2⟩ | ⟨N, k, hx, h1, h2⟩⟩
  · rw [h2]
    clear h2
    by_cases q0 : n < 0
    · go_enter Try.func81, Try.ntmps81
      go_wp2
      go_ret3
      exact ⟨rfl, rfl⟩
    · by_cases q1 : (l.length : Int) < n
      · clear h0
        go_enter Try.func81, Try.ntmps81
        go_wp2
        go_ret3
        exact ⟨rfl, rfl⟩
      · have q2 : most < 0 := by omega
        clear h0
        go_enter Try.func81, Try.ntmps81
        go_wp2
        go_ret3
        exact ⟨rfl, rfl⟩
  · rw [h2]
    have H1 := Lib.hid h1
    have hc1 : (c != 0) = true := by simp; omega
    have q0 : ¬ n < 0 := by omega
    have q1 : ¬ (l.length : Int) < n := by omega
    have q2 : ¬ most < 0 := by omega
    clear h1 h2 hc
    go_enter Try.func81, Try.ntmps81
    go_wp2_with fail
    refine (refUintF_any _ l n w HB.out hl).mono ?_
    rw [H1.out]
    rintro e w' ⟨rfl, rfl⟩
    go_wp2
    go_ret3
    exact ⟨rfl, rfl⟩
  · obtain ⟨hN, hk0, hk10, hkl⟩ := uintAt_ok hx
    obtain ⟨m, rfl⟩ : ∃ m : Nat, n = (m : Int) := ⟨n.toNat, by omega⟩
    obtain ⟨q, rfl⟩ : ∃ q : Nat, most = (q : Int) := ⟨most.toNat, by omega⟩
    rw [Int.toNat_natCast, Int.toNat_natCast] at h2
    rw [Int.toNat_natCast] at h1 hkl
    have q0 : ¬ (m : Int) < 0 := by omega
    have q1 : ¬ (l.length : Int) < (m : Int) := by omega
    have q2 : ¬ (q : Int) < 0 := by omega
    have hwm : IntKind.u64.wrap (q : Int) = (q : Int) := by rw [IntKind.wrap_u64]; omega
    have H1 := Lib.hid h1
    clear h1 hx
    by_cases p1 : q < N
    · rw [if_pos p1] at h2
      rw [h2]
      have p1' : (q : Int) < (N : Int) := by omega
      generalize m + k = mk at H1
      clear h2
      go_enter Try.func81, Try.ntmps81
      go_wp2_with fail
      refine (refUintF_any _ l m w HB.out hl).mono ?_
      rw [H1.out]
      rintro e w' ⟨rfl, rfl⟩
      go_wp2
      go_ret3
      exact ⟨rfl, rfl⟩
    · rw [if_neg p1] at h2
      have p1' : ¬ (q : Int) < (N : Int) := by omega
      have ha0 : 0 < m + k := by omega
      have hak : m + k ≤ l.length := by omega
      rw [← Nat.add_assoc] at h2
      generalize m + k = a at H1 h2 ha0 hak
      have d1 : IntKind.u64.wrap (IntKind.i64.wrap ((l.length : Int) - (a : Int))) = ((l.length - a : Nat) : Int) := by rw [IntKind.wrap_u64, IntKind.wrap_i64]; omega
      have d1b : IntKind.u64.wrap ((l.length : Int) - (a : Int)) = ((l.length - a : Nat) : Int) := by rw [IntKind.wrap_u64]; omega
      by_cases p2 : l.length - a < N
      · rw [if_pos p2] at h2
        rw [h2]
        have d2 : decide (l.length - a < N) = true := by simpa using p2
        have d3 : (l.length : Int) - (a : Int) < (N : Int) := by omega
        clear h2
        go_enter Try.func81, Try.ntmps81
        go_wp2_with fail
        refine (refUintF_any _ l m w HB.out hl).mono ?_
        rw [H1.out]
        rintro e w' ⟨rfl, rfl⟩
        go_wp2
        go_ret3
        exact ⟨rfl, rfl⟩
      · rw [if_neg p2] at h2
        rw [h2]
        have d2 : decide (l.length - a < N) = false := by simpa using p2
        have d3 : ¬ (l.length : Int) - (a : Int) < (N : Int) := by omega
        have hla : a + N ≤ l.length := by omega
        obtain ⟨t1, t2⟩ := run_part_string w A cap a N l HB.out hla ha0
        have hst : ∃ S : ByteArray, strOf ((l.drop a).take N) = .string S := ⟨_, rfl⟩
        obtain ⟨S, hst⟩ := hst
        rw [hst] at t2
        have e1 : ((a : Int) + (N : Int)) = ((a + N : Nat) : Int) := by omega
        have hs1 : (a : Int) + (N : Int) ≤ 1000000 := by omega
        rw [hst]
        have E1 := Lib.hid e1
        clear h2 hst t1 e1
        unfold sliced at t2
        by_cases hca : cap = a
        · rw [if_pos hca, Nat.add_sub_cancel_left] at t2
          subst hca
          rw [Nat.sub_self] at t2
          go_enter Try.func81, Try.ntmps81
          go_wp2_with fail
          refine (refUintF_any _ l m w HB.out hl).mono ?_
          rw [H1.out]
          rintro e w' ⟨rfl, rfl⟩
          go_wp2
          go_ret3
          exact ⟨ret3_i E1.out, rfl⟩
        · rw [if_neg hca, Nat.add_sub_cancel_left, Nat.mul_one] at t2
          go_enter Try.func81, Try.ntmps81
          go_wp2_with fail
          refine (refUintF_any _ l m w HB.out hl).mono ?_
          rw [H1.out]
          rintro e w' ⟨rfl, rfl⟩
          go_wp2
          go_ret3
          exact ⟨ret3_i E1.out, rfl⟩

end Go.Proofs.Yteoodgcpkgfomaa
