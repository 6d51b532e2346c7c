/-
  CodecNumbers: the walk: for all bytes, numbers and texts (of at most 1048576 bytes) the law returns true, and changes nothing that was there.
-/
import Derived.Test.YtdpbpmokmlnleaaCodecI
import Derived.Test.YtdpbpmokmlnleaaBytesIn
namespace Go.Proofs.Ytdpbpmokmlnleaa
open Go.RowKit Go.ChangeShapes Go.WideShapes Go.ChangeAt
set_option linter.unusedVariables false

set_option maxHeartbeats 2000000 in
theorem numbers_walk (bv0 : Value) (l : List UInt8) (n : Nat) (m : Int) (s : ByteArray) (w : World) (hin : Bs w bv0 l) (hll : l.length ≤ maxLen) (hn : n < 18446744073709551616) (h1 : -9223372036854775808 ≤ m) (h2 : m ≤ 9223372036854775807) (hs : s.size ≤ 1048576) :
    Calls Try.prog 3 #[bv0, .int .u64 n, .int .i64 m, .string s] w (RetNew (.bool true) w) := by
  have HN := Lib.hid hn
  clear hn
  have HIN := Lib.hid hin
  obtain ⟨Ab, capb, rfl, -⟩ := hin
  go_enter Try.func3, Try.ntmps3
  go_wp2_with fail
  refine (part_any _ l w HIN.out hll).mono ?_
  rintro e w0 ⟨u, rfl, hu, rfl⟩
  have hp : (l.take 200).length ≤ 200 := by rw [List.length_take]; omega
  generalize l.take 200 = p at hu hp
  have HU := Lib.hid hu
  obtain ⟨Au, capu, rfl, -⟩ := hu
  go_wp2_with fail
  refine (begun_any w).mono ?_
  rintro e w1 ⟨rfl, hk1⟩
  go_wp2_with fail
  refine (appendUint_any _ p n w1 (Rd.kept0 HU.out hk1) HN.out (by omega)).mono ?_
  rintro e w2 ⟨A2, cap2, rfl, hown2, hkk2⟩
  have hk2 : Kept Kno w w2 := hk1.then0 hkk2
  obtain ⟨M, hM⟩ : ∃ M, M = p ++ leb n := ⟨_, rfl⟩
  rw [← hM] at hown2 ⊢
  have HM := Lib.hid hM
  have HO2 := Lib.hid hown2
  clear hown2 hkk2 hM
  go_wp2_with fail
  refine (refAppendUint_any _ p n w2 (Rd.kept0 HU.out hk2) HN.out (by omega)).mono ?_
  rw [← HM.out]
  rintro e w3 ⟨A3, cap3, rfl, hown3, hkk3⟩
  have hk3 : Kept Kno w w3 := hk2.then0 hkk3
  have HB2 : Hid (Bs w3 (.slice A2 M.length cap2) M) := Lib.hid (Rd.kept0 (OwnB.bs HO2.out) hkk3)
  have HB3 : Hid (Bs w3 (.slice A3 M.length cap3) M) := Lib.hid (OwnB.bs hown3)
  clear hown3 hkk3 HO2
  go_wp2_with fail
  refine (same_any _ _ M M w3 HB2.out HB3.out).mono ?_
  rw [decide_eq_true (Eq.refl M)]
  rintro e w4 ⟨rfl, rfl⟩
  clear HB2 HB3 HM
  go_wp2_with fail
  refine (appendInt_any _ p m w3 (Rd.kept0 HU.out hk3) h1 h2 (by omega)).mono ?_
  rintro e w4 ⟨A4, cap4, rfl, hown4, hkk4⟩
  have hk4 : Kept Kno w w4 := hk3.then0 hkk4
  obtain ⟨N, hN⟩ : ∃ N, N = p ++ leb (zz m) := ⟨_, rfl⟩
  rw [← hN] at hown4 ⊢
  have HNN := Lib.hid hN
  have HO4 := Lib.hid hown4
  clear hown4 hkk4 hN
  go_wp2_with fail
  refine (refAppendInt_any _ p m w4 (Rd.kept0 HU.out hk4) h1 h2 (by omega)).mono ?_
  rw [← HNN.out]
  rintro e w5 ⟨A5, cap5, rfl, hown5, hkk5⟩
  have hk5 : Kept Kno w w5 := hk4.then0 hkk5
  have HB4 : Hid (Bs w5 (.slice A4 N.length cap4) N) := Lib.hid (Rd.kept0 (OwnB.bs HO4.out) hkk5)
  have HB5 : Hid (Bs w5 (.slice A5 N.length cap5) N) := Lib.hid (OwnB.bs hown5)
  clear hown5 hkk5 HO4
  go_wp2_with fail
  refine (same_any _ _ N N w5 HB4.out HB5.out).mono ?_
  rw [decide_eq_true (Eq.refl N)]
  rintro e w6 ⟨rfl, rfl⟩
  clear HB4 HB5 HNN
  go_wp2_with fail
  refine (appendText_any _ p s w5 (Rd.kept0 HU.out hk5) (by omega)).mono ?_
  rintro e w6 ⟨A6, cap6, rfl, hown6, hkk6⟩
  have hk6 : Kept Kno w w6 := hk5.then0 hkk6
  obtain ⟨T, hT⟩ : ∃ T, T = p ++ (leb s.size ++ sbytes s) := ⟨_, rfl⟩
  rw [← hT] at hown6 ⊢
  have HT := Lib.hid hT
  have HO6 := Lib.hid hown6
  clear hown6 hkk6 hT
  go_wp2_with fail
  refine (refAppendText_any _ p s w6 (Rd.kept0 HU.out hk6) (by omega)).mono ?_
  rw [← HT.out]
  rintro e w7 ⟨A7, cap7, rfl, hown7, hkk7⟩
  have hk7 : Kept Kno w w7 := hk6.then0 hkk7
  have HB6 : Hid (Bs w7 (.slice A6 T.length cap6) T) := Lib.hid (Rd.kept0 (OwnB.bs HO6.out) hkk7)
  have HB7 : Hid (Bs w7 (.slice A7 T.length cap7) T) := Lib.hid (OwnB.bs hown7)
  clear hown7 hkk7 HO6
  go_wp2_with fail
  refine (same_any _ _ T T w7 HB6.out HB7.out).mono ?_
  rw [decide_eq_true (Eq.refl T)]
  rintro e w8 ⟨rfl, rfl⟩
  go_wp2
  go_ret
  exact ⟨rfl, hk7⟩

theorem numbers_final (bv0 : Value) (l : List UInt8) (n m : Int) (s : ByteArray) (w : World) (hin : Bs w bv0 l ∧ l.length ≤ maxLen) (hn : (Lit.int .u64 n).wf = true) (hm : (Lit.int .i64 m).wf = true) (_ : s.size ≤ maxLen) {H : Type} {d0 d1 d2 : DataW H}
    (hk : Rows.uptoSmall H ([d0, d1, d2, .lit (.string s.data.toList)] ++ []) = true) :
    Calls Try.prog 3 #[bv0, .int .u64 n, .int .i64 m, .string s] w (RetNew (.bool true) w) := by
  have hx : 0 ≤ n ∧ n ≤ 18446744073709551615 := by simpa [Lit.wf, IntKind.min, IntKind.max, IntKind.signed, IntKind.bits] using hn
  have hy : -9223372036854775808 ≤ m ∧ m ≤ 9223372036854775807 := by simpa [Lit.wf, IntKind.min, IntKind.max, IntKind.signed, IntKind.bits] using hm
  obtain ⟨k, rfl⟩ : ∃ k : Nat, n = (k : Int) := ⟨n.toNat, by omega⟩
  have hs : s.size ≤ 1048576 := by
    have h9 := of_decide_eq_true hk
    simp only [List.append_nil, Rows.uptoBulkAll, Rows.uptoBulk, Array.length_toList] at h9
    have : s.data.size = s.size := rfl
    omega
  exact numbers_walk bv0 l k m s w hin.1 hin.2 (by omega) hy.1 hy.2 hs
end Go.Proofs.Ytdpbpmokmlnleaa
