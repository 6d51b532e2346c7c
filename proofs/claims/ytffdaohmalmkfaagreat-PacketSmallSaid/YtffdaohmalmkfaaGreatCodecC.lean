/-
  Codec: putInt, putText, AppendUint, AppendInt, AppendText, and those of the reference.
-/
import Derived.Test.YtffdaohmalmkfaaGreatCodecB
namespace Go.Proofs.YtffdaohmalmkfaaGreat
open Go.RowKit
set_option linter.unusedVariables false

/-- Zigzag. -/
def zz (m : Int) : Nat := if 0 ≤ m then (2 * m).toNat else (-2 * m - 1).toNat
theorem zz_lt (m : Int) (h1 : -9223372036854775808 ≤ m) (h2 : m ≤ 9223372036854775807) : zz m < 18446744073709551616 := by unfold zz; split <;> omega

theorem xor_ones (a : Nat) (h : a < 18446744073709551616) : a ^^^ 18446744073709551615 = 18446744073709551615 - a := by
  have h1 := BitVec.xor_allOnes (x := BitVec.ofNat 64 a)
  have h2 := congrArg BitVec.toNat h1
  rw [BitVec.toNat_xor, BitVec.toNat_not, BitVec.toNat_ofNat, BitVec.toNat_allOnes] at h2
  rw [Nat.mod_eq_of_lt (by omega)] at h2
  exact h2
theorem zig (x m : Int) (h1 : -9223372036854775808 ≤ m) (h2 : m ≤ 9223372036854775807) (hx : x % 18446744073709551616 = (2 * m) % 18446744073709551616) :
    bits BinOp.xor IntKind.u64 (IntKind.u64.wrap x) (IntKind.u64.wrap (m / 9223372036854775808)) = (zz m : Int) := by
  rw [IntKind.wrap_u64, IntKind.wrap_u64, hx]
  by_cases hm : 0 ≤ m
  · have e1 : (2 * m) % 18446744073709551616 = (((2 * m).toNat : Nat) : Int) := by omega
    have e2 : (m / 9223372036854775808) % 18446744073709551616 = ((0 : Nat) : Int) := by omega
    rw [e1, e2, bits_xor_u64_nat _ _ (by omega) (by decide), Nat.xor_zero]
    simp [zz, hm]
  · have e1 : (2 * m) % 18446744073709551616 = (((2 * m + 18446744073709551616).toNat : Nat) : Int) := by omega
    have e2 : (m / 9223372036854775808) % 18446744073709551616 = ((18446744073709551615 : Nat) : Int) := by omega
    rw [e1, e2, bits_xor_u64_nat _ _ (by omega) (by decide), xor_ones _ (by omega)]
    simp only [zz, if_neg hm]
    omega
theorem zig1 (m : Int) (h1 : -9223372036854775808 ≤ m) (h2 : m ≤ 9223372036854775807) : bits BinOp.xor IntKind.u64 (IntKind.u64.wrap (wrap64 (m * 2))) (IntKind.u64.wrap (m / 9223372036854775808)) = (zz m : Int) := by
  refine zig _ m h1 h2 ?_
  unfold wrap64
  omega
theorem zig2 (m : Int) (h1 : -9223372036854775808 ≤ m) (h2 : m ≤ 9223372036854775807) : bits BinOp.xor IntKind.u64 (IntKind.u64.wrap (IntKind.u64.wrap m * 2)) (IntKind.u64.wrap (m / 9223372036854775808)) = (zz m : Int) := by
  refine zig _ m h1 h2 ?_
  rw [IntKind.wrap_u64]
  omega

set_option maxHeartbeats 800000 in
theorem putInt_any (base : Nat) (b : Value) (l : List UInt8) (m : Int) (w : World) (h : OwnB w base 5 b l) (h1 : -9223372036854775808 ≤ m) (h2 : m ≤ 9223372036854775807) (hl : l.length ≤ 140737488355000) (hb : base ≤ w.heap.size) :
    Calls Tryz.prog 147 #[b, .int .i64 m] w (PutOk base b (l ++ leb (zz m)) w) := by
  obtain ⟨M, hM⟩ : ∃ M, M = l ++ leb (zz m) := ⟨_, rfl⟩
  rw [← hM]
  have HM := Lib.hid hM
  clear hM
  have H := Lib.hid h
  obtain ⟨A0, cap0, rfl⟩ := own_form h
  clear h
  go_enter Tryz.func147, Tryz.ntmps147
  go_wp2_with fail
  rw [zig1 m h1 h2]
  refine (putUint_any base _ l (zz m) w H.out (zz_lt m h1 h2) hl hb).mono ?_
  rw [← HM.out]
  rintro e w1 ⟨A1, cap1, rfl, hown, hk1, hat⟩
  have HX : Hid (PutOk base (.slice A0 l.length cap0) M w (.returned (.slice A1 M.length cap1)) w1) := Lib.hid ⟨A1, cap1, rfl, hown, hk1, hat⟩
  clear hown hat
  go_wp2
  go_ret
  exact HX.out

/-- The bytes of a string. -/
def sbytes (s : ByteArray) : List UInt8 := s.data.toList
theorem strCells_bytes (s : ByteArray) : Lib.strCells s = (sbytes s).map bv := rfl
theorem sbytes_length (s : ByteArray) : (sbytes s).length = s.size := by simp [sbytes]

set_option maxHeartbeats 800000 in
theorem putText_any (base : Nat) (b : Value) (l : List UInt8) (s : ByteArray) (w : World) (h : OwnB w base 5 b l) (hs : s.size ≤ 16777000) (hl : l.length ≤ 140737000000000) (hb : base ≤ w.heap.size) :
    Calls Tryz.prog 313 #[b, .string s] w (PutB base (l ++ (leb s.size ++ sbytes s)) w) := by
  obtain ⟨M, hM⟩ : ∃ M, M = l ++ leb s.size := ⟨_, rfl⟩
  have hML : M.length ≤ l.length + 11 := by rw [hM, List.length_append]; have := (leb_length s.size).2; omega
  rw [← List.append_assoc, ← hM]
  have HM := Lib.hid hM
  clear hM
  obtain ⟨i0, hi, hz0, hz1, hz2⟩ := info_parts info_byte
  have H := Lib.hid h
  obtain ⟨A0, cap0, rfl⟩ := own_form h
  clear h
  go_enter Tryz.func313, Tryz.ntmps313
  go_wp2_with fail
  refine (putUint_any base _ l s.size w H.out (by omega) (by omega) hb).mono ?_
  rw [← HM.out]
  rintro e w1 ⟨A1, cap1, rfl, hown, hk1, hat⟩
  have m1 : M.length + s.size ≤ maxLen := by simp only [maxLen]; omega
  have m2 : M.length + s.size ≤ 140737488355328 := by omega
  have HO := Lib.hid hown
  have hb1 : base ≤ w1.heap.size := Nat.le_trans hb hk1.size
  clear hown
  go_wp2_with (at_builtin; go_must (refine Lib.wpList_append_own_string _ rfl _ _ 22 9 rfl base 5 i0 Tryz.underlying22 Tryz.underlying9 hi hz0 hz1 hz2 (.slice A1 M.length cap1) M.length (M.map bv) rfl HO.out s rfl m1 m2 hb1 ?_); intro v2 w2 hown2 hg2 hat2)
  obtain ⟨A2, cap2, hv2⟩ := own_form hown2
  subst hv2
  have e : (M ++ sbytes s).length = M.length + s.size := by simp [sbytes_length]
  have hx : PutB base (M ++ sbytes s) w (.returned (.slice A2 (M.length + s.size) cap2)) w2 := by
    refine ⟨A2, cap2, by rw [e], ?_, ?_⟩
    · unfold OwnB
      rw [e]
      have h9 := hown2
      rw [strCells_bytes, ← List.map_append] at h9
      exact h9
    · exact (hk1.mono (T := From base) (fun k _ h => (own_base H.out h).1)).grown hg2 (fun k _ h => (own_base HO.out h).1)
  have HX := Lib.hid hx
  clear hx hown2 hg2 hat2 e
  go_ret
  exact HX.out

theorem RetB.ofPut {m : List UInt8} {w w1 w2 : World} {e : Ending} (hk : Kept Kno w w1) (h : PutB w.heap.size m w1 e w2) : RetB m w e w2 := by
  obtain ⟨A, cap, h1, h2, h3⟩ := h
  exact ⟨A, cap, h1, h2, kept_from hk h3 (Nat.le_refl _)⟩

set_option maxHeartbeats 800000 in
theorem appendUint_any (v : Value) (l : List UInt8) (n : Nat) (w : World) (h : Bs w v l) (hn : n < 18446744073709551616) (hl : l.length ≤ 16000000) :
    Calls Tryz.prog 203 #[v, .int .u64 n] w (RetB (l ++ leb n) w) := by
  obtain ⟨M, hM⟩ : ∃ M, M = l ++ leb n := ⟨_, rfl⟩
  rw [← hM]
  have HM := Lib.hid hM
  clear hM
  have H := Lib.hid h
  obtain ⟨A, cap, rfl, -⟩ := h
  go_enter Tryz.func203, Tryz.ntmps203
  go_wp2_with fail
  refine (grown_any _ l 10 w H.out (by omega)).mono ?_
  rintro e w1 ⟨A1, cap1, rfl, hown, hk1⟩
  have HO := Lib.hid hown
  clear hown
  go_wp2_with fail
  refine (putUint_any w.heap.size _ l n w1 HO.out hn (by omega) hk1.size).mono ?_
  rw [← HM.out]
  rintro e w2 hp
  obtain ⟨A2, cap2, he, hown2, hk2⟩ := RetB.ofPut hk1 (hp.b HO.out)
  subst he
  have HX : Hid (RetB M w (.returned (.slice A2 M.length cap2)) w2) := Lib.hid ⟨A2, cap2, rfl, hown2, hk2⟩
  clear hp hown2
  go_wp2
  go_ret
  exact HX.out

set_option maxHeartbeats 800000 in
theorem appendInt_any (v : Value) (l : List UInt8) (m : Int) (w : World) (h : Bs w v l) (h1 : -9223372036854775808 ≤ m) (h2 : m ≤ 9223372036854775807) (hl : l.length ≤ 16000000) :
    Calls Tryz.prog 83 #[v, .int .i64 m] w (RetB (l ++ leb (zz m)) w) := by
  obtain ⟨M, hM⟩ : ∃ M, M = l ++ leb (zz m) := ⟨_, rfl⟩
  rw [← hM]
  have HM := Lib.hid hM
  clear hM
  have H := Lib.hid h
  obtain ⟨A, cap, rfl, -⟩ := h
  go_enter Tryz.func83, Tryz.ntmps83
  go_wp2_with fail
  refine (grown_any _ l 10 w H.out (by omega)).mono ?_
  rintro e w1 ⟨A1, cap1, rfl, hown, hk1⟩
  have HO := Lib.hid hown
  clear hown
  go_wp2_with fail
  refine (putInt_any w.heap.size _ l m w1 HO.out h1 h2 (by omega) hk1.size).mono ?_
  rw [← HM.out]
  rintro e w2 hp
  obtain ⟨A2, cap2, he, hown2, hk2⟩ := RetB.ofPut hk1 (hp.b HO.out)
  subst he
  have HX : Hid (RetB M w (.returned (.slice A2 M.length cap2)) w2) := Lib.hid ⟨A2, cap2, rfl, hown2, hk2⟩
  clear hp hown2
  go_wp2
  go_ret
  exact HX.out

set_option maxHeartbeats 800000 in
theorem refAppendUint_any (v : Value) (l : List UInt8) (n : Nat) (w : World) (h : Bs w v l) (hn : n < 18446744073709551616) (hl : l.length ≤ 16000000) :
    Calls Tryz.prog 206 #[v, .int .u64 n] w (RetB (l ++ leb n) w) := by
  obtain ⟨M, hM⟩ : ∃ M, M = l ++ leb n := ⟨_, rfl⟩
  rw [← hM]
  have HM := Lib.hid hM
  clear hM
  have H := Lib.hid h
  obtain ⟨A, cap, rfl, -⟩ := h
  go_enter Tryz.func206, Tryz.ntmps206
  go_wp2_with fail
  refine (fresh_any _ l w H.out (by omega)).mono ?_
  rintro e w1 ⟨A1, cap1, rfl, hown, hk1⟩
  have HO := Lib.hid hown
  clear hown
  go_wp2_with fail
  refine (refUint_any w.heap.size _ l n w1 HO.out hn (by omega) hk1.size).mono ?_
  rw [← HM.out]
  rintro e w2 hp
  obtain ⟨A2, cap2, he, hown2, hk2⟩ := RetB.ofPut hk1 (hp.b HO.out)
  subst he
  have HX : Hid (RetB M w (.returned (.slice A2 M.length cap2)) w2) := Lib.hid ⟨A2, cap2, rfl, hown2, hk2⟩
  clear hp hown2
  go_wp2
  go_ret
  exact HX.out

set_option maxHeartbeats 800000 in
theorem refAppendInt_any (v : Value) (l : List UInt8) (m : Int) (w : World) (h : Bs w v l) (h1 : -9223372036854775808 ≤ m) (h2 : m ≤ 9223372036854775807) (hl : l.length ≤ 16000000)  :
    Calls Tryz.prog 200 #[v, .int .i64 m] w (RetB (l ++ leb (zz m)) w) := by
  obtain ⟨M, hM⟩ : ∃ M, M = l ++ leb (zz m) := ⟨_, rfl⟩
  rw [← hM]
  have HM := Lib.hid hM
  clear hM
  have H := Lib.hid h
  obtain ⟨A, cap, rfl, -⟩ := h
  go_enter Tryz.func200, Tryz.ntmps200
  go_wp2_with fail
  refine (fresh_any _ l w H.out (by omega)).mono ?_
  rintro e w1 ⟨A1, cap1, rfl, hown, hk1⟩
  have HO := Lib.hid hown
  clear hown
  go_wp2_with fail
  rw [zig2 m h1 h2]
  refine (refUint_any w.heap.size _ l (zz m) w1 HO.out (zz_lt m h1 h2) (by omega) hk1.size).mono ?_
  rw [← HM.out]
  rintro e w2 hp
  obtain ⟨A2, cap2, he, hown2, hk2⟩ := RetB.ofPut hk1 (hp.b HO.out)
  subst he
  have HX : Hid (RetB M w (.returned (.slice A2 M.length cap2)) w2) := Lib.hid ⟨A2, cap2, rfl, hown2, hk2⟩
  clear hp hown2
  go_wp2
  go_ret
  exact HX.out

end Go.Proofs.YtffdaohmalmkfaaGreat
