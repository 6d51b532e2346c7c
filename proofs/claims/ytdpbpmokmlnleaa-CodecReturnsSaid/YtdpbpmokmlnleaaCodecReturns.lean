/-
  CodecReturns: the walk.
-/
import Derived.Test.YtdpbpmokmlnleaaCodecCuts
import Derived.Test.YtdpbpmokmlnleaaCodecV
namespace Go.Proofs.Ytdpbpmokmlnleaa
open Go.RowKit
set_option linter.unusedVariables false

theorem uintRes_at (H R : List UInt8) (n : Nat) (h : n < 18446744073709551616) : uintRes (H ++ (leb n ++ R)) (H.length : Int) = (n, (H ++ leb n).length, 0) := by
  unfold uintRes
  rw [if_neg (by rw [List.length_append]; omega), Int.toNat_natCast, uintAt_drop, List.drop_left, uint_ret n R h, List.length_append]
theorem intRes_at (H R : List UInt8) (m : Int) (h1 : -9223372036854775808 ≤ m) (h2 : m ≤ 9223372036854775807) : intRes (H ++ (leb (zz m) ++ R)) (H.length : Int) = (m, (H ++ leb (zz m)).length, 0) := by
  unfold intRes
  rw [if_neg (by rw [List.length_append]; omega), Int.toNat_natCast, uintAt_drop, List.drop_left, uint_ret _ R (zz_lt m h1 h2), List.length_append]
  simp only [unzz_zz]
theorem textRes_at (H R : List UInt8) (s : ByteArray) (hs : s.size ≤ 64) : textRes (H ++ ((leb s.size ++ sbytes s) ++ R)) (H.length : Int) 64 = (sbytes s, (H ++ (leb s.size ++ sbytes s)).length, 0) := by
  unfold textRes
  have hd := textAt_drop2 (H ++ ((leb s.size ++ sbytes s) ++ R)) H.length 0 64
  rw [List.drop_left, Nat.add_zero] at hd
  have h64 : (64 : Int).toNat = 64 := rfl
  rw [if_neg (by rw [List.length_append]; omega), Int.toNat_natCast, h64, ← hd, List.append_assoc, size_sbytes, text_ret _ R 64 (by rw [sbytes_length]; omega) (by rw [sbytes_length]; omega)]
  simp only [List.length_append]
theorem rowRes2_at (H R : List UInt8) (xs : List Val) (h : ∀ x ∈ xs, ValOk x) (h12 : xs.length ≤ 12) : rowRes2 (H ++ (renc xs ++ R)) (H.length : Int) = (xs, (H ++ renc xs).length, 0) := by
  unfold rowRes2
  rw [if_neg (by rw [List.length_append]; omega), Int.toNat_natCast, rowAt_drop, List.drop_left, row_ret xs R (valsOk_all h) (fun x hx => (h x hx).2) h12, List.length_append]

set_option maxRecDepth 100000 in
set_option maxHeartbeats 8000000 in
theorem returns_walk (cv dv mv : Value) (lc l lm : List UInt8) (n : Nat) (m : Int) (w : World) (hc : Bs w cv lc) (hcl : lc.length ≤ maxLen) (hd : Bs w dv l) (hdl : l.length ≤ maxLen) (hm : Bs w mv lm) (hml : lm.length ≤ maxLen) (hn : n < 18446744073709551616) (h1 : -9223372036854775808 ≤ m) (h2 : m ≤ 9223372036854775807) :
    Calls Try.prog 10 #[cv, dv, mv, .int .u64 n, .int .i64 m] w (RetNew (.bool true) w) := by
  obtain ⟨i0, hi, hz0, hz1, hz2⟩ := info_parts info_byte
  have HC := Lib.hid hc
  have HD := Lib.hid hd
  have HM := Lib.hid hm
  have HN := Lib.hid hn
  obtain ⟨Ac, capc, rfl, -⟩ := hc
  obtain ⟨Ad, capd, rfl, -⟩ := hd
  obtain ⟨Am, capm, rfl, -⟩ := hm
  clear hn
  go_enter Try.func10, Try.ntmps10
  go_wp2_with fail
  refine (newCase_any _ lc w HC.out hcl).mono ?_
  rintro e w1 ⟨K, v, l0, rfl, hcase, hK, hk1⟩
  have HCA := Lib.hid hcase
  clear hcase
  go_wp2_with fail
  refine (int_any K 0 13 v l0 w1 HCA.out (by omega) (by omega)).mono ?_
  rintro e w2 ⟨j, hj, rfl, ⟨a2, hc2⟩, hkk2⟩
  have HC2 := Lib.hid hc2
  have hk2 : Kept Kno w w2 := kept_casek hk1 hkk2 hK
  clear hc2 hkk2 HCA
  go_wp2_with fail
  refine (cells_any K a2 j v l0 w2 HC2.out (by omega)).mono ?_
  rintro e w3 ⟨Ar, capr, xs, rfl, hrow, hxs, hall, ⟨a3, hc3⟩, hkk3⟩
  have hk3 : Kept Kno w w3 := kept_casek hk2 hkk3 hK
  have hx12 : xs.length ≤ 12 := by omega
  have HALL := Lib.hid hall
  have HC3 := Lib.hid hc3
  have hKne : (Value.slice Ar xs.length capr).ownBlock ≠ some K := own_blk_ne hrow hc3.blk (by decide)
  have HR3 := Lib.hid hrow
  clear hrow hxs hkk3 HC2 hall hc3
  go_wp2_with fail
  refine (text_any K a3 v l0 w3 HC3.out).mono ?_
  rintro e w4 ⟨s, hs, rfl, -, hkk4⟩
  have hk4 : Kept Kno w w4 := kept_casek hk3 hkk4 hK
  have HR : Hid (RowIn w4 (.slice Ar xs.length capr) xs) := Lib.hid (OwnR.row (own_kept HR3.out hkk4 (fun k hk e => by unfold Kone at e; subst e; exact hKne hk)) (fun x hx => (HALL.out x hx).2))
  clear HR3 hKne hkk4 HC3
  go_wp2_with fail
  refine (part_any _ l w4 (Rd.kept0 HD.out hk4) hdl).mono ?_
  rintro e w5 ⟨u, rfl, hu, rfl⟩
  have hp : (l.take 200).length ≤ 200 := by rw [List.length_take]; omega
  generalize l.take 200 = p at hu hp
  have HU := Lib.hid hu
  obtain ⟨Au, capu, rfl, -⟩ := hu
  go_wp2_with fail
  refine (part_any _ lm w4 (Rd.kept0 HM.out hk4) hml).mono ?_
  rintro e w5 ⟨u, rfl, hu, rfl⟩
  have hq : (lm.take 200).length ≤ 200 := by rw [List.length_take]; omega
  generalize lm.take 200 = q at hu hq
  have HV := Lib.hid hu
  obtain ⟨Aq, capq, rfl, -⟩ := hu
  go_wp2_with fail
  refine (appendUint_any _ p n w4 HU.out HN.out (by omega)).mono ?_
  rintro e w5 ⟨A5, cap5, rfl, hown5, hkk5⟩
  obtain ⟨P1, hP1⟩ : ∃ P1, P1 = p ++ leb n := ⟨_, rfl⟩
  have l1 : P1.length ≤ 300 := by rw [hP1, List.length_append]; have := (leb_length n).2; omega
  rw [← hP1] at hown5 ⊢
  have HP1 := Lib.hid hP1
  have HO5 := Lib.hid hown5
  clear hown5 hP1
  go_wp2_with fail
  refine (appendInt_any _ P1 m w5 (OwnB.bs HO5.out) h1 h2 (by omega)).mono ?_
  rintro e w6 ⟨A6, cap6, rfl, hown6, hkk6⟩
  have hk46 := hkk5.then0 hkk6
  obtain ⟨P2, hP2⟩ : ∃ P2, P2 = P1 ++ leb (zz m) := ⟨_, rfl⟩
  have l2 : P2.length ≤ 400 := by rw [hP2, List.length_append]; have := (leb_length (zz m)).2; omega
  rw [← hP2] at hown6 ⊢
  have HP2 := Lib.hid hP2
  have HO6 := Lib.hid hown6
  clear hown6 hP2 HO5 hkk5 hkk6
  go_wp2_with fail
  refine (appendText_any _ P2 s w6 (OwnB.bs HO6.out) (by omega)).mono ?_
  rintro e w7 ⟨A7, cap7, rfl, hown7, hkk7⟩
  have hk47 := hk46.then0 hkk7
  obtain ⟨P3, hP3⟩ : ∃ P3, P3 = P2 ++ (leb s.size ++ sbytes s) := ⟨_, rfl⟩
  have l3 : P3.length ≤ 600 := by rw [hP3, List.length_append, List.length_append, sbytes_length]; have := (leb_length s.size).2; omega
  rw [← hP3] at hown7 ⊢
  have HP3 := Lib.hid hP3
  have HO7 := Lib.hid hown7
  clear hown7 hP3 HO6 hkk7 hk46
  go_wp2_with fail
  refine (appendRow_any _ _ P3 xs w7 (OwnB.bs HO7.out) (HR.out.kept0 hk47) (by omega)).mono ?_
  rw [rowRes_of HALL.out hx12]
  rintro e w8 ⟨A8, cap8, rfl, hown8, hkk8⟩
  have hk48 := hk47.then0 hkk8
  simp only at hown8 ⊢
  have l4 := (renc_len xs HALL.out hx12).2
  obtain ⟨P4, hP4⟩ : ∃ P4, P4 = P3 ++ renc xs := ⟨_, rfl⟩
  have l5 : P4.length ≤ 2000 := by rw [hP4, List.length_append]; omega
  rw [← hP4] at hown8 ⊢
  have HP4 := Lib.hid hP4
  have HO8 := Lib.hid hown8
  have hs7 := hkk8.size
  have hs47 := hk47.size
  clear hown8 hP4 HO7 hkk8 hk47
  have r2 : P4.length + q.length ≤ maxLen := by simp only [maxLen]; omega
  have r3 : (P4.length + q.length) * 1 ≤ 140737488355328 := by omega
  have HV8 := Lib.hid (Rd.kept0 HV.out hk48)
  go_upto_region 11 with (at_builtin; go_must (refine wpList_append_rd _ rfl _ _ 22 rfl w7.heap.size 5 i0 _ 1 1 Try.underlying22 hi hz0 hz1 hz2 rfl (by decide) (.slice A8 P4.length cap8) P4.length (P4.map bv) rfl HO8.out _ q.length (q.map bv) rfl HV8.out (bvs_one q) r2 r3 hs7 ?_); intro A9 cap9 w9 hown9 hg9 hat9)
  have hk49 : Kept Kno w4 w9 := hk48.grown hg9 (fun k hk e => by have h8 := (own_base HO8.out e).1; omega)
  have hk9 := hk4.then0 hk49
  obtain ⟨B, hB⟩ : ∃ B, B = P4 ++ q := ⟨_, rfl⟩
  have lB : B.length = P4.length + q.length := by rw [hB, List.length_append]
  have hb9 : Bs w9 (.slice A9 B.length cap9) B := by
    have h9 : OwnB w9 w7.heap.size 5 (.slice A9 B.length cap9) B := by
      unfold OwnB
      rw [lB, hB, List.map_append]
      exact hown9
    exact OwnB.bs h9
  have HB9 := Lib.hid hb9
  have lB2 : B.length ≤ 1000000 := by omega
  rw [← lB]
  have HB := Lib.hid hB
  have E1 : Hid (uintRes B (p.length : Int) = (n, P1.length, 0)) := Lib.hid (by
    have h9 := uintRes_at p (leb (zz m) ++ ((leb s.size ++ sbytes s) ++ (renc xs ++ q))) n HN.out
    rw [HB.out, HP4.out, HP3.out, HP2.out, HP1.out]
    simpa only [List.append_assoc] using h9)
  have E2 : Hid (intRes B (P1.length : Int) = (m, P2.length, 0)) := Lib.hid (by
    have h9 := intRes_at P1 ((leb s.size ++ sbytes s) ++ (renc xs ++ q)) m h1 h2
    rw [HB.out, HP4.out, HP3.out, HP2.out]
    simpa only [List.append_assoc] using h9)
  have E3 : Hid (textRes B (P2.length : Int) 64 = (sbytes s, P3.length, 0)) := Lib.hid (by
    have h9 := textRes_at P2 (renc xs ++ q) s hs
    rw [HB.out, HP4.out, HP3.out]
    simpa only [List.append_assoc] using h9)
  have E4 : Hid (rowRes2 B (P3.length : Int) = (xs, P4.length, 0)) := Lib.hid (by
    have h9 := rowRes2_at P3 q xs HALL.out hx12
    rw [HB.out, HP4.out]
    simpa only [List.append_assoc] using h9)
  clear hown9 hg9 hat9 hB lB hb9 HB HP1 HP2 HP3 HP4 HO8 HV8 HV
  go_wp2_with fail
  refine (uintF_any _ B (p.length : Int) w9 HB9.out lB2).mono ?_
  rw [E1.out]
  rintro e w10 ⟨rfl, hk10⟩
  simp only
  go_wp2_with fail
  refine (intF_any _ B (P1.length : Int) w10 (Rd.kept0 HB9.out hk10) lB2).mono ?_
  rw [E2.out]
  rintro e w11 ⟨rfl, hk11⟩
  have hk911 := hk10.then0 hk11
  simp only
  go_wp2_with fail
  refine (textF_any _ B (P2.length : Int) 64 w11 (Rd.kept0 HB9.out hk911) lB2 (by omega)).mono ?_
  rw [E3.out]
  rintro e w12 ⟨rfl, hk12⟩
  have hk912 := hk911.then0 hk12
  have hst : strOf (sbytes s) = .string s := by unfold strOf; rw [mk_sbytes]
  simp only [hst]
  clear hst
  go_wp2_with fail
  refine (rowF_any _ B (P3.length : Int) w12 (Rd.kept0 HB9.out hk912) lB2).mono ?_
  rw [E4.out]
  rintro e w13 ⟨A13, cap13, rfl, hown13, hk13⟩
  have hk913 := hk912.then0 hk13
  simp only at hown13 ⊢
  have HR13 := Lib.hid (OwnR.row hown13 (fun x hx => (HALL.out x hx).2))
  clear hown13
  go_wp2_with fail
  refine (begun_any w13).mono ?_
  rintro e w14 ⟨rfl, hk14⟩
  have hk914 := hk913.then0 hk14
  have HRA := Lib.hid (HR13.out.kept0 hk14)
  have HRB := Lib.hid (HR.out.kept0 (hk49.then0 hk914))
  go_wp2_with fail
  refine (compareRows_same _ _ xs w14 HRA.out HRB.out).mono ?_
  rintro e w15 ⟨rfl, hk15⟩
  have hk915 := hk914.then0 hk15
  go_wp2
  go_ret
  exact ⟨rfl, hk9.then0 hk915⟩

theorem returns_final (cv : Value) (lc : List UInt8) (dv : Value) (l : List UInt8) (mv : Value) (lm : List UInt8) (n m : Int) (w : World) (hc : Bs w cv lc ∧ lc.length ≤ maxLen) (hd : Bs w dv l ∧ l.length ≤ maxLen) (hm : Bs w mv lm ∧ lm.length ≤ maxLen) (hn : (Lit.int .u64 n).wf = true) (hz : (Lit.int .i64 m).wf = true) :
    Calls Try.prog 10 #[cv, dv, mv, .int .u64 n, .int .i64 m] w (RetNew (.bool true) w) := by
  have hx : 0 ≤ n ∧ n ≤ 18446744073709551615 := by simpa [Lit.wf, IntKind.min, IntKind.max, IntKind.signed, IntKind.bits] using hn
  have hy : -9223372036854775808 ≤ m ∧ m ≤ 9223372036854775807 := by simpa [Lit.wf, IntKind.min, IntKind.max, IntKind.signed, IntKind.bits] using hz
  obtain ⟨k, rfl⟩ : ∃ k : Nat, n = (k : Int) := ⟨n.toNat, by omega⟩
  exact returns_walk cv dv mv lc l lm k m w hc.1 hc.2 hd.1 hd.2 hm.1 hm.2 (by omega) hy.1 hy.2

end Go.Proofs.Ytdpbpmokmlnleaa
