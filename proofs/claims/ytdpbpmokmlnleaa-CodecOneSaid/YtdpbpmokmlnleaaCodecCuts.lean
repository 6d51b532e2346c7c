/-
  CodecCuts: the walk.
-/
import Derived.Test.YtdpbpmokmlnleaaCodecT
import Derived.Test.YtdpbpmokmlnleaaCodecW
import Derived.Test.YtdpbpmokmlnleaaCase3
import Derived.Test.YtdpbpmokmlnleaaBytesIn
namespace Go.Proofs.Ytdpbpmokmlnleaa
open Go.RowKit
set_option linter.unusedVariables false

theorem kept_casek {w w1 w2 : World} {K : Nat} (h : Kept Kno w w1) (h2 : Kept (Kone K) w1 w2) (hK : w.heap.size ≤ K) : Kept Kno w w2 :=
  h.trans h2 (fun k hk e => by unfold Kone at e; omega)
theorem valsOk_all {xs : List Val} (h : ∀ x ∈ xs, ValOk x) : valsOk xs = true := by
  unfold valsOk; rw [List.all_eq_true]; exact fun x hx => (h x hx).1
theorem rowRes_of {l : List UInt8} {xs : List Val} (h : ∀ x ∈ xs, ValOk x) (h12 : xs.length ≤ 12) : rowRes l xs = (l ++ renc xs, 0) := by
  unfold rowRes; rw [if_neg (by omega), valsOk_all h, if_pos rfl]
theorem renc_len (xs : List Val) (h : ∀ x ∈ xs, ValOk x) (h12 : xs.length ≤ 12) : 0 < (renc xs).length ∧ (renc xs).length ≤ 1000 := by
  have h1 := leb_length xs.length
  have h2 := vencs_length xs (valsOk_all h)
  unfold renc
  rw [List.length_append]
  omega
theorem rem_nat (a n : Nat) (h : 0 < n) : ((a : Int)).tmod (n : Int) = ((a % n : Nat) : Int) ∧ ((a : Int)) % (n : Int) = ((a % n : Nat) : Int) ∧ a % n < n :=
  ⟨by rw [Int.tmod_eq_emod_of_nonneg (by omega)]; rfl, rfl, Nat.mod_lt _ h⟩

set_option maxRecDepth 100000 in
set_option maxHeartbeats 4000000 in
theorem cuts_walk (cv : Value) (lc : List UInt8) (n a : Nat) (w : World) (hc : Bs w cv lc) (hcl : lc.length ≤ maxLen) (hn : n < 18446744073709551616) (ha : a < 256) :
    Calls Try.prog 8 #[cv, .int .u64 n, .int .u8 a] w (RetNew (.bool true) w) := by
  have HC := Lib.hid hc
  have HN := Lib.hid hn
  obtain ⟨Ac, capc, rfl, -⟩ := hc
  clear hn
  go_enter Try.func8, Try.ntmps8
  go_wp2_with fail
  refine (newCase_any _ lc w HC.out hcl).mono ?_
  rintro e w1 ⟨K, v, l0, rfl, hcase, hK, hk1⟩
  have HCA := Lib.hid hcase
  clear hcase
  go_wp2_with fail
  refine (int_any K 0 5 v l0 w1 HCA.out (by omega) (by omega)).mono ?_
  rintro e w2 ⟨m, hm, rfl, ⟨a2, hc2⟩, hkk2⟩
  have HC2 := Lib.hid hc2
  have hk2 : Kept Kno w w2 := kept_casek hk1 hkk2 hK
  clear hc2 hkk2 HCA
  go_wp2_with fail
  refine (cells_any K a2 m v l0 w2 HC2.out (by omega)).mono ?_
  rintro e w3 ⟨Ar, capr, xs, rfl, hrow, hxs, hall, -, hkk3⟩
  have hk3 : Kept Kno w w3 := kept_casek hk2 hkk3 hK
  have HR : Hid (RowIn w3 (.slice Ar xs.length capr) xs) := Lib.hid (hrow.row (fun x hx => (hall x hx).2))
  have hx12 : xs.length ≤ 12 := by omega
  have HALL := Lib.hid hall
  clear hrow hxs hkk3 HC2 hall hm
  go_wp2_with fail
  refine (appendRow_any _ _ [] xs w3 (bs_nil _) HR.out (by simp)).mono ?_
  rw [rowRes_of HALL.out hx12, List.nil_append]
  rintro e w4 ⟨A4, cap4, rfl, hown4, hkk4⟩
  have hk4 : Kept Kno w w4 := hk3.then0 hkk4
  simp only at hown4 ⊢
  have hrl := renc_len xs HALL.out hx12
  obtain ⟨L, hL⟩ : ∃ L, L = renc xs := ⟨_, rfl⟩
  rw [← hL] at hown4 hrl ⊢
  have HL := Lib.hid hL
  have hb4 := OwnB.bs hown4
  have hL0 : ((L.length : Int) == 0) = false := by rw [beq_eq_false_iff_ne]; omega
  obtain ⟨r1, r2, r3⟩ := rem_nat a L.length hrl.1
  generalize a % L.length = q at r1 r2 r3
  have hcut := Bs.cut hb4 (m := q) (by omega)
  have HCUT := Lib.hid hcut
  have hcc : L.length ≤ cap4 := by
    obtain ⟨A', cap', hv, h1, -⟩ := hb4
    injection hv with _ _ h3
    subst h3
    exact h1
  have q1 : (q : Int) ≤ (cap4 : Int) := by omega
  have q2 : (0 : Int) ≤ (q : Int) := by omega
  have q3 : q ≤ cap4 := by omega
  have q4 : ((L.length : Int) == 0) = false := hL0
  have q5 : (0 : Int) < (L.length : Int) := by omega
  clear hL hown4 hcut hb4
  go_wp2_with fail
  refine (rowF_any _ (L.take q) 0 w4 HCUT.out (by rw [List.length_take]; omega)).mono ?_
  have hres : rowRes2 (L.take q) 0 = ([], 0, 20) := by
    unfold rowRes2
    rw [if_neg (by omega), HL.out]
    have := row_cut xs q (valsOk_all HALL.out) (fun x hx => (HALL.out x hx).2) hx12 (by rw [← HL.out]; omega)
    rw [show (0 : Int).toNat = 0 from rfl, this]
  rw [hres]
  clear hres
  rintro e w5 ⟨A5, cap5, rfl, -, hkk5⟩
  have hk5 : Kept Kno w w5 := hk4.then0 hkk5
  simp only
  clear hkk5 hkk4 HCUT r1 r2
  go_wp2_with fail
  refine (appendUint_any _ [] n w5 (bs_nil _) HN.out (by simp)).mono ?_
  rw [List.nil_append]
  rintro e w6 ⟨A6, cap6, rfl, hown6, hkk6⟩
  have hk6 : Kept Kno w w6 := hk5.then0 hkk6
  have hul := leb_length n
  obtain ⟨U, hU⟩ : ∃ U, U = leb n := ⟨_, rfl⟩
  rw [← hU] at hown6 hul ⊢
  have HU := Lib.hid hU
  have hb6 := OwnB.bs hown6
  obtain ⟨s1, s2, s3⟩ := rem_nat a U.length (by omega)
  generalize a % U.length = p at s1 s2 s3
  have hcut := Bs.cut hb6 (m := p) (by omega)
  have HCUT := Lib.hid hcut
  have hcc6 : U.length ≤ cap6 := by
    obtain ⟨A', cap', hv, h1, -⟩ := hb6
    injection hv with _ _ h3
    subst h3
    exact h1
  have p1 : (p : Int) ≤ (cap6 : Int) := by omega
  have p2 : (0 : Int) ≤ (p : Int) := by omega
  have p3 : p ≤ cap6 := by omega
  have p4 : ((U.length : Int) == 0) = false := by rw [beq_eq_false_iff_ne]; omega
  have p5 : (0 : Int) < (U.length : Int) := by omega
  clear hU hown6 hcut hb6
  go_wp2_with fail
  refine (uintF_any _ (U.take p) 0 w6 HCUT.out (by rw [List.length_take]; omega)).mono ?_
  have hres : uintRes (U.take p) 0 = (0, 0, 20) := by
    unfold uintRes
    rw [if_neg (by omega), HU.out]
    have := uint_cut n p HN.out (by rw [← HU.out]; omega)
    rw [show (0 : Int).toNat = 0 from rfl, this]
  rw [hres]
  clear hres
  rintro e w7 ⟨rfl, hkk7⟩
  have hk7 : Kept Kno w w7 := hk6.then0 hkk7
  simp only
  clear s1 s2
  go_wp2_with fail
  refine (begun_any w7).mono ?_
  rintro e w8 ⟨rfl, hkk8⟩
  have hk8 : Kept Kno w w8 := hk7.then0 hkk8
  go_wp2
  go_ret
  exact ⟨rfl, hk8⟩

theorem cuts_final (cv : Value) (lc : List UInt8) (n a : Int) (w : World) (hc : Bs w cv lc ∧ lc.length ≤ maxLen) (hn : (Lit.int .u64 n).wf = true) (ha : (Lit.int .u8 a).wf = true) :
    Calls Try.prog 8 #[cv, .int .u64 n, .int .u8 a] w (RetNew (.bool true) w) := by
  have hx : 0 ≤ n ∧ n ≤ 18446744073709551615 := by simpa [Lit.wf, IntKind.min, IntKind.max, IntKind.signed, IntKind.bits] using hn
  have hy : 0 ≤ a ∧ a ≤ 255 := by simpa [Lit.wf, IntKind.min, IntKind.max, IntKind.signed, IntKind.bits] using ha
  obtain ⟨k, rfl⟩ : ∃ k : Nat, n = (k : Int) := ⟨n.toNat, by omega⟩
  obtain ⟨j, rfl⟩ : ∃ j : Nat, a = (j : Int) := ⟨a.toNat, by omega⟩
  exact cuts_walk cv lc k j w hc.1 hc.2 (by omega) (by omega)

end Go.Proofs.Ytdpbpmokmlnleaa
