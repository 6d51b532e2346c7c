/-
  CodecReadsNumbers: the walk.
-/
import Derived.Test.YtdpbpmokmlnleaaCodecQ
import Derived.Test.YtdpbpmokmlnleaaBytesIn
namespace Go.Proofs.Ytdpbpmokmlnleaa
open Go.RowKit
set_option linter.unusedVariables false

set_option maxRecDepth 100000 in
set_option maxHeartbeats 4000000 in
theorem readsNumbers_walk (dv : Value) (l : List UInt8) (n most : Int) (w : World) (hin : Bs w dv l) (hll : l.length ≤ maxLen) (hm : most ≤ 9223372036854775807) :
    Calls Try.prog 6 #[dv, .int .i64 n, .int .i64 most] w (RetNew (.bool true) w) := by
  have HIN := Lib.hid hin
  obtain ⟨Ab, capb, rfl, -⟩ := hin
  go_enter Try.func6, Try.ntmps6
  go_wp2_with fail
  refine (part_any _ l w HIN.out hll).mono ?_
  rintro e w0 ⟨u, rfl, hu, rfl⟩
  have hp : (l.take 200).length ≤ 1000000 := by rw [List.length_take]; omega
  generalize l.take 200 = p at hu hp
  have HU := Lib.hid hu
  obtain ⟨Au, capu, rfl, -⟩ := hu
  go_wp2_with fail
  refine (uintF_any _ p n w HU.out hp).mono ?_
  rintro e w1 ⟨rfl, hk1⟩
  generalize hR1 : uintRes p n = R1
  obtain ⟨r1, r2, r3⟩ := R1
  have HR1 := Lib.hid hR1
  clear hR1
  simp only
  go_wp2_with fail
  refine (refUintF_any _ p n w1 (Rd.kept0 HU.out hk1) hp).mono ?_
  rw [HR1.out]
  rintro e w2 ⟨rfl, rfl⟩
  simp only
  go_wp2_with fail
  refine (intF_any _ p n w1 (Rd.kept0 HU.out hk1) hp).mono ?_
  rintro e w3 ⟨rfl, hk3⟩
  have hk13 := hk1.then0 hk3
  generalize hR2 : intRes p n = R2
  obtain ⟨s1, s2, s3⟩ := R2
  have HR2 := Lib.hid hR2
  clear hR2 hk3
  simp only
  go_wp2_with fail
  refine (refIntF_any _ p n w3 (Rd.kept0 HU.out hk13) hp).mono ?_
  rw [HR2.out]
  rintro e w4 ⟨rfl, rfl⟩
  simp only
  go_wp2_with fail
  refine (textF_any _ p n most w3 (Rd.kept0 HU.out hk13) hp hm).mono ?_
  rintro e w5 ⟨rfl, hk5⟩
  have hk15 := hk13.then0 hk5
  generalize hR3 : textRes p n most = R3
  obtain ⟨t1, t2, t3⟩ := R3
  have HR3 := Lib.hid hR3
  clear hR3 hk5
  simp only
  obtain ⟨S, hS⟩ : ∃ S : ByteArray, strOf t1 = .string S := ⟨_, rfl⟩
  have HS := Lib.hid hS
  rw [hS]
  clear hS
  go_wp2_with fail
  refine (refTextF_any _ p n most w5 (Rd.kept0 HU.out hk15) hp hm).mono ?_
  rw [HR3.out]
  simp only
  rw [HS.out]
  rintro e w6 ⟨rfl, rfl⟩
  go_wp2_with fail
  refine (begun_any w5).mono ?_
  rintro e w7 ⟨rfl, hk7⟩
  have hk17 := hk15.then0 hk7
  go_wp2
  go_ret
  exact ⟨rfl, hk17⟩

theorem readsNumbers_final (dv : Value) (l : List UInt8) (n most : Int) (w : World) (hin : Bs w dv l ∧ l.length ≤ maxLen) (hn : (Lit.int .i64 n).wf = true) (hm : (Lit.int .i64 most).wf = true) :
    Calls Try.prog 6 #[dv, .int .i64 n, .int .i64 most] w (RetNew (.bool true) w) := by
  have hx : -9223372036854775808 ≤ most ∧ most ≤ 9223372036854775807 := by simpa [Lit.wf, IntKind.min, IntKind.max, IntKind.signed, IntKind.bits] using hm
  exact readsNumbers_walk dv l n most w hin.1 hin.2 hx.2

end Go.Proofs.Ytdpbpmokmlnleaa
