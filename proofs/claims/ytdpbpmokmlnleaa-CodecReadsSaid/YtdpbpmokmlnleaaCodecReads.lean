/-
  CodecReads: the walk.
-/
import Derived.Test.YtdpbpmokmlnleaaCodecV
import Derived.Test.YtdpbpmokmlnleaaCodecW
import Derived.Test.YtdpbpmokmlnleaaBytesIn
namespace Go.Proofs.Ytdpbpmokmlnleaa
open Go.RowKit
set_option linter.unusedVariables false

theorem rowRes2_ok (l : List UInt8) (n : Int) : ∀ x ∈ (rowRes2 l n).1, okVal x := by
  unfold rowRes2
  split
  · intro x hx; cases hx
  · cases h : rowAt l n.toNat with
    | error c => intro x hx; cases hx
    | ok p =>
      obtain ⟨xs, k⟩ := p
      rw [rowAt_drop] at h
      exact (row_one h).2.2.1
theorem OwnR.row_kept {w w' : World} {base : Nat} {A : Option Addr} {cap : Nat} {xs : List Val} (h : OwnR w base (.slice A xs.length cap) xs) (hk : Kept Kno w w') (hok : ∀ x ∈ xs, okVal x) : RowIn w' (.slice A xs.length cap) xs := (OwnR.row h hok).kept0 hk

set_option maxRecDepth 100000 in
set_option maxHeartbeats 4000000 in
theorem reads_walk (dv : Value) (l : List UInt8) (n : Int) (w : World) (hin : Bs w dv l) (hll : l.length ≤ maxLen) :
    Calls Try.prog 9 #[dv, .int .i64 n] w (RetNew (.bool true) w) := by
  have HIN := Lib.hid hin
  obtain ⟨Ab, capb, rfl, -⟩ := hin
  go_enter Try.func9, Try.ntmps9
  go_wp2_with fail
  refine (part_any _ l w HIN.out hll).mono ?_
  rintro e w0 ⟨u, rfl, hu, rfl⟩
  have hp : (l.take 200).length ≤ 1000000 := by rw [List.length_take]; omega
  generalize l.take 200 = p at hu hp
  have HU := Lib.hid hu
  obtain ⟨Au, capu, rfl, -⟩ := hu
  go_wp2_with fail
  refine (valueF_any _ p n w HU.out hp).mono ?_
  rintro e w1 ⟨rfl, hk1⟩
  generalize hR1 : valRes2 p n = R1
  obtain ⟨⟨x0, x1, x2⟩, r2, r3⟩ := R1
  have HR1 := Lib.hid hR1
  clear hR1
  simp only [Val.v]
  have HX1 := Lib.hid (Blk.new w1 41 #[.int .i64 x0, .int .i64 x1, .string x2])
  have hkA : Kept Kno w1 (w1.alloc (.cells #[.int .i64 x0, .int .i64 x1, .string x2] 41)) := (Kept.refl _ _).alloc _
  go_wp2_with fail
  generalize (w1.alloc (.cells #[.int .i64 x0, .int .i64 x1, .string x2] 41)) = wA at HX1 hkA ⊢
  have hk2 := hk1.then0 hkA
  refine (refValueF_any _ p n wA (Rd.kept0 HU.out hk2) hp).mono ?_
  rw [HR1.out]
  rintro e w3 ⟨rfl, hk3⟩
  simp only [Val.v]
  have HX3 := Lib.hid (Blk.new w3 41 #[.int .i64 x0, .int .i64 x1, .string x2])
  have hkB : Kept Kno w3 (w3.alloc (.cells #[.int .i64 x0, .int .i64 x1, .string x2] 41)) := (Kept.refl _ _).alloc _
  have HX13 := Lib.hid ((HX1.out.kept hk3 (fun e => e)).kept hkB (fun e => e))
  go_wp2_with fail
  generalize (w3.alloc (.cells #[.int .i64 x0, .int .i64 x1, .string x2] 41)) = wB at HX3 hkB HX13 ⊢
  have hk4 := (hk2.then0 hk3).then0 hkB
  clear hkA hkB hk3 HX1 HR1
  refine (rowF_any _ p n wB (Rd.kept0 HU.out hk4) hp).mono ?_
  rintro e w5 ⟨A5, cap5, rfl, hown5, hk5⟩
  have hk05 := hk4.then0 hk5
  have hok := rowRes2_ok p n
  generalize hR2 : rowRes2 p n = R2
  rw [hR2] at hown5 hok
  obtain ⟨xs, s2, s3⟩ := R2
  have HR2 := Lib.hid hR2
  simp only at hown5 hok ⊢
  have HO5 := Lib.hid hown5
  have HOK := Lib.hid hok
  clear hR2 hown5 hok
  go_wp2_with fail
  refine (refRowF_any _ p n w5 (Rd.kept0 HU.out hk05) hp).mono ?_
  rw [HR2.out]
  rintro e w6 ⟨A6, cap6, rfl, hown6, hk6⟩
  have hk06 := hk05.then0 hk6
  simp only at hown6 ⊢
  have HO6 := Lib.hid hown6
  clear hown6
  go_wp2_with fail
  refine (begun_any w6).mono ?_
  rintro e w7 ⟨rfl, hk7⟩
  have hk07 := hk06.then0 hk7
  have hk57 := hk5.then0 (hk6.then0 hk7)
  have hb1 := HX13.out.kept hk57 (fun e => e)
  have hb2 := HX3.out.kept hk57 (fun e => e)
  have HRA := Lib.hid (OwnR.row_kept HO5.out (hk6.then0 hk7) HOK.out)
  have HRB := Lib.hid (OwnR.row_kept HO6.out hk7 HOK.out)
  have c0 : w7.cell? ⟨w1.heap.size, 0, none⟩ = some (.int .i64 x0) := hb1.cell 0
  have c1 : w7.cell? ⟨w1.heap.size, 1, none⟩ = some (.int .i64 x1) := hb1.cell 1
  have c2 : w7.cell? ⟨w1.heap.size, 2, none⟩ = some (.string x2) := hb1.cell 2
  have d0 : w7.cell? ⟨w3.heap.size, 0, none⟩ = some (.int .i64 x0) := hb2.cell 0
  have d1 : w7.cell? ⟨w3.heap.size, 1, none⟩ = some (.int .i64 x1) := hb2.cell 1
  have d2 : w7.cell? ⟨w3.heap.size, 2, none⟩ = some (.string x2) := hb2.cell 2
  clear hk57 hb1 hb2 hk5 hk6 hk7
  go_wp2_with fail
  refine (compareRows_same _ _ xs w7 HRA.out HRB.out).mono ?_
  rintro e w8 ⟨rfl, hk8⟩
  have hk08 := hk07.then0 hk8
  go_wp2
  go_ret
  exact ⟨rfl, hk08⟩

theorem reads_final (dv : Value) (l : List UInt8) (n : Int) (w : World) (hin : Bs w dv l ∧ l.length ≤ maxLen) (hn : (Lit.int .i64 n).wf = true) :
    Calls Try.prog 9 #[dv, .int .i64 n] w (RetNew (.bool true) w) := reads_walk dv l n w hin.1 hin.2

end Go.Proofs.Ytdpbpmokmlnleaa
