/-
  Contracts and plain laws that the claim's theorem rests on, some texts in one file.
-/
import Derived.Test.YtffdaohmalmkfaaGreatM13
/-
  Packet: valid at a verdict. (Printed by gen_pakf.py.)
-/
namespace Go.Proofs.YtffdaohmalmkfaaGreat
open Go.RowKit
set_option linter.unusedVariables false

/-- A verdict; 'args' and 'key' are rows. -/
structure Verd where
  dev : Int
  seq : Int
  proc : Int
  args : List Val
  status : Int
  commit : Int
  reason : Int
  code : Int
  table : Int
  key : List Val
def verdB (d : Int) (x : Verd) : Bool := decide (x.dev = d) && callB x.seq x.proc x.args && wB x.status 1 3 && wB x.commit 0 1073741824 && wB x.reason 0 8 && ((x.reason == 0) == (x.status != 3)) && wB x.code (-100) 100 && wB x.table 0 7 && decide (x.key.length ≤ 8) && realsB x.key
/-- The cells of a message that is a verdict. -/
def verdC (d : Int) (x : Verd) (a k : Value) : Array Value := #[.int .i64 4, .int .i64 d, .int .i64 0, .int .i64 0, .int .i64 0, .slice none 0 0, .int .i64 0, .slice none 0 0, .int .i64 0, .int .i64 0, .slice none 0 0, .int .i64 0, .int .i64 0, .int .i64 0, .slice none 0 0, .int .i64 0, .int .i64 0, .int .i64 0, .slice none 0 0, .bool false, .slice none 0 0, .int .i64 x.dev, .int .i64 x.seq, .int .i64 x.proc, a, .int .i64 x.status, .int .i64 x.commit, .int .i64 x.reason, .int .i64 x.code, .int .i64 x.table, k]

theorem size_alloc' (w : World) (o : Obj) : (w.alloc o).heap.size = w.heap.size + 1 := by simp

set_option maxRecDepth 100000 in
set_option maxHeartbeats 4000000 in
theorem validVerdict_any (d : Int) (x : Verd) (a k : Value) (w : World) (ha : RowIn w a x.args) (hk : RowIn w k x.key) :
    Calls Tryz.prog 82 #[.agg (verdC d x a k)] w (RetBool (verdB d x) w) := by
  obtain ⟨vdev, seq, proc, args, status, commit, reason, code, table, key⟩ := x
  simp only at ha hk
  have HA := Lib.hid ha
  have HKY := Lib.hid hk
  obtain ⟨Aa, ca, rfl, -⟩ := ha
  obtain ⟨Ak, ck, rfl, -⟩ := hk
  simp only [verdC]
  by_cases h0 : vdev = d
  · have h0' : (vdev == d) = true := by simp [h0]
    have H0 := Lib.hid h0
    clear h0
    go_enter Tryz.func82, Tryz.ntmps82
    go_wp2_with fail
    have hk0 : Kept Kno w (((w.alloc (.cells #[.int .i64 4, .int .i64 d, .int .i64 0, .int .i64 0, .int .i64 0, .slice none 0 0, .int .i64 0, .slice none 0 0, .int .i64 0, .int .i64 0, .slice none 0 0, .int .i64 0, .int .i64 0, .int .i64 0, .slice none 0 0, .int .i64 0, .int .i64 0, .int .i64 0, .slice none 0 0, .bool false, .slice none 0 0, .int .i64 vdev, .int .i64 seq, .int .i64 proc, .slice Aa args.length ca, .int .i64 status, .int .i64 commit, .int .i64 reason, .int .i64 code, .int .i64 table, .slice Ak key.length ck] 36)).alloc (.cells #[.int .i64 vdev, .int .i64 seq, .int .i64 proc, .slice Aa args.length ca, .int .i64 status, .int .i64 commit, .int .i64 reason, .int .i64 code, .int .i64 table, .slice Ak key.length ck] 34)).alloc (.cells #[.int .i64 reason, .int .i64 code, .int .i64 table, .slice Ak key.length ck] 32)) := (((Kept.refl _ _).alloc _).alloc _).alloc _
    have HV := Lib.hid ((Blk.new (w.alloc (.cells #[.int .i64 4, .int .i64 d, .int .i64 0, .int .i64 0, .int .i64 0, .slice none 0 0, .int .i64 0, .slice none 0 0, .int .i64 0, .int .i64 0, .slice none 0 0, .int .i64 0, .int .i64 0, .int .i64 0, .slice none 0 0, .int .i64 0, .int .i64 0, .int .i64 0, .slice none 0 0, .bool false, .slice none 0 0, .int .i64 vdev, .int .i64 seq, .int .i64 proc, .slice Aa args.length ca, .int .i64 status, .int .i64 commit, .int .i64 reason, .int .i64 code, .int .i64 table, .slice Ak key.length ck] 36)) 34 #[.int .i64 vdev, .int .i64 seq, .int .i64 proc, .slice Aa args.length ca, .int .i64 status, .int .i64 commit, .int .i64 reason, .int .i64 code, .int .i64 table, .slice Ak key.length ck]).alloc (.cells #[.int .i64 reason, .int .i64 code, .int .i64 table, .slice Ak key.length ck] 32))
    have HR := Lib.hid (Blk.new ((w.alloc (.cells #[.int .i64 4, .int .i64 d, .int .i64 0, .int .i64 0, .int .i64 0, .slice none 0 0, .int .i64 0, .slice none 0 0, .int .i64 0, .int .i64 0, .slice none 0 0, .int .i64 0, .int .i64 0, .int .i64 0, .slice none 0 0, .int .i64 0, .int .i64 0, .int .i64 0, .slice none 0 0, .bool false, .slice none 0 0, .int .i64 vdev, .int .i64 seq, .int .i64 proc, .slice Aa args.length ca, .int .i64 status, .int .i64 commit, .int .i64 reason, .int .i64 code, .int .i64 table, .slice Ak key.length ck] 36)).alloc (.cells #[.int .i64 vdev, .int .i64 seq, .int .i64 proc, .slice Aa args.length ca, .int .i64 status, .int .i64 commit, .int .i64 reason, .int .i64 code, .int .i64 table, .slice Ak key.length ck] 34)) 32 #[.int .i64 reason, .int .i64 code, .int .i64 table, .slice Ak key.length ck])
    simp only [size_alloc'] at HV HR
    generalize (((w.alloc (.cells #[.int .i64 4, .int .i64 d, .int .i64 0, .int .i64 0, .int .i64 0, .slice none 0 0, .int .i64 0, .slice none 0 0, .int .i64 0, .int .i64 0, .slice none 0 0, .int .i64 0, .int .i64 0, .int .i64 0, .slice none 0 0, .int .i64 0, .int .i64 0, .int .i64 0, .slice none 0 0, .bool false, .slice none 0 0, .int .i64 vdev, .int .i64 seq, .int .i64 proc, .slice Aa args.length ca, .int .i64 status, .int .i64 commit, .int .i64 reason, .int .i64 code, .int .i64 table, .slice Ak key.length ck] 36)).alloc (.cells #[.int .i64 vdev, .int .i64 seq, .int .i64 proc, .slice Aa args.length ca, .int .i64 status, .int .i64 commit, .int .i64 reason, .int .i64 code, .int .i64 table, .slice Ak key.length ck] 34)).alloc (.cells #[.int .i64 reason, .int .i64 code, .int .i64 table, .slice Ak key.length ck] 32)) = w0 at hk0 HV HR ⊢
    have HK := Lib.hid hk0
    clear hk0
    refine (validCall_any seq proc _ args w0 (HA.out.kept0 HK.out)).mono ?_
    rintro e w1 ⟨rfl, hk1'⟩
    have hk1 : Kept Kno w0 w1 := hk1'
    have c1v4 : w1.cell? ⟨w.heap.size + 1, 4, none⟩ = some (.int .i64 status) := hk1.cell_some (HV.out.cell 4) (fun h => h)
    cases h1 : callB seq proc args with
    | false =>
      have hx : RetBool (verdB d ⟨vdev, seq, proc, args, status, commit, reason, code, table, key⟩) w (.returned (.bool false)) w1 := ⟨by simp [verdB, h1], HK.out.then0 hk1⟩
      have HX := Lib.hid hx
      clear hx h1
      go_wp2
      go_ret
      exact HX.out
    | true =>
      have H1 := Lib.hid h1
      clear h1
      go_wp2_with fail
      refine (within_any status 1 3 w1).mono ?_
      rintro e w2 ⟨rfl, hk2'⟩
      have hk2 : Kept Kno w0 w2 := hk1.then0 hk2'
      have c2v5 : w2.cell? ⟨w.heap.size + 1, 5, none⟩ = some (.int .i64 commit) := hk2.cell_some (HV.out.cell 5) (fun h => h)
      clear hk1
      cases h2 : wB status 1 3 with
      | false =>
        have hx : RetBool (verdB d ⟨vdev, seq, proc, args, status, commit, reason, code, table, key⟩) w (.returned (.bool false)) w2 := ⟨by simp [verdB, h2], HK.out.then0 hk2⟩
        have HX := Lib.hid hx
        clear hx h2
        go_wp2
        go_ret
        exact HX.out
      | true =>
        have H2 := Lib.hid h2
        clear h2
        go_wp2_with fail
        refine (within_any commit 0 1073741824 w2).mono ?_
        rintro e w3 ⟨rfl, hk3'⟩
        have hk3 : Kept Kno w0 w3 := hk2.then0 hk3'
        have c3r0 : w3.cell? ⟨w.heap.size + 1 + 1, 0, none⟩ = some (.int .i64 reason) := hk3.cell_some (HR.out.cell 0) (fun h => h)
        clear hk2
        cases h3 : wB commit 0 1073741824 with
        | false =>
          have hx : RetBool (verdB d ⟨vdev, seq, proc, args, status, commit, reason, code, table, key⟩) w (.returned (.bool false)) w3 := ⟨by simp [verdB, h3], HK.out.then0 hk3⟩
          have HX := Lib.hid hx
          clear hx h3
          go_wp2
          go_ret
          exact HX.out
        | true =>
          have H3 := Lib.hid h3
          clear h3
          go_wp2_with fail
          refine (within_any reason 0 8 w3).mono ?_
          rintro e w4 ⟨rfl, hk4'⟩
          have hk4 : Kept Kno w0 w4 := hk3.then0 hk4'
          have c4v4 : w4.cell? ⟨w.heap.size + 1, 4, none⟩ = some (.int .i64 status) := hk4.cell_some (HV.out.cell 4) (fun h => h)
          have c4r0 : w4.cell? ⟨w.heap.size + 1 + 1, 0, none⟩ = some (.int .i64 reason) := hk4.cell_some (HR.out.cell 0) (fun h => h)
          have c4r1 : w4.cell? ⟨w.heap.size + 1 + 1, 1, none⟩ = some (.int .i64 code) := hk4.cell_some (HR.out.cell 1) (fun h => h)
          clear hk3
          cases h4 : wB reason 0 8 with
          | false =>
            have hx : RetBool (verdB d ⟨vdev, seq, proc, args, status, commit, reason, code, table, key⟩) w (.returned (.bool false)) w4 := ⟨by simp [verdB, h4], HK.out.then0 hk4⟩
            have HX := Lib.hid hx
            clear hx h4
            go_wp2
            go_ret
            exact HX.out
          | true =>
            have H4 := Lib.hid h4
            clear h4
            by_cases h5 : ((reason == 0) == (status != 3)) = true
            rotate_left
            · cases h5a : (reason == 0) <;> cases h5b : (status != 3)
              all_goals first | (exact absurd (by rw [h5a, h5b]; rfl) h5) | skip
              all_goals
                have hx : RetBool (verdB d ⟨vdev, seq, proc, args, status, commit, reason, code, table, key⟩) w (.returned (.bool false)) w4 := ⟨by simp [verdB, h5a, h5b], HK.out.then0 hk4⟩
                have HX := Lib.hid hx
                clear hx h5
                go_wp2
                go_ret
                exact HX.out
            have H5 := Lib.hid h5
            cases h5a : (reason == 0) <;> cases h5b : (status != 3)
            all_goals first | (exact absurd h5 (by rw [h5a, h5b]; decide)) | skip
            all_goals
              clear h5
              go_wp2_with fail
              refine (within_any code (-100) 100 w4).mono ?_
              rintro e w5 ⟨rfl, hk5'⟩
              have hk5 : Kept Kno w0 w5 := hk4.then0 hk5'
              have c5r2 : w5.cell? ⟨w.heap.size + 1 + 1, 2, none⟩ = some (.int .i64 table) := hk5.cell_some (HR.out.cell 2) (fun h => h)
              clear hk4
              cases h6 : wB code (-100) 100 with
              | false =>
                have hx : RetBool (verdB d ⟨vdev, seq, proc, args, status, commit, reason, code, table, key⟩) w (.returned (.bool false)) w5 := ⟨by simp [verdB, h6], HK.out.then0 hk5⟩
                have HX := Lib.hid hx
                clear hx h6
                go_wp2
                go_ret
                exact HX.out
              | true =>
                have H6 := Lib.hid h6
                clear h6
                go_wp2_with fail
                refine (within_any table 0 7 w5).mono ?_
                rintro e w6 ⟨rfl, hk6'⟩
                have hk6 : Kept Kno w0 w6 := hk5.then0 hk6'
                have c6r3 : w6.cell? ⟨w.heap.size + 1 + 1, 3, none⟩ = some (.slice Ak key.length ck) := hk6.cell_some (HR.out.cell 3) (fun h => h)
                clear hk5
                cases h7 : wB table 0 7 with
                | false =>
                  have hx : RetBool (verdB d ⟨vdev, seq, proc, args, status, commit, reason, code, table, key⟩) w (.returned (.bool false)) w6 := ⟨by simp [verdB, h7], HK.out.then0 hk6⟩
                  have HX := Lib.hid hx
                  clear hx h7
                  go_wp2
                  go_ret
                  exact HX.out
                | true =>
                  have H7 := Lib.hid h7
                  clear h7
                  by_cases h8 : key.length ≤ 8
                  rotate_left
                  · have h8' : ¬ (key.length : Int) ≤ 8 := by omega
                    have hx : RetBool (verdB d ⟨vdev, seq, proc, args, status, commit, reason, code, table, key⟩) w (.returned (.bool false)) w6 := ⟨by simp [verdB, h8], HK.out.then0 hk6⟩
                    have HX := Lib.hid hx
                    clear hx h8
                    go_wp2
                    go_ret
                    exact HX.out
                  have h8' : (key.length : Int) ≤ 8 := by omega
                  have H8 := Lib.hid h8
                  clear h8
                  go_wp2_with fail
                  refine (real_any _ key w6 (HKY.out.kept0 (HK.out.then0 hk6))).mono ?_
                  rintro e w7 ⟨rfl, hk7'⟩
                  have hx : RetBool (verdB d ⟨vdev, seq, proc, args, status, commit, reason, code, table, key⟩) w (.returned (.bool (realsB key))) w7 := ⟨by have a0 := H0.out; have a1 := H1.out; have a2 := H2.out; have a3 := H3.out; have a4 := H4.out; have a5 := H5.out; have a6 := H6.out; have a7 := H7.out; have a8 := H8.out; unfold verdB; simp only; rw [a1, a2, a3, a4, a5, a6, a7, decide_eq_true a0, decide_eq_true a8]; simp, HK.out.then0 (hk6.then0 hk7')⟩
                  have HX := Lib.hid hx
                  clear hx
                  go_wp2
                  go_ret
                  exact HX.out
  · have h0' : (vdev == d) = false := by simpa using h0
    have hx : ∀ w', Kept Kno w w' → RetBool (verdB d ⟨vdev, seq, proc, args, status, commit, reason, code, table, key⟩) w (.returned (.bool false)) w' := fun w' h => ⟨by simp [verdB, h0], h⟩
    have HX := Lib.hid hx
    clear hx h0
    go_enter Tryz.func82, Tryz.ntmps82
    go_wp2
    go_ret
    exact HX.out _ ((((Kept.refl _ _).alloc _).alloc _).alloc _)

end Go.Proofs.YtffdaohmalmkfaaGreat
