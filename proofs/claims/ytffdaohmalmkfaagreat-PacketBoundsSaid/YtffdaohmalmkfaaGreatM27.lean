/-
  Contracts and plain laws that the claim's theorem rests on, some texts in one file.
-/
import Derived.Test.YtffdaohmalmkfaaGreatM26
import Derived.Deep.WholeRow
/-
  Packet: valid at a sync and at a verdict. (Printed by gen_pakq.py.)
-/
namespace Go.Proofs.YtffdaohmalmkfaaGreat
open Go.RowKit
set_option linter.unusedVariables false

/-- Subscriptions that are writable. -/
def writB (xs : List Sub) : Bool := decide (0 ≤ weightI xs) && decide (weightI xs ≤ 16384)
structure Syn where
  round : Int
  version : Int
  budget : Int
  wanted : List Sub
  cut : Int
  held : List Sub
def syncB (x : Syn) : Bool := wB x.round 0 1073741824 && wB x.version 0 1000 && wB x.budget 0 1048576 && wB x.cut (-1) 1073741824 && (decide (0 ≤ x.cut) || decide (x.held.length = 0)) && writB x.wanted && writB x.held
/-- The cells of a message that is a sync. -/
def syncC (d : Int) (x : Syn) (a b : Value) : Array Value := #[.int .i64 1, .int .i64 d, .int .i64 x.round, .int .i64 x.version, .int .i64 x.budget, a, .int .i64 x.cut, b, .int .i64 0, .int .i64 0, .slice none 0 0, .int .i64 0, .int .i64 0, .int .i64 0, .slice none 0 0, .int .i64 0, .int .i64 0, .int .i64 0, .slice none 0 0, .bool false, .slice none 0 0, .int .i64 0, .int .i64 0, .int .i64 0, .slice none 0 0, .int .i64 0, .int .i64 0, .int .i64 0, .int .i64 0, .int .i64 0, .slice none 0 0]

set_option maxRecDepth 100000 in
set_option maxHeartbeats 1000000 in
theorem writable_any (B : Nat) (u : Value) (xs : List Sub) (w : World) (hu : SubsIn w B u xs) (hB : B ≤ w.heap.size) (hl : (encSubs xs).length ≤ 500000000000) :
    Calls Tryz.prog 143 #[u] w (RetBool (writB xs) w) := by
  have HC := Lib.hid (weight_any B u xs w hu hB hl)
  have hr : -1 ≤ weightI xs ∧ weightI xs ≤ 9223372036854775807 := by unfold weightI; split <;> omega
  obtain ⟨A, cap, rfl, -⟩ := hu
  have hd : ∀ (b : Bool) (w' : World), writB xs = b → Kept Kno w w' → RetBool (writB xs) w (.returned (.bool b)) w' := fun b w' he h => ⟨by rw [he], h⟩
  have HD := Lib.hid hd
  have HW : Hid (writB xs = (decide (0 ≤ weightI xs) && decide (weightI xs ≤ 16384))) := Lib.hid rfl
  clear hd hl
  generalize weightI xs = n at HC hr HW
  by_cases h0 : 0 ≤ n
  · by_cases h1 : n ≤ 16384
    · have he : writB xs = true := by rw [HW.out, decide_eq_true h0, decide_eq_true h1]; rfl
      have HE := Lib.hid he
      clear he
      go_enter Tryz.func143, Tryz.ntmps143
      go_wp2_with fail
      refine HC.out.mono ?_
      rintro e w1 ⟨rfl, hk1⟩
      have HK := Lib.hid hk1
      clear hk1
      go_wp2
      go_ret
      exact HD.out true _ HE.out HK.out
    · have h1d : decide (n ≤ 16384) = false := decide_eq_false h1
      have he : writB xs = false := by rw [HW.out, h1d]; simp
      have HE := Lib.hid he
      clear he
      go_enter Tryz.func143, Tryz.ntmps143
      go_wp2_with fail
      refine HC.out.mono ?_
      rintro e w1 ⟨rfl, hk1⟩
      have HK := Lib.hid hk1
      clear hk1
      go_wp2
      go_ret
      exact HD.out false _ HE.out HK.out
  · have he : writB xs = false := by rw [HW.out, decide_eq_false h0]; simp
    have HE := Lib.hid he
    clear he
    go_enter Tryz.func143, Tryz.ntmps143
    go_wp2_with fail
    refine HC.out.mono ?_
    rintro e w1 ⟨rfl, hk1⟩
    have HK := Lib.hid hk1
    clear hk1
    go_wp2
    go_ret
    exact HD.out false _ HE.out HK.out

set_option maxRecDepth 100000 in
set_option maxHeartbeats 4000000 in
theorem validSync_any (d : Int) (x : Syn) (a b : Value) (B : Nat) (w : World) (ha : SubsIn w B a x.wanted) (hb : SubsIn w B b x.held) (hB : B ≤ w.heap.size) (hla : (encSubs x.wanted).length ≤ 500000000000) (hlb : (encSubs x.held).length ≤ 500000000000) :
    Calls Tryz.prog 79 #[.agg (syncC d x a b)] w (RetBool (syncB x) w) := by
  obtain ⟨round, version, budget, wanted, cut, held⟩ := x
  simp only at ha hb hla hlb
  have HA := Lib.hid ha
  have HB := Lib.hid hb
  obtain ⟨Aw, cw, rfl, -⟩ := ha
  obtain ⟨Ah, ch, rfl, -⟩ := hb
  simp only [syncC]
  obtain ⟨w0, h0⟩ : ∃ w0, w0 = w.alloc (.cells #[.int .i64 1, .int .i64 d, .int .i64 round, .int .i64 version, .int .i64 budget, .slice Aw wanted.length cw, .int .i64 cut, .slice Ah held.length ch, .int .i64 0, .int .i64 0, .slice none 0 0, .int .i64 0, .int .i64 0, .int .i64 0, .slice none 0 0, .int .i64 0, .int .i64 0, .int .i64 0, .slice none 0 0, .bool false, .slice none 0 0, .int .i64 0, .int .i64 0, .int .i64 0, .slice none 0 0, .int .i64 0, .int .i64 0, .int .i64 0, .int .i64 0, .int .i64 0, .slice none 0 0] 36) := ⟨_, rfl⟩
  have hk0 : Kept Kno w w0 := by rw [h0]; exact (Kept.refl _ _).alloc _
  have hG : Blk w0 w.heap.size 36 #[.int .i64 1, .int .i64 d, .int .i64 round, .int .i64 version, .int .i64 budget, .slice Aw wanted.length cw, .int .i64 cut, .slice Ah held.length ch, .int .i64 0, .int .i64 0, .slice none 0 0, .int .i64 0, .int .i64 0, .int .i64 0, .slice none 0 0, .int .i64 0, .int .i64 0, .int .i64 0, .slice none 0 0, .bool false, .slice none 0 0, .int .i64 0, .int .i64 0, .int .i64 0, .slice none 0 0, .int .i64 0, .int .i64 0, .int .i64 0, .int .i64 0, .int .i64 0, .slice none 0 0] := by rw [h0]; exact Blk.new _ _ _
  have HK := Lib.hid hk0
  have HG := Lib.hid hG
  have HE0 := Lib.hid h0
  clear h0 hk0 hG
  go_enter Tryz.func79, Tryz.ntmps79
  go_wp2_with fail
  rw [← HE0.out]
  refine (within_any round 0 1073741824 w0).mono ?_
  rintro e w1 ⟨rfl, hk1'⟩
  have hk1 : Kept Kno w0 w1 := hk1'
  have c1_3 : w1.cell? ⟨w.heap.size, 3, none⟩ = some (.int .i64 version) := hk1.cell_some (HG.out.cell 3) (fun h => h)
  cases h1 : wB round 0 1073741824 with
  | false =>
    have hx : RetBool (syncB ⟨round, version, budget, wanted, cut, held⟩) w (.returned (.bool false)) w1 := ⟨by simp [syncB, h1], HK.out.then0 hk1⟩
    have HX := Lib.hid hx
    clear hx h1
    go_wp2
    go_ret
    exact HX.out
  | true =>
    have H1 := Lib.hid h1
    clear h1
    go_wp2_with fail
    refine (within_any version 0 1000 w1).mono ?_
    rintro e w2 ⟨rfl, hk2'⟩
    have hk2 : Kept Kno w0 w2 := hk1.then0 hk2'
    have c2_4 : w2.cell? ⟨w.heap.size, 4, none⟩ = some (.int .i64 budget) := hk2.cell_some (HG.out.cell 4) (fun h => h)
    clear hk1
    cases h2 : wB version 0 1000 with
    | false =>
      have hx : RetBool (syncB ⟨round, version, budget, wanted, cut, held⟩) w (.returned (.bool false)) w2 := ⟨by simp [syncB, h2], HK.out.then0 hk2⟩
      have HX := Lib.hid hx
      clear hx h2
      go_wp2
      go_ret
      exact HX.out
    | true =>
      have H2 := Lib.hid h2
      clear h2
      go_wp2_with fail
      refine (within_any budget 0 1048576 w2).mono ?_
      rintro e w3 ⟨rfl, hk3'⟩
      have hk3 : Kept Kno w0 w3 := hk2.then0 hk3'
      have c3_6 : w3.cell? ⟨w.heap.size, 6, none⟩ = some (.int .i64 cut) := hk3.cell_some (HG.out.cell 6) (fun h => h)
      clear hk2
      cases h3 : wB budget 0 1048576 with
      | false =>
        have hx : RetBool (syncB ⟨round, version, budget, wanted, cut, held⟩) w (.returned (.bool false)) w3 := ⟨by simp [syncB, h3], HK.out.then0 hk3⟩
        have HX := Lib.hid hx
        clear hx h3
        go_wp2
        go_ret
        exact HX.out
      | true =>
        have H3 := Lib.hid h3
        clear h3
        go_wp2_with fail
        refine (within_any cut (-1) 1073741824 w3).mono ?_
        rintro e w4 ⟨rfl, hk4'⟩
        have hk4 : Kept Kno w0 w4 := hk3.then0 hk4'
        have c4_6 : w4.cell? ⟨w.heap.size, 6, none⟩ = some (.int .i64 cut) := hk4.cell_some (HG.out.cell 6) (fun h => h)
        have c4_7 : w4.cell? ⟨w.heap.size, 7, none⟩ = some (.slice Ah held.length ch) := hk4.cell_some (HG.out.cell 7) (fun h => h)
        have c4_5 : w4.cell? ⟨w.heap.size, 5, none⟩ = some (.slice Aw wanted.length cw) := hk4.cell_some (HG.out.cell 5) (fun h => h)
        clear hk3
        cases h4 : wB cut (-1) 1073741824 with
        | false =>
          have hx : RetBool (syncB ⟨round, version, budget, wanted, cut, held⟩) w (.returned (.bool false)) w4 := ⟨by simp [syncB, h4], HK.out.then0 hk4⟩
          have HX := Lib.hid hx
          clear hx h4
          go_wp2
          go_ret
          exact HX.out
        | true =>
          have H4 := Lib.hid h4
          clear h4
          by_cases h5 : 0 ≤ cut ∨ held.length = 0
          rotate_left
          · have h5a : ¬ 0 ≤ cut := fun h => h5 (.inl h)
            have h5b : ((held.length : Int) == 0) = false := by simpa using (fun h => h5 (.inr h) : held.length ≠ 0)
            have h5c : held.length ≠ 0 := fun h => h5 (.inr h)
            have hx : RetBool (syncB ⟨round, version, budget, wanted, cut, held⟩) w (.returned (.bool false)) w4 := ⟨by simp [syncB, h5a, h5c], HK.out.then0 hk4⟩
            have HX := Lib.hid hx
            clear hx h5 h5c
            go_wp2
            go_ret
            exact HX.out
          have hstep : ∀ K : Prop, ((0 ≤ cut → K) ∧ (¬ 0 ≤ cut → held.length = 0 → K)) → K := fun K h => by by_cases h0 : 0 ≤ cut; exact h.1 h0; exact h.2 h0 (h5.resolve_left h0)
          have H5 := Lib.hid h5
          clear h5
          by_cases h50 : 0 ≤ cut
          all_goals
            first | (have h5z : (0 : Int) ≤ cut := h50; skip) | skip
            try have h5b : ((held.length : Int) == 0) = true := by simpa using (H5.out.resolve_left h50)
            clear hstep
            go_wp2_with fail
            refine (writable_any B (.slice Aw wanted.length cw) wanted w4 (HA.out.old ((HK.out.then0 hk4).old hB (fun _ _ h => h)) (Nat.le_refl _)) (Nat.le_trans hB (HK.out.then0 hk4).size) hla).mono ?_
            rintro e w5 ⟨rfl, hk5'⟩
            have hk5 : Kept Kno w0 w5 := hk4.then0 hk5'
            have c5_7 : w5.cell? ⟨w.heap.size, 7, none⟩ = some (.slice Ah held.length ch) := hk5.cell_some (HG.out.cell 7) (fun h => h)
            clear hk4
            cases h6 : writB wanted with
            | false =>
              have hx : RetBool (syncB ⟨round, version, budget, wanted, cut, held⟩) w (.returned (.bool false)) w5 := ⟨by simp [syncB, h6], HK.out.then0 hk5⟩
              have HX := Lib.hid hx
              clear hx h6
              go_wp2
              go_ret
              exact HX.out
            | true =>
              have H6 := Lib.hid h6
              clear h6
              go_wp2_with fail
              refine (writable_any B (.slice Ah held.length ch) held w5 (HB.out.old ((HK.out.then0 hk5).old hB (fun _ _ h => h)) (Nat.le_refl _)) (Nat.le_trans hB (HK.out.then0 hk5).size) hlb).mono ?_
              rintro e w6 ⟨rfl, hk6'⟩
              have hx : RetBool (syncB ⟨round, version, budget, wanted, cut, held⟩) w (.returned (.bool (writB held))) w6 := ⟨by have a1 := H1.out; have a2 := H2.out; have a3 := H3.out; have a4 := H4.out; have a6 := H6.out; unfold syncB; simp only; rw [a1, a2, a3, a4, a6]; rcases H5.out with h | h <;> simp [h], HK.out.then0 (hk5.then0 hk6')⟩
              have HX := Lib.hid hx
              clear hx
              generalize writB held = bh at HX ⊢
              go_wp2
              go_ret
              exact HX.out

end Go.Proofs.YtffdaohmalmkfaaGreat
