/-
  Contracts and plain laws that the claim's theorem rests on.
-/
import Derived.Test.YtffdaohmalmkfaaGreatW13
import Derived.Test.YtffdaohmalmkfaaGreatW14
import Derived.Deep.WholeRow
set_option linter.unusedSimpArgs false
set_option linter.unusedVariables false
/-
  Packet: valid at a sync and at a verdict. (Printed by gen_pakq.py.)
-/
namespace Go.Proofs.YtffdaohmalmkfaaGreat
open Go.RowKit
set_option linter.unusedVariables false

/-- Subscriptions that are writable. -/
def writB (xs : List Sub) : Bool := decide (0 ≤ weightI xs) && decide (weightI xs ≤ 16384)
structure Syn where
  round : Int
  version : Int
  budget : Int
  wanted : List Sub
  cut : Int
  held : List Sub
def syncB (x : Syn) : Bool := wB x.round 0 1073741824 && wB x.version 0 1000 && wB x.budget 0 1048576 && wB x.cut (-1) 1073741824 && (decide (0 ≤ x.cut) || decide (x.held.length = 0)) && writB x.wanted && writB x.held
/-- The cells of a message that is a sync. -/
def syncC (d : Int) (x : Syn) (a b : Value) : Array Value := #[.int .i64 1, .int .i64 d, .int .i64 x.round, .int .i64 x.version, .int .i64 x.budget, a, .int .i64 x.cut, b, .int .i64 0, .int .i64 0, .slice none 0 0, .int .i64 0, .int .i64 0, .int .i64 0, .slice none 0 0, .int .i64 0, .int .i64 0, .int .i64 0, .slice none 0 0, .bool false, .slice none 0 0, .int .i64 0, .int .i64 0, .int .i64 0, .slice none 0 0, .int .i64 0, .int .i64 0, .int .i64 0, .int .i64 0, .int .i64 0, .slice none 0 0]

set_option maxRecDepth 100000 in
set_option maxHeartbeats 1000000 in
theorem writable_any (B : Nat) (u : Value) (xs : List Sub) (w : World) (hu : SubsIn w B u xs) (hB : B ≤ w.heap.size) (hl : (encSubs xs).length ≤ 500000000000) :
    Calls Tryz.prog 143 #[u] w (RetBool (writB xs) w) := by
  have HC := Lib.hid (weight_any B u xs w hu hB hl)
  have hr : -1 ≤ weightI xs ∧ weightI xs ≤ 9223372036854775807 := by unfold weightI; split <;> omega
  obtain ⟨A, cap, rfl, -⟩ := hu
  have hd : ∀ (b : Bool) (w' : World), writB xs = b → Kept Kno w w' → RetBool (writB xs) w (.returned (.bool b)) w' := fun b w' he h => ⟨by rw [he], h⟩
  have HD := Lib.hid hd
  have HW : Hid (writB xs = (decide (0 ≤ weightI xs) && decide (weightI xs ≤ 16384))) := Lib.hid rfl
  clear hd hl
  generalize weightI xs = n at HC hr HW
  by_cases h0 : 0 ≤ n
  · by_cases h1 : n ≤ 16384
    · have he : writB xs = true := by rw [HW.out, decide_eq_true h0, decide_eq_true h1]; rfl
      have HE := Lib.hid he
      clear he
      go_enter Tryz.func143, Tryz.ntmps143
      go_wp2_with fail
      refine HC.out.mono ?_
      rintro e w1 ⟨rfl, hk1⟩
      have HK := Lib.hid hk1
      clear hk1
      go_wp2
      go_ret
      exact HD.out true _ HE.out HK.out
    · have h1d : decide (n ≤ 16384) = false := decide_eq_false h1
      have he : writB xs = false := by rw [HW.out, h1d]; simp
      have HE := Lib.hid he
      clear he
      go_enter Tryz.func143, Tryz.ntmps143
      go_wp2_with fail
      refine HC.out.mono ?_
      rintro e w1 ⟨rfl, hk1⟩
      have HK := Lib.hid hk1
      clear hk1
      go_wp2
      go_ret
      exact HD.out false _ HE.out HK.out
  · have he : writB xs = false := by rw [HW.out, decide_eq_false h0]; simp
    have HE := Lib.hid he
    clear he
    go_enter Tryz.func143, Tryz.ntmps143
    go_wp2_with fail
    refine HC.out.mono ?_
    rintro e w1 ⟨rfl, hk1⟩
    have HK := Lib.hid hk1
    clear hk1
    go_wp2
    go_ret
    exact HD.out false _ HE.out HK.out

set_option maxRecDepth 100000 in
set_option maxHeartbeats 4000000 in
theorem validSync_any (d : Int) (x : Syn) (a b : Value) (B : Nat) (w : World) (ha : SubsIn w B a x.wanted) (hb : SubsIn w B b x.held) (hB : B ≤ w.heap.size) (hla : (encSubs x.wanted).length ≤ 500000000000) (hlb : (encSubs x.held).length ≤ 500000000000) :
    Calls Tryz.prog 79 #[.agg (syncC d x a b)] w (RetBool (syncB x) w) := by
  obtain ⟨round, version, budget, wanted, cut, held⟩ := x
  simp only at ha hb hla hlb
  have HA := Lib.hid ha
  have HB := Lib.hid hb
  obtain ⟨Aw, cw, rfl, -⟩ := ha
  obtain ⟨Ah, ch, rfl, -⟩ := hb
  simp only [syncC]
  obtain ⟨w0, h0⟩ : ∃ w0, w0 = w.alloc (.cells #[.int .i64 1, .int .i64 d, .int .i64 round, .int .i64 version, .int .i64 budget, .slice Aw wanted.length cw, .int .i64 cut, .slice Ah held.length ch, .int .i64 0, .int .i64 0, .slice none 0 0, .int .i64 0, .int .i64 0, .int .i64 0, .slice none 0 0, .int .i64 0, .int .i64 0, .int .i64 0, .slice none 0 0, .bool false, .slice none 0 0, .int .i64 0, .int .i64 0, .int .i64 0, .slice none 0 0, .int .i64 0, .int .i64 0, .int .i64 0, .int .i64 0, .int .i64 0, .slice none 0 0] 36) := ⟨_, rfl⟩
  have hk0 : Kept Kno w w0 := by rw [h0]; exact (Kept.refl _ _).alloc _
  have hG : Blk w0 w.heap.size 36 #[.int .i64 1, .int .i64 d, .int .i64 round, .int .i64 version, .int .i64 budget, .slice Aw wanted.length cw, .int .i64 cut, .slice Ah held.length ch, .int .i64 0, .int .i64 0, .slice none 0 0, .int .i64 0, .int .i64 0, .int .i64 0, .slice none 0 0, .int .i64 0, .int .i64 0, .int .i64 0, .slice none 0 0, .bool false, .slice none 0 0, .int .i64 0, .int .i64 0, .int .i64 0, .slice none 0 0, .int .i64 0, .int .i64 0, .int .i64 0, .int .i64 0, .int .i64 0, .slice none 0 0] := by rw [h0]; exact Blk.new _ _ _
  have HK := Lib.hid hk0
  have HG := Lib.hid hG
  have HE0 := Lib.hid h0
  clear h0 hk0 hG
  go_enter Tryz.func79, Tryz.ntmps79
  go_wp2_with fail
  rw [← HE0.out]
  refine (within_any round 0 1073741824 w0).mono ?_
  rintro e w1 ⟨rfl, hk1'⟩
  have hk1 : Kept Kno w0 w1 := hk1'
  have c1_3 : w1.cell? ⟨w.heap.size, 3, none⟩ = some (.int .i64 version) := hk1.cell_some (HG.out.cell 3) (fun h => h)
  cases h1 : wB round 0 1073741824 with
  | false =>
    have hx : RetBool (syncB ⟨round, version, budget, wanted, cut, held⟩) w (.returned (.bool false)) w1 := ⟨by simp [syncB, h1], HK.out.then0 hk1⟩
    have HX := Lib.hid hx
    clear hx h1
    go_wp2
    go_ret
    exact HX.out
  | true =>
    have H1 := Lib.hid h1
    clear h1
    go_wp2_with fail
    refine (within_any version 0 1000 w1).mono ?_
    rintro e w2 ⟨rfl, hk2'⟩
    have hk2 : Kept Kno w0 w2 := hk1.then0 hk2'
    have c2_4 : w2.cell? ⟨w.heap.size, 4, none⟩ = some (.int .i64 budget) := hk2.cell_some (HG.out.cell 4) (fun h => h)
    clear hk1
    cases h2 : wB version 0 1000 with
    | false =>
      have hx : RetBool (syncB ⟨round, version, budget, wanted, cut, held⟩) w (.returned (.bool false)) w2 := ⟨by simp [syncB, h2], HK.out.then0 hk2⟩
      have HX := Lib.hid hx
      clear hx h2
      go_wp2
      go_ret
      exact HX.out
    | true =>
      have H2 := Lib.hid h2
      clear h2
      go_wp2_with fail
      refine (within_any budget 0 1048576 w2).mono ?_
      rintro e w3 ⟨rfl, hk3'⟩
      have hk3 : Kept Kno w0 w3 := hk2.then0 hk3'
      have c3_6 : w3.cell? ⟨w.heap.size, 6, none⟩ = some (.int .i64 cut) := hk3.cell_some (HG.out.cell 6) (fun h => h)
      clear hk2
      cases h3 : wB budget 0 1048576 with
      | false =>
        have hx : RetBool (syncB ⟨round, version, budget, wanted, cut, held⟩) w (.returned (.bool false)) w3 := ⟨by simp [syncB, h3], HK.out.then0 hk3⟩
        have HX := Lib.hid hx
        clear hx h3
        go_wp2
        go_ret
        exact HX.out
      | true =>
        have H3 := Lib.hid h3
        clear h3
        go_wp2_with fail
        refine (within_any cut (-1) 1073741824 w3).mono ?_
        rintro e w4 ⟨rfl, hk4'⟩
        have hk4 : Kept Kno w0 w4 := hk3.then0 hk4'
        have c4_6 : w4.cell? ⟨w.heap.size, 6, none⟩ = some (.int .i64 cut) := hk4.cell_some (HG.out.cell 6) (fun h => h)
        have c4_7 : w4.cell? ⟨w.heap.size, 7, none⟩ = some (.slice Ah held.length ch) := hk4.cell_some (HG.out.cell 7) (fun h => h)
        have c4_5 : w4.cell? ⟨w.heap.size, 5, none⟩ = some (.slice Aw wanted.length cw) := hk4.cell_some (HG.out.cell 5) (fun h => h)
        clear hk3
        cases h4 : wB cut (-1) 1073741824 with
        | false =>
          have hx : RetBool (syncB ⟨round, version, budget, wanted, cut, held⟩) w (.returned (.bool false)) w4 := ⟨by simp [syncB, h4], HK.out.then0 hk4⟩
          have HX := Lib.hid hx
          clear hx h4
          go_wp2
          go_ret
          exact HX.out
        | true =>
          have H4 := Lib.hid h4
          clear h4
          by_cases h5 : 0 ≤ cut ∨ held.length = 0
          rotate_left
          · have h5a : ¬ 0 ≤ cut := fun h => h5 (.inl h)
            have h5b : ((held.length : Int) == 0) = false := by simpa using (fun h => h5 (.inr h) : held.length ≠ 0)
            have h5c : held.length ≠ 0 := fun h => h5 (.inr h)
            have hx : RetBool (syncB ⟨round, version, budget, wanted, cut, held⟩) w (.returned (.bool false)) w4 := ⟨by simp [syncB, h5a, h5c], HK.out.then0 hk4⟩
            have HX := Lib.hid hx
            clear hx h5 h5c
            go_wp2
            go_ret
            exact HX.out
          have hstep : ∀ K : Prop, ((0 ≤ cut → K) ∧ (¬ 0 ≤ cut → held.length = 0 → K)) → K := fun K h => by by_cases h0 : 0 ≤ cut; exact h.1 h0; exact h.2 h0 (h5.resolve_left h0)
          have H5 := Lib.hid h5
          clear h5
          by_cases h50 : 0 ≤ cut
          all_goals
            first | (have h5z : (0 : Int) ≤ cut := h50; skip) | skip
            try have h5b : ((held.length : Int) == 0) = true := by simpa using (H5.out.resolve_left h50)
            clear hstep
            go_wp2_with fail
            refine (writable_any B (.slice Aw wanted.length cw) wanted w4 (HA.out.old ((HK.out.then0 hk4).old hB (fun _ _ h => h)) (Nat.le_refl _)) (Nat.le_trans hB (HK.out.then0 hk4).size) hla).mono ?_
            rintro e w5 ⟨rfl, hk5'⟩
            have hk5 : Kept Kno w0 w5 := hk4.then0 hk5'
            have c5_7 : w5.cell? ⟨w.heap.size, 7, none⟩ = some (.slice Ah held.length ch) := hk5.cell_some (HG.out.cell 7) (fun h => h)
            clear hk4
            cases h6 : writB wanted with
            | false =>
              have hx : RetBool (syncB ⟨round, version, budget, wanted, cut, held⟩) w (.returned (.bool false)) w5 := ⟨by simp [syncB, h6], HK.out.then0 hk5⟩
              have HX := Lib.hid hx
              clear hx h6
              go_wp2
              go_ret
              exact HX.out
            | true =>
              have H6 := Lib.hid h6
              clear h6
              go_wp2_with fail
              refine (writable_any B (.slice Ah held.length ch) held w5 (HB.out.old ((HK.out.then0 hk5).old hB (fun _ _ h => h)) (Nat.le_refl _)) (Nat.le_trans hB (HK.out.then0 hk5).size) hlb).mono ?_
              rintro e w6 ⟨rfl, hk6'⟩
              have hx : RetBool (syncB ⟨round, version, budget, wanted, cut, held⟩) w (.returned (.bool (writB held))) w6 := ⟨by have a1 := H1.out; have a2 := H2.out; have a3 := H3.out; have a4 := H4.out; have a6 := H6.out; unfold syncB; simp only; rw [a1, a2, a3, a4, a6]; rcases H5.out with h | h <;> simp [h], HK.out.then0 (hk5.then0 hk6')⟩
              have HX := Lib.hid hx
              clear hx
              generalize writB held = bh at HX ⊢
              go_wp2
              go_ret
              exact HX.out

end Go.Proofs.YtffdaohmalmkfaaGreat
/-
  Packet: valid, as a whole, at a sync and at a verdict. (Printed by gen_pakr.py.)
-/
namespace Go.Proofs.YtffdaohmalmkfaaGreat
open Go.RowKit
set_option linter.unusedVariables false

section
variable {P : Program}
theorem wpList_load_rowW {ops : Array Oper} {rest : List Oper} {o : Oper} {a : Act} {w : World} {Q : Exit → Act → World → Prop} (hgd : Region.wanted o (yielded ops a.tmps) = true) (ty : TypeId) (x : Operand) (ho : o.op = .load ty x)
    (g : Nat) (hx : a.eval x = .pointer (some ⟨g, 0, none⟩)) (t : TypeId) (cs : Array Value) (fr : Nat × Nat) (d : TypeDesc) (hg : w.heap[g]? = some (.cells cs t fr))
    (hu : P.underlying ty = some d) (hd : (match d with | .struct _ | .array _ _ => true | _ => false) = true) (hi : (P.info? ty).map (·.size) = some cs.size)
    (h : wpList P ops Q rest (a.put o.dst (.agg cs)) w) : wpList P ops Q (o :: rest) a w :=
  BigFrame.wpList_want hgd fun _ hK => wp_load_row ty x ho g hx t cs fr d hg hu hd hi (hK _ _ h)
end

theorem wB_lo {d a b : Int} (h : d < a) : wB d a b = false := by unfold wB; rw [decide_eq_false (by omega)]; rfl
theorem wB_hi {d a b : Int} (h : b < d) : wB d a b = false := by unfold wB; rw [decide_eq_false (p := d ≤ b) (by omega)]; simp
theorem CellsAt.sub {w : World} {g : Nat} {t : TypeId} {cs : Array Value} (h : Blk w g t cs) (n : Nat) {l : List Value} (hl : (cs.toList.drop n).take l.length = l) : CellsAt w g n l := fun j u hj => by
  rw [h.cell]
  rw [← hl, List.getElem?_take, List.getElem?_drop] at hj
  split at hj
  · simpa using hj
  · cases hj

set_option maxRecDepth 100000 in
set_option maxHeartbeats 4000000 in
theorem valid_sync (d : Int) (x : Syn) (a b : Value) (B : Nat) (w : World) (ha : SubsIn w B a x.wanted) (hb : SubsIn w B b x.held) (hB : B ≤ w.heap.size) (hla : (encSubs x.wanted).length ≤ 500000000000) (hlb : (encSubs x.held).length ≤ 500000000000) :
    Calls Tryz.prog 34 #[.agg (syncC d x a b)] w (RetBool (wB d 1 8 && syncB x) w) := by
  have HSZ : Hid ((Tryz.prog.info? 36).map (·.size) = some (syncC d x a b).size) := Lib.hid (bad_load _ rfl)
  obtain ⟨w0, h0⟩ : ∃ w0, w0 = w.alloc (.cells (syncC d x a b) 36) := ⟨_, rfl⟩
  have hk0 : Kept Kno w w0 := by rw [h0]; exact (Kept.refl _ _).alloc _
  have hG : Blk w0 w.heap.size 36 (syncC d x a b) := by rw [h0]; exact Blk.new _ _ _
  have c1 : w0.cell? ⟨w.heap.size, 1, none⟩ = some (.int .i64 d) := hG.cell 1
  have c0 : w0.cell? ⟨w.heap.size, 0, none⟩ = some (.int .i64 1) := hG.cell 0
  have HK := Lib.hid hk0
  have HG := Lib.hid hG
  have HE0 := Lib.hid h0
  clear h0 hk0 hG
  go_enter Tryz.func34, Tryz.ntmps34
  go_upto_region 1 with (fail)
  rw [← HE0.out]
  by_cases hd1 : d < 1
  · have hx : RetBool (wB d 1 8 && syncB x) w (.returned (.bool false)) w0 := ⟨by rw [wB_lo hd1]; rfl, HK.out⟩
    have HX := Lib.hid hx
    clear hx
    go_wp2
    go_ret
    exact HX.out
  · by_cases hd8 : 8 < d
    · have hx : RetBool (wB d 1 8 && syncB x) w (.returned (.bool false)) w0 := ⟨by rw [wB_hi hd8]; rfl, HK.out⟩
      have HX := Lib.hid hx
      clear hx
      go_wp2
      go_ret
      exact HX.out
    · have hwb : wB d 1 8 = true := by unfold wB; rw [decide_eq_true (by omega), decide_eq_true (by omega)]; rfl
      have HWB := Lib.hid hwb
      clear hwb
      go_wp2_with (first | (refine wpList_load_row rfl 36 (.tmp 1) rfl w.heap.size rfl 36 (syncC d x a b) (0, 0) _ HG.out Tryz.underlying36 rfl HSZ.out ?_))
      refine (noDelta_z _ _ _ _ _ _ _ _ _ _ _ _ _ _ _ _ _ _ _ _ _ _ _ _ w0).mono ?_
      rintro e w1 ⟨rfl, hk1⟩
      have HG := Lib.hid (HG.out.kept hk1 (fun h => h))
      have HK := Lib.hid (HK.out.then0 hk1)
      clear hk1
      go_wp2_with (first | (refine wpList_load_atW rfl 29 (.tmp 18) rfl w.heap.size 15 [.int .i64 0, .int .i64 0, .int .i64 0, .slice none 0 0, .bool false, .slice none 0 0] _ rfl (CellsAt.sub HG.out 15 rfl) Tryz.underlying29 rfl (by kernel_rfl) ?_))
      refine (noSubmission_z w1).mono ?_
      rintro e w2 ⟨rfl, hk2⟩
      have HG := Lib.hid (HG.out.kept hk2 (fun h => h))
      have HK := Lib.hid (HK.out.then0 hk2)
      clear hk2
      go_wp2_with (first | (refine wpList_load_atW rfl 34 (.tmp 23) rfl w.heap.size 21 [.int .i64 0, .int .i64 0, .int .i64 0, .slice none 0 0, .int .i64 0, .int .i64 0, .int .i64 0, .int .i64 0, .int .i64 0, .slice none 0 0] _ rfl (CellsAt.sub HG.out 21 rfl) Tryz.underlying34 rfl (by kernel_rfl) ?_))
      refine (noVerdict_z w2).mono ?_
      rintro e w3 ⟨rfl, hk3⟩
      have HG := Lib.hid (HG.out.kept hk3 (fun h => h))
      have HK := Lib.hid (HK.out.then0 hk3)
      clear hk3
      go_wp2_with (first | (refine wpList_load_rowW rfl 36 (.tmp 1) rfl w.heap.size rfl 36 (syncC d x a b) (0, 0) _ HG.out Tryz.underlying36 rfl HSZ.out ?_))
      refine (validSync_any d x a b B w3 (ha.old (HK.out.old hB (fun _ _ h => h)) (Nat.le_refl _)) (hb.old (HK.out.old hB (fun _ _ h => h)) (Nat.le_refl _)) (Nat.le_trans hB HK.out.size) hla hlb).mono ?_
      rintro e w4 ⟨rfl, hk4⟩
      have HG := Lib.hid (HG.out.kept hk4 (fun h => h))
      have HK := Lib.hid (HK.out.then0 hk4)
      clear hk4
      obtain ⟨bh, hbh⟩ : ∃ bh, bh = syncB x := ⟨_, rfl⟩
      have hx : RetBool (wB d 1 8 && syncB x) w (.returned (.bool bh)) w4 := ⟨by rw [HWB.out, hbh]; rfl, HK.out⟩
      have HX := Lib.hid hx
      rw [← hbh]
      clear hx hbh
      go_wp2
      go_ret
      exact HX.out

end Go.Proofs.YtffdaohmalmkfaaGreat
/-
  Packet: Encode at a verdict and at a sync.
-/
namespace Go.Proofs.YtffdaohmalmkfaaGreat
open Go.RowKit
set_option linter.unusedVariables false

set_option maxRecDepth 100000 in
set_option maxHeartbeats 2000000 in
theorem wfSubs (D B X k off : Nat) (u : Value) (xs : List Sub) (mcs : Array Value) (v : Value) (l : List UInt8) (w : World) (hof : OfIs k off) (hm : mcs[off]? = some u) (hr : SubsIn w B u xs) (hB : B ≤ D) (hf : ∀ x ∈ xs, fitQ 1 x.q = true) (hX : w.cell? ⟨X, 0, none⟩ = some (.func (.func k) #[] #[])) (h : Wr w D v l) (hl : l.length + (encSubs xs).length ≤ 600000000000) :
    Calls Tryz.prog 151 #[.pointer (some ⟨D, 0, none⟩), .agg mcs, .pointer (some ⟨X, 0, none⟩)] w (WrOk D v (l ++ encSubs xs) w) := by
  have H := Lib.hid h
  have HO := Lib.hid hof.2
  have HF := Lib.hid hf
  have e1 : ∀ (args : Array Value) (w : World), (callFunc k args).run Tryz.prog w = .ok (.enter k args) w := hof.1
  have hkA : Kept Kno w (w.alloc (.cells mcs 36)) := (Kept.refl _ _).alloc _
  have hXA := hkA.cell_some hX (fun h => h)
  have HR := Lib.hid (hr.old (hkA.old (Nat.le_trans hB (Nat.le_of_lt h.lt)) (fun _ _ h => h)) (Nat.le_refl _))
  obtain ⟨Ar, capr, rfl, -⟩ := hr
  have hc : (w.alloc (.cells mcs 36)).cell? ⟨w.heap.size, off, none⟩ = some (.slice Ar xs.length capr) := ((Blk.new w 36 mcs).cell off).trans hm
  have HK := Lib.hid hkA
  clear h hof hf hkA hX
  go_enter Tryz.func151, Tryz.ntmps151
  go_wp2_with fail
  refine (HO.out _ _).mono ?_
  rintro e w1 ⟨rfl, rfl⟩
  go_wp2_with fail
  refine (wsubs_any D B v _ l xs _ (H.out.kept HK.out) HR.out HF.out hB hl).mono ?_
  rintro e w2 ⟨v2, rfl, hw2, hs2⟩
  have HX := Lib.hid (WrOk.new HK.out ⟨v2, rfl, hw2, hs2⟩)
  clear hw2 hs2
  go_wp2
  go_end0
  exact HX.out

set_option maxRecDepth 100000 in
theorem ent_num : Ent 149 := fun args w => by go_simp
set_option maxRecDepth 100000 in
theorem ent_subs : Ent 151 := fun args w => by go_simp

section
variable {w1 : World} {D base : Nat} {v : Value} {p : Value × Value} {mcs : Array Value}
theorem fd_guard {X : Nat} {t : TypeId} {cs : Array Value} (hk : ∀ k, Kw D v k → k < base) (hX : base ≤ X) (hb : Blk w1 X t cs) : Gd w1 D v X t cs := ⟨hb, fun h => by have := hk X h; omega⟩
theorem fdw_num {k off : Nat} {n : Int} (h : FdIn w1 base (fdNum k) p) (hk : ∀ k, Kw D v k → k < base) (hof : OfIs k off) (hm : mcs[off]? = some (.int .i64 n)) (hn : I64 n) : FdW w1 D v (.agg mcs) p.1 (inum n) := by
  obtain ⟨X, h1, rfl, h3⟩ := h
  refine ⟨149, #[.pointer (some ⟨X, 0, none⟩)], rfl, ent_num, fun w' v' l hs hw hl => ?_⟩
  exact wfNum D X k off n mcs v' l w' hof hm hn (((fd_guard hk h1 h3).step hs).b.cell 0) hw (by omega)
theorem fdw_subs {k off B : Nat} {u : Value} {xs : List Sub} {l0 : List UInt8} (h : FdIn w1 base (fdSubs k) p) (hk : ∀ k, Kw D v k → k < base) (hw0 : Wr w1 D v l0) (hof : OfIs k off) (hm : mcs[off]? = some u) (hr : SubsIn w1 B u xs) (hB : B ≤ D) (hf : ∀ x ∈ xs, fitQ 1 x.q = true) : FdW w1 D v (.agg mcs) p.1 (encSubs xs) := by
  obtain ⟨X, h1, rfl, h3⟩ := h
  refine ⟨151, #[.pointer (some ⟨X, 0, none⟩)], rfl, ent_subs, fun w' v' l hs hw hl => ?_⟩
  exact wfSubs D B X k off u xs mcs v' l w' hof hm (hr.old (hs.old hw0 hB) (Nat.le_refl _)) hB hf (((fd_guard hk h1 h3).step hs).b.cell 0) hw (by omega)
end

theorem wB_i64 {n a b : Int} (h : wB n a b = true) (ha : -9223372036854775808 ≤ a) (hb : b ≤ 9223372036854775807) : I64 n := by
  unfold wB at h
  simp only [Bool.and_eq_true, decide_eq_true_eq] at h
  exact ⟨by omega, by omega⟩

/-- The bytes of a sync. -/
def syncBs (d : Int) (x : Syn) : List (List UInt8) := [inum d, inum x.round, inum x.version, inum x.budget, encSubs x.wanted, inum x.cut, encSubs x.held]
def encSync (d : Int) (x : Syn) : List UInt8 := inum 1 ++ (syncBs d x).flatten
def syncFs : List Fd := [fdNum 85, fdNum 86, fdNum 87, fdNum 88, fdSubs 90, fdNum 91, fdSubs 92]
theorem writB_fit {xs : List Sub} (h : writB xs = true) : (∀ x ∈ xs, fitQ 1 x.q = true) ∧ (encSubs xs).length ≤ 16384 := by
  unfold writB weightI at h
  split at h
  · rename_i h2
    simp only [Bool.and_eq_true, decide_eq_true_eq] at h
    exact ⟨fun x hx => wrQ_fit (okSubs_fit h2.2 x hx), by omega⟩
  · simp at h

theorem encode_sync (d : Int) (x : Syn) (a b : Value) (w : World) (ha : SubsIn w w.heap.size a x.wanted) (hb : SubsIn w w.heap.size b x.held) (hla : (encSubs x.wanted).length ≤ 500000000000) (hlb : (encSubs x.held).length ≤ 500000000000) (hv : (wB d 1 8 && syncB x) = true) :
    Calls Tryz.prog 9 #[.agg (syncC d x a b)] w (EncOk (encSync d x) w) := by
  have hv0 := hv
  unfold syncB at hv
  simp only [Bool.and_eq_true] at hv
  obtain ⟨hd, ⟨⟨⟨⟨⟨h1, h2⟩, h3⟩, h4⟩, -⟩, h6⟩, h7⟩ := hv
  obtain ⟨f6, l6⟩ := writB_fit h6
  obtain ⟨f7, l7⟩ := writB_fit h7
  refine encode_ok 1 (syncC d x a b) syncFs (syncBs d x) w rfl rfl ⟨by decide, by decide⟩ rfl ?_ fields_1 ?_ ?_ (by decide)
  · intro w' hk'
    have := valid_sync d x a b w.heap.size w' (ha.old (hk'.old (Nat.le_refl _) (fun _ _ h => h)) (Nat.le_refl _)) (hb.old (hk'.old (Nat.le_refl _) (fun _ _ h => h)) (Nat.le_refl _)) hk'.size hla hlb
    rw [hv0] at this
    exact this
  · intro w1 D base v l ho hD hw hkw i f p b' hf hbs hfi
    have ra := ha.old ho (Nat.le_refl _)
    have rb := hb.old ho (Nat.le_refl _)
    match i, hf, hbs with
    | 0, hf, hb => simp only [syncFs, syncBs, List.getElem?_cons_succ, List.getElem?_cons_zero, Option.some.injEq] at hf hb; subst hf hb; exact fdw_num hfi hkw of_fields_1 rfl (wB_i64 hd (by omega) (by omega))
    | 1, hf, hb => simp only [syncFs, syncBs, List.getElem?_cons_succ, List.getElem?_cons_zero, Option.some.injEq] at hf hb; subst hf hb; exact fdw_num hfi hkw of_fields_2 rfl (wB_i64 h1 (by omega) (by omega))
    | 2, hf, hb => simp only [syncFs, syncBs, List.getElem?_cons_succ, List.getElem?_cons_zero, Option.some.injEq] at hf hb; subst hf hb; exact fdw_num hfi hkw of_fields_3 rfl (wB_i64 h2 (by omega) (by omega))
    | 3, hf, hb => simp only [syncFs, syncBs, List.getElem?_cons_succ, List.getElem?_cons_zero, Option.some.injEq] at hf hb; subst hf hb; exact fdw_num hfi hkw of_fields_4 rfl (wB_i64 h3 (by omega) (by omega))
    | 4, hf, hb => simp only [syncFs, syncBs, List.getElem?_cons_succ, List.getElem?_cons_zero, Option.some.injEq] at hf hb; subst hf hb; exact fdw_subs hfi hkw hw of_fields_5 rfl ra hD f6
    | 5, hf, hb => simp only [syncFs, syncBs, List.getElem?_cons_succ, List.getElem?_cons_zero, Option.some.injEq] at hf hb; subst hf hb; exact fdw_num hfi hkw of_fields_6 rfl (wB_i64 h4 (by omega) (by omega))
    | 6, hf, hb => simp only [syncFs, syncBs, List.getElem?_cons_succ, List.getElem?_cons_zero, Option.some.injEq] at hf hb; subst hf hb; exact fdw_subs hfi hkw hw of_fields_7 rfl rb hD f7
    | j + 7, hf, hb => simp [syncBs] at hb
  · have i0 := (inum_length d).2
    have i1 := (inum_length x.round).2
    have i2 := (inum_length x.version).2
    have i3 := (inum_length x.budget).2
    have i4 := (inum_length x.cut).2
    simp only [syncBs, List.flatten_cons, List.flatten_nil, List.length_append, List.length_nil]
    omega

end Go.Proofs.YtffdaohmalmkfaaGreat
