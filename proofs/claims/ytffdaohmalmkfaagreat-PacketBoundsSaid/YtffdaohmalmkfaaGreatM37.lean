/-
  Contracts and plain laws that the claim's theorem rests on, some texts in one file.
-/
import Derived.Test.YtffdaohmalmkfaaGreatM36
import Derived.BigRegion
/-
  Packet's reference: Weight and light of at most one subscription.
-/
namespace Go.Proofs.YtffdaohmalmkfaaGreat
open Go.RowKit
set_option linter.unusedVariables false

set_option maxRecDepth 100000 in
set_option maxHeartbeats 2000000 in
theorem xbetween_any (n a b : Int) (w : World) : Calls Tryz.prog 194 #[.int .i64 n, .int .i64 a, .int .i64 b] w (RetBool (wB n a b) w) := by
  by_cases h1 : a ≤ n
  · by_cases h2 : n ≤ b
    · have HX : Hid (RetBool (wB n a b) w (.returned (.bool true)) w) := Lib.hid ⟨by unfold wB; rw [decide_eq_true h1, decide_eq_true h2]; rfl, Kept.refl _ _⟩
      go_enter Tryz.func194, Tryz.ntmps194
      go_wp2
      go_ret
      exact HX.out
    · have HX : Hid (RetBool (wB n a b) w (.returned (.bool false)) w) := Lib.hid ⟨by unfold wB; rw [decide_eq_true h1, decide_eq_false h2]; rfl, Kept.refl _ _⟩
      have h3 : decide (n ≤ b) = false := decide_eq_false h2
      clear h2
      go_enter Tryz.func194, Tryz.ntmps194
      go_wp2
      go_ret
      exact HX.out
  · have HX : Hid (RetBool (wB n a b) w (.returned (.bool false)) w) := Lib.hid ⟨by unfold wB; rw [decide_eq_false h1]; rfl, Kept.refl _ _⟩
    have h3 : decide (a ≤ n) = false := decide_eq_false h1
    clear h1
    go_enter Tryz.func194, Tryz.ntmps194
    go_wp2
    go_ret
    exact HX.out

def WtOne (x : Sub) (w : World) (i : Value) (wr : World) : Prop := (i = .int .i64 0 ∨ i = .int .i64 1 ∧ okAt [] x = true) ∧ Kept Kno w wr
def ZeroRel (w : World) (i : Value) (wr : World) : Prop := i = .int .i64 0 ∧ Kept Kno w wr

set_option maxRecDepth 100000 in
set_option maxHeartbeats 8000000 in
theorem xweight_nil (w : World) : Calls Tryz.prog 17 #[.slice none 0 0] w (RetInt (weightI []) w) := by
  have hn : OwnB w w.heap.size 5 (.slice none 0 0) [] := World.ownsRow_nil _ _ _ _
  have hc := xsubs_any w.heap.size w.heap.size (.slice none 0 0) (.slice none 0 0) [] [] w hn (SubsIn.nil _ _) (by simp) (Nat.le_refl _) (Nat.le_refl _) (by have := (leb_length 0).2; simp [encSubs]; omega)
  have HC := Lib.hid hc
  have HN := Lib.hid hn
  clear hc hn
  go_enter Tryz.func17, Tryz.ntmps17
  go_wp2_with fail
  go_loopw [12] (fun i wr => i = .int .i64 0 ∧ wr = w) (fun i _ => 0)
  case atStart => exact ⟨rfl, rfl⟩
  case round =>
    obtain ⟨rfl, rfl⟩ := hrel
    go_wp2_with fail
    refine HC.out.mono ?_
    rintro e w1 ⟨A1, c1, rfl, ho, hs⟩
    have hx : RetInt (weightI []) wr (.returned (.int .i64 (([] ++ encSubs []).length : Nat))) w1 := ⟨rfl, hs.k.mono (fun i _ h => by have := (own_base HN.out h).1; have := (own_base HN.out h).2; omega)⟩
    have HX := Lib.hid hx
    clear hx ho hs
    go_wp2
    go_ret
    exact HX.out

set_option maxRecDepth 100000 in
set_option maxHeartbeats 8000000 in
theorem xweight_one (B : Nat) (u : Value) (x : Sub) (w : World) (hu : SubsIn w B u [x]) (hB : B ≤ w.heap.size) (hl : (encSubs [x]).length ≤ 500000000000) :
    Calls Tryz.prog 17 #[u] w (RetInt (weightI [x]) w) := by
  have HU := Lib.hid hu
  obtain ⟨A, cap, rfl, hcap, hmax, -, hat⟩ := hu
  simp only [List.length_singleton] at hcap hat ⊢
  obtain ⟨g, o, rfl, hgB, hc⟩ := hat (by omega)
  obtain ⟨x1, x2, s, hqi, hqc⟩ := hc 0 x rfl
  rw [Nat.zero_mul, Nat.add_zero] at hqc
  have hmax' : cap ≤ 9223372036854775807 := by simpa only [maxLen] using hmax
  have hcap1 : (1 : Int) ≤ (cap : Int) := by omega
  have HX1 := Lib.hid x1
  have HQI := Lib.hid hqi
  have HQC := Lib.hid hqc
  have hqn := x.q.cells_length s
  have hqo := QIn.one hqi
  have hn23 : (subC x s).length = 23 := by simp [subC, hqn]
  have HI : Hid ((Tryz.prog.info? 62).map (·.size) = some (subC x s).length) := Lib.hid (by rw [hn23]; kernel_rfl)
  have HI2 : Hid ((Tryz.prog.info? 62).map (·.size) = some (subC x s).toArray.size) := Lib.hid (by rw [List.size_toArray, hn23]; kernel_rfl)
  have HZ : Hid ((subC x s).toArray.size = 23) := Lib.hid (by rw [List.size_toArray, hn23])
  have HO : Hid ((subC x s).toArray.all (·.oneCell') = true) := Lib.hid (by simpa [subC, Value.oneCell'] using hqo)
  have HIQ : Hid ((Tryz.prog.info? 59).map (·.size) = some (x.q.cells s).length) := Lib.hid (by rw [hqn]; kernel_rfl)
  have HQV : Hid (x.q.v s = .agg (x.q.cells s).toArray) := Lib.hid (x.q.v_cells s)
  have HBAD : Hid (okAt [] x = false → weightI [x] = -1) := Lib.hid (fun h => by
    unfold weightI
    rw [if_neg]
    rintro ⟨-, h2⟩
    simp only [okSubs, h, Bool.false_and] at h2
    cases h2)
  clear hat hc hqi hqc hqn hqo hn23 x1 x2 hmax hcap
  go_enter Tryz.func17, Tryz.ntmps17
  go_wp2_with fail
  go_loopw [12] (fun i wr => WtOne x w i wr) (fun i _ => 1 - (intOf i).toNat)
  case atStart => exact ⟨.inl rfl, Kept.refl _ _⟩
  case round =>
    obtain ⟨hor, hkr⟩ := hrel
    have HKR := Lib.hid hkr
    clear hkr
    rcases hor with rfl | ⟨rfl, hok⟩
    · have hold : Old B w wr := HKR.out.old hB (fun _ _ h => h)
      obtain ⟨wB, hwB⟩ : ∃ wB, wB = wr.alloc (.cells (subC x s).toArray 62) := ⟨_, rfl⟩
      have hkB : Kept Kno wr wB := by rw [hwB]; exact (Kept.refl _ _).alloc _
      have hGB : Blk wB wr.heap.size 62 (subC x s).toArray := by rw [hwB]; exact Blk.new _ _ _
      have HCR := Lib.hid (HQC.out.old hgB hold)
      have HCQ : Hid (CellsAt wB wr.heap.size 2 (x.q.cells s)) := Lib.hid (by have := (CellsAt.blk hGB).drop 2; simpa [subC] using this)
      have c0 : wB.cell? ⟨wr.heap.size, 0, none⟩ = some (.int .i64 x.id) := hGB.cell 0
      have HKB := Lib.hid (HKR.out.then0 hkB)
      have HQB : Hid (QIn wB B x.q s) := Lib.hid (QIn.old (HKB.out.old hB (fun _ _ h => h)) (Nat.le_refl _) _ _ HQI.out)
      have HBB : Hid (B ≤ wB.heap.size) := Lib.hid (Nat.le_trans hB HKB.out.size)
      have HGB := Lib.hid hGB
      have HWB := Lib.hid hwB
      rw [hwB] at c0
      clear hwB hkB hGB hold
      by_cases hid : x.id < 1
      · have hx : RetInt (weightI [x]) w (.returned (.int .i64 (-1))) wB := ⟨by rw [HBAD.out (by unfold okAt; rw [decide_eq_false (by omega)]; rfl)], HKB.out⟩
        have HX := Lib.hid hx
        clear hx
        go_wp2_with (first
          | (refine wpList_load_at rfl 62 (.tmp 15) rfl g o (subC x s) _ rfl HCR.out Tryz.underlying62 rfl HI.out ?_)
          | (refine wpList_store_new rfl 62 (.tmp 4) (.tmp 16) rfl _ (subC x s).toArray rfl rfl HI2.out (by rw [HZ.out]; rfl) HO.out ?_))
        go_ret
        rw [← HWB.out]
        exact HX.out
      · have hid' : ¬ x.id < 1 := hid
        go_wp2_with (first
          | (refine wpList_load_at rfl 62 (.tmp 15) rfl g o (subC x s) _ rfl HCR.out Tryz.underlying62 rfl HI.out ?_)
          | (refine wpList_store_new rfl 62 (.tmp 4) (.tmp 16) rfl _ (subC x s).toArray rfl rfl HI2.out (by rw [HZ.out]; rfl) HO.out ?_)
          | (refine wpList_load_atW rfl 59 (.tmp 21) rfl wr.heap.size 2 (x.q.cells s) _ rfl (by rw [← HWB.out]; exact HCQ.out) Tryz.underlying59 rfl HIQ.out ?_))
        rw [← HQV.out, ← HWB.out]
        refine (xwritable_any x.q B s wB HQB.out HBB.out).mono ?_
        rintro e w2 ⟨rfl, hk2⟩
        have HK2 := Lib.hid (HKB.out.then0 hk2)
        clear hk2 c0
        cases hwq : wrQ x.q with
        | false =>
          have hx : RetInt (weightI [x]) w (.returned (.int .i64 (-1))) w2 := ⟨by rw [HBAD.out (by unfold okAt; rw [hwq]; simp)], HK2.out⟩
          have HX := Lib.hid hx
          clear hx hwq
          go_wp2
          go_ret
          exact HX.out
        | true =>
          have HOK : Hid (okAt [] x = true) := Lib.hid (by unfold okAt; rw [hwq, decide_eq_true (by omega)]; rfl)
          clear hwq
          go_wp2_with fail
          go_loopw [30] (fun i wr => ZeroRel w2 i wr) (fun i _ => 0)
          case atStart => exact ⟨rfl, Kept.refl _ _⟩
          case round =>
            obtain ⟨rfl, hk3⟩ := hrel
            have HK3 := Lib.hid (HK2.out.then0 hk3)
            clear hk3
            go_wp2
            go_roundw
            case rel => exact ⟨.inr ⟨rfl, HOK.out⟩, HK3.out⟩
            case measure => simp [intOf]
    · have hwt : weightI [x] = ((encSubs [x]).length : Int) := by unfold weightI; rw [if_pos ⟨by simp, by simp only [okSubs, hok]; rfl⟩]
      have HWT := Lib.hid hwt
      have hfit : ∀ y ∈ [x], fitQ 1 y.q = true := by
        intro y hy
        obtain rfl : y = x := by simpa using hy
        unfold okAt at hok
        simp only [Bool.and_eq_true] at hok
        exact wrQ_fit hok.2
      have hn : OwnB wr wr.heap.size 5 (.slice none 0 0) [] := World.ownsRow_nil _ _ _ _
      have HN := Lib.hid hn
      have hUr : SubsIn wr B (.slice (some ⟨g, o, none⟩) 1 cap) [x] := HU.out.old (HKR.out.old hB (fun _ _ h => h)) (Nat.le_refl _)
      have HCS := Lib.hid (xsubs_any wr.heap.size B (.slice none 0 0) _ [] [x] wr hn hUr hfit (Nat.le_trans hB HKR.out.size) (Nat.le_refl _) (by simp; omega))
      clear hwt hfit hok hn hUr
      go_wp2_with fail
      refine HCS.out.mono ?_
      rintro e w2 ⟨A2, c2, rfl, ho, hs⟩
      have hx : RetInt (weightI [x]) w (.returned (.int .i64 ((([] : List UInt8) ++ encSubs [x]).length : Int))) w2 := ⟨by rw [HWT.out, List.nil_append], HKR.out.then0 (hs.k.mono (fun i _ h => by have := (own_base HN.out h).1; have := (own_base HN.out h).2; omega))⟩
      have HX := Lib.hid hx
      clear hx ho hs
      go_wp2
      go_ret
      exact HX.out

theorem xweight_any (B : Nat) (u : Value) (xs : List Sub) (w : World) (hu : SubsIn w B u xs) (hB : B ≤ w.heap.size) (hl : (encSubs xs).length ≤ 500000000000) (h1 : xs.length ≤ 1) (hn : xs = [] → u = .slice none 0 0) :
    Calls Tryz.prog 17 #[u] w (RetInt (weightI xs) w) := by
  match xs, h1 with
  | [], _ => rw [hn rfl]; exact xweight_nil w
  | [x], _ => exact xweight_one B u x w hu hB hl

set_option maxRecDepth 100000 in
set_option maxHeartbeats 2000000 in
theorem xlight_any (B : Nat) (u : Value) (xs : List Sub) (w : World) (hu : SubsIn w B u xs) (hB : B ≤ w.heap.size) (hl : (encSubs xs).length ≤ 500000000000) (h1 : xs.length ≤ 1) (hn : xs = [] → u = .slice none 0 0) :
    Calls Tryz.prog 196 #[u] w (RetBool (writB xs) w) := by
  have HC := Lib.hid (xweight_any B u xs w hu hB hl h1 hn)
  obtain ⟨A, cap, rfl, -⟩ := hu
  generalize hW : weightI xs = W at HC
  have HW := Lib.hid hW
  clear hW hn
  go_enter Tryz.func196, Tryz.ntmps196
  go_wp2_with fail
  refine HC.out.mono ?_
  rintro e w1 ⟨rfl, hk1⟩
  have HK := Lib.hid hk1
  clear hk1
  by_cases h1 : 0 ≤ W
  · by_cases h2 : W ≤ 16384
    · have HX : Hid (RetBool (writB xs) w (.returned (.bool true)) w1) := Lib.hid ⟨by unfold writB; rw [HW.out, decide_eq_true h1, decide_eq_true h2]; rfl, HK.out⟩
      go_wp2
      go_ret
      exact HX.out
    · have HX : Hid (RetBool (writB xs) w (.returned (.bool false)) w1) := Lib.hid ⟨by unfold writB; rw [HW.out, decide_eq_true h1, decide_eq_false h2]; rfl, HK.out⟩
      have h3 : decide (W ≤ 16384) = false := decide_eq_false h2
      clear h2
      go_wp2
      go_ret
      exact HX.out
  · have HX : Hid (RetBool (writB xs) w (.returned (.bool false)) w1) := Lib.hid ⟨by unfold writB; rw [HW.out, decide_eq_false h1]; rfl, HK.out⟩
    have h3 : decide (0 ≤ W) = false := decide_eq_false h1
    clear h1
    go_wp2
    go_ret
    exact HX.out

end Go.Proofs.YtffdaohmalmkfaaGreat
/-
  Packet's reference: used at a sync of one subscription. (Printed by gen_pakrn.py.)
-/
namespace Go.Proofs.YtffdaohmalmkfaaGreat
open Go.RowKit
set_option linter.unusedVariables false

/-- The law's message, u its subscriptions. -/
def lawC (u : Value) : Array Value := #[.int .i64 1, .int .i64 1, .int .i64 0, .int .i64 0, .int .i64 0, u, .int .i64 0, .slice none 0 0, .int .i64 0, .int .i64 0, .slice none 0 0, .int .i64 0, .int .i64 0, .int .i64 0, .slice none 0 0, .int .i64 0, .int .i64 0, .int .i64 0, .slice none 0 0, .bool false, .slice none 0 0, .int .i64 0, .int .i64 0, .int .i64 0, .slice none 0 0, .int .i64 0, .int .i64 0, .int .i64 0, .int .i64 0, .int .i64 0, .slice none 0 0]
def usedC : Array Value := #[.int .i64 1, .int .i64 1, .int .i64 0, .int .i64 0, .int .i64 0, .slice none 0 0, .int .i64 0, .slice none 0 0, .int .i64 0, .int .i64 0, .slice none 0 0, .int .i64 0, .int .i64 0, .int .i64 0, .slice none 0 0, .int .i64 0, .int .i64 0, .int .i64 0, .slice none 0 0, .bool false, .slice none 0 0, .int .i64 0, .int .i64 0, .int .i64 0, .slice none 0 0, .int .i64 0, .int .i64 0, .int .i64 0, .int .i64 0, .int .i64 0, .slice none 0 0]
theorem lawC_sync (xs : List Sub) (u : Value) : lawC u = syncC 1 ⟨0, 0, 0, xs, 0, []⟩ u (.slice none 0 0) := rfl
theorem syncB_law (xs : List Sub) : syncB ⟨0, 0, 0, xs, 0, []⟩ = writB xs := by
  have h : writB [] = true := by decide
  unfold syncB
  simp only [h, wB]
  simp

set_option maxRecDepth 100000 in
set_option maxHeartbeats 8000000 in
theorem xused_law {A : Option Addr} {n c : Nat} (w : World) :
    Calls Tryz.prog 195 #[.agg (lawC (.slice A n c))] w (fun e w' => e = .returned (.agg (lawC (.slice A n c))) ∧ Kept Kno w w') := by
  simp only [lawC]
  go_enter Tryz.func195, Tryz.ntmps195
  go_upto_region 1 with (fail)
  obtain ⟨wA, hA⟩ : ∃ wA, ((w.alloc (.cells #[.int .i64 1, .int .i64 1, .int .i64 0, .int .i64 0, .int .i64 0, .slice A n c, .int .i64 0, .slice none 0 0, .int .i64 0, .int .i64 0, .slice none 0 0, .int .i64 0, .int .i64 0, .int .i64 0, .slice none 0 0, .int .i64 0, .int .i64 0, .int .i64 0, .slice none 0 0, .bool false, .slice none 0 0, .int .i64 0, .int .i64 0, .int .i64 0, .slice none 0 0, .int .i64 0, .int .i64 0, .int .i64 0, .int .i64 0, .int .i64 0, .slice none 0 0] 36)).alloc (.cells #[.int .i64 0, .int .i64 0, .int .i64 0, .int .i64 0, .int .i64 0, .slice none 0 0, .int .i64 0, .slice none 0 0, .int .i64 0, .int .i64 0, .slice none 0 0, .int .i64 0, .int .i64 0, .int .i64 0, .slice none 0 0, .int .i64 0, .int .i64 0, .int .i64 0, .slice none 0 0, .bool false, .slice none 0 0, .int .i64 0, .int .i64 0, .int .i64 0, .slice none 0 0, .int .i64 0, .int .i64 0, .int .i64 0, .int .i64 0, .int .i64 0, .slice none 0 0] 36)) = wA := ⟨_, rfl⟩
  have hsA : wA.heap.size = w.heap.size + 1 + 1 := by rw [← hA, size_alloc', size_alloc']
  have hA1 : Blk wA w.heap.size 36 #[.int .i64 1, .int .i64 1, .int .i64 0, .int .i64 0, .int .i64 0, .slice A n c, .int .i64 0, .slice none 0 0, .int .i64 0, .int .i64 0, .slice none 0 0, .int .i64 0, .int .i64 0, .int .i64 0, .slice none 0 0, .int .i64 0, .int .i64 0, .int .i64 0, .slice none 0 0, .bool false, .slice none 0 0, .int .i64 0, .int .i64 0, .int .i64 0, .slice none 0 0, .int .i64 0, .int .i64 0, .int .i64 0, .int .i64 0, .int .i64 0, .slice none 0 0] := by rw [← hA]; exact (Blk.new _ _ _).alloc _
  have hA2 : Blk wA (w.heap.size + 1) 36 #[.int .i64 0, .int .i64 0, .int .i64 0, .int .i64 0, .int .i64 0, .slice none 0 0, .int .i64 0, .slice none 0 0, .int .i64 0, .int .i64 0, .slice none 0 0, .int .i64 0, .int .i64 0, .int .i64 0, .slice none 0 0, .int .i64 0, .int .i64 0, .int .i64 0, .slice none 0 0, .bool false, .slice none 0 0, .int .i64 0, .int .i64 0, .int .i64 0, .slice none 0 0, .int .i64 0, .int .i64 0, .int .i64 0, .int .i64 0, .int .i64 0, .slice none 0 0] := by
    have := Blk.new (w.alloc (.cells #[.int .i64 1, .int .i64 1, .int .i64 0, .int .i64 0, .int .i64 0, .slice A n c, .int .i64 0, .slice none 0 0, .int .i64 0, .int .i64 0, .slice none 0 0, .int .i64 0, .int .i64 0, .int .i64 0, .slice none 0 0, .int .i64 0, .int .i64 0, .int .i64 0, .slice none 0 0, .bool false, .slice none 0 0, .int .i64 0, .int .i64 0, .int .i64 0, .slice none 0 0, .int .i64 0, .int .i64 0, .int .i64 0, .int .i64 0, .int .i64 0, .slice none 0 0] 36)) 36 #[.int .i64 0, .int .i64 0, .int .i64 0, .int .i64 0, .int .i64 0, .slice none 0 0, .int .i64 0, .slice none 0 0, .int .i64 0, .int .i64 0, .slice none 0 0, .int .i64 0, .int .i64 0, .int .i64 0, .slice none 0 0, .int .i64 0, .int .i64 0, .int .i64 0, .slice none 0 0, .bool false, .slice none 0 0, .int .i64 0, .int .i64 0, .int .i64 0, .slice none 0 0, .int .i64 0, .int .i64 0, .int .i64 0, .int .i64 0, .int .i64 0, .slice none 0 0]
    rw [size_alloc'] at this
    rw [← hA]; exact this
  have hkA : Kept Kno w wA := by rw [← hA]; exact ((Kept.refl _ _).alloc _).alloc _
  have a0 : wA.cell? ⟨w.heap.size, 0, none⟩ = some (.int .i64 1) := hA1.cell 0
  have a1 : wA.cell? ⟨w.heap.size, 1, none⟩ = some (.int .i64 1) := hA1.cell 1
  have HA1 := Lib.hid hA1
  have HA2 := Lib.hid hA2
  have HSA := Lib.hid hsA
  have HKA := Lib.hid hkA
  rw [hA]
  clear hA hsA hA1 hA2 hkA
  go_upto_region 2 with (refine wpList_store_new rfl 36 (.tmp 3) (.tmp 8) rfl _ usedC rfl rfl (by kernel_rfl) rfl (by kernel_rfl) ?_)
  try simp only [Act.put]
  obtain ⟨w3, h3⟩ : ∃ w3, (wA.alloc (.cells usedC 36)) = w3 := ⟨_, rfl⟩
  rw [h3]
  have hG1 : Blk w3 w.heap.size 36 #[.int .i64 1, .int .i64 1, .int .i64 0, .int .i64 0, .int .i64 0, .slice A n c, .int .i64 0, .slice none 0 0, .int .i64 0, .int .i64 0, .slice none 0 0, .int .i64 0, .int .i64 0, .int .i64 0, .slice none 0 0, .int .i64 0, .int .i64 0, .int .i64 0, .slice none 0 0, .bool false, .slice none 0 0, .int .i64 0, .int .i64 0, .int .i64 0, .slice none 0 0, .int .i64 0, .int .i64 0, .int .i64 0, .int .i64 0, .int .i64 0, .slice none 0 0] := by rw [← h3]; exact HA1.out.alloc _
  have hG2 : Blk w3 (w.heap.size + 1) 36 #[.int .i64 0, .int .i64 0, .int .i64 0, .int .i64 0, .int .i64 0, .slice none 0 0, .int .i64 0, .slice none 0 0, .int .i64 0, .int .i64 0, .slice none 0 0, .int .i64 0, .int .i64 0, .int .i64 0, .slice none 0 0, .int .i64 0, .int .i64 0, .int .i64 0, .slice none 0 0, .bool false, .slice none 0 0, .int .i64 0, .int .i64 0, .int .i64 0, .slice none 0 0, .int .i64 0, .int .i64 0, .int .i64 0, .int .i64 0, .int .i64 0, .slice none 0 0] := by rw [← h3]; exact HA2.out.alloc _
  have hG3 : Blk w3 wA.heap.size 36 #[.int .i64 1, .int .i64 1, .int .i64 0, .int .i64 0, .int .i64 0, .slice none 0 0, .int .i64 0, .slice none 0 0, .int .i64 0, .int .i64 0, .slice none 0 0, .int .i64 0, .int .i64 0, .int .i64 0, .slice none 0 0, .int .i64 0, .int .i64 0, .int .i64 0, .slice none 0 0, .bool false, .slice none 0 0, .int .i64 0, .int .i64 0, .int .i64 0, .slice none 0 0, .int .i64 0, .int .i64 0, .int .i64 0, .int .i64 0, .int .i64 0, .slice none 0 0] := by rw [← h3]; exact Blk.new _ _ _
  have b0 : w3.cell? ⟨w.heap.size, 0, none⟩ = some (.int .i64 1) := hG1.cell 0
  have hk3 : Kept Kno w w3 := by rw [← h3]; exact HKA.out.alloc _
  have HG2 := Lib.hid hG2
  have HG3 := Lib.hid hG3
  have HK3 := Lib.hid hk3
  clear h3 hk3 hG2
  have s2 : w3.cell? ⟨w.heap.size, 2, none⟩ = some (.int .i64 0) := hG1.cell 2
  have d2 : w3.cell? ⟨wA.heap.size, 2, none⟩ = some (.int .i64 0) := hG3.cell 2
  have f2 := hG3.frozen 2
  have s3 : w3.cell? ⟨w.heap.size, 3, none⟩ = some (.int .i64 0) := hG1.cell 3
  have d3 : w3.cell? ⟨wA.heap.size, 3, none⟩ = some (.int .i64 0) := hG3.cell 3
  have f3 := hG3.frozen 3
  have s4 : w3.cell? ⟨w.heap.size, 4, none⟩ = some (.int .i64 0) := hG1.cell 4
  have d4 : w3.cell? ⟨wA.heap.size, 4, none⟩ = some (.int .i64 0) := hG3.cell 4
  have f4 := hG3.frozen 4
  have s5 : w3.cell? ⟨w.heap.size, 5, none⟩ = some (.slice A n c) := hG1.cell 5
  have d5 : w3.cell? ⟨wA.heap.size, 5, none⟩ = some (.slice none 0 0) := hG3.cell 5
  have f5 := hG3.frozen 5
  have s6 : w3.cell? ⟨w.heap.size, 6, none⟩ = some (.int .i64 0) := hG1.cell 6
  have d6 : w3.cell? ⟨wA.heap.size, 6, none⟩ = some (.int .i64 0) := hG3.cell 6
  have f6 := hG3.frozen 6
  have s7 : w3.cell? ⟨w.heap.size, 7, none⟩ = some (.slice none 0 0) := hG1.cell 7
  have d7 : w3.cell? ⟨wA.heap.size, 7, none⟩ = some (.slice none 0 0) := hG3.cell 7
  have f7 := hG3.frozen 7
  clear hG1 hG3 a0 a1
  go_upto_region 4 with (fail)
  go_region
  obtain ⟨wn, hwn⟩ : ∃ wn, ((((((w3.setCell ⟨wA.heap.size, 2, none⟩ (.int .i64 0)).setCell ⟨wA.heap.size, 3, none⟩ (.int .i64 0)).setCell ⟨wA.heap.size, 4, none⟩ (.int .i64 0)).setCell ⟨wA.heap.size, 5, none⟩ (.slice A n c)).setCell ⟨wA.heap.size, 6, none⟩ (.int .i64 0)).setCell ⟨wA.heap.size, 7, none⟩ (.slice none 0 0)).drew = wn := ⟨_, rfl⟩
  rw [hwn]
  have hN3 : Blk wn wA.heap.size 36 #[.int .i64 1, .int .i64 1, .int .i64 0, .int .i64 0, .int .i64 0, .slice A n c, .int .i64 0, .slice none 0 0, .int .i64 0, .int .i64 0, .slice none 0 0, .int .i64 0, .int .i64 0, .int .i64 0, .slice none 0 0, .int .i64 0, .int .i64 0, .int .i64 0, .slice none 0 0, .bool false, .slice none 0 0, .int .i64 0, .int .i64 0, .int .i64 0, .slice none 0 0, .int .i64 0, .int .i64 0, .int .i64 0, .int .i64 0, .int .i64 0, .slice none 0 0] := by rw [← hwn]; exact ((((((HG3.out.set_ 2 (.int .i64 0)).set_ 3 (.int .i64 0)).set_ 4 (.int .i64 0)).set_ 5 (.slice A n c)).set_ 6 (.int .i64 0)).set_ 7 (.slice none 0 0)).drew
  have hN2 : Blk wn (w.heap.size + 1) 36 #[.int .i64 0, .int .i64 0, .int .i64 0, .int .i64 0, .int .i64 0, .slice none 0 0, .int .i64 0, .slice none 0 0, .int .i64 0, .int .i64 0, .slice none 0 0, .int .i64 0, .int .i64 0, .int .i64 0, .slice none 0 0, .int .i64 0, .int .i64 0, .int .i64 0, .slice none 0 0, .bool false, .slice none 0 0, .int .i64 0, .int .i64 0, .int .i64 0, .slice none 0 0, .int .i64 0, .int .i64 0, .int .i64 0, .int .i64 0, .int .i64 0, .slice none 0 0] := by rw [← hwn]; exact ((((((HG2.out.far (p := ⟨wA.heap.size, 2, none⟩) (by show w.heap.size + 1 ≠ wA.heap.size; have := HSA.out; omega) _).far (p := ⟨wA.heap.size, 3, none⟩) (by show w.heap.size + 1 ≠ wA.heap.size; have := HSA.out; omega) _).far (p := ⟨wA.heap.size, 4, none⟩) (by show w.heap.size + 1 ≠ wA.heap.size; have := HSA.out; omega) _).far (p := ⟨wA.heap.size, 5, none⟩) (by show w.heap.size + 1 ≠ wA.heap.size; have := HSA.out; omega) _).far (p := ⟨wA.heap.size, 6, none⟩) (by show w.heap.size + 1 ≠ wA.heap.size; have := HSA.out; omega) _).far (p := ⟨wA.heap.size, 7, none⟩) (by show w.heap.size + 1 ≠ wA.heap.size; have := HSA.out; omega) _).drew
  have hkn : Kept Kno w wn := by rw [← hwn]; exact ((((((HK3.out.setNew (p := ⟨wA.heap.size, 2, none⟩) (by show w.heap.size ≤ wA.heap.size; have := HSA.out; omega) _).setNew (p := ⟨wA.heap.size, 3, none⟩) (by show w.heap.size ≤ wA.heap.size; have := HSA.out; omega) _).setNew (p := ⟨wA.heap.size, 4, none⟩) (by show w.heap.size ≤ wA.heap.size; have := HSA.out; omega) _).setNew (p := ⟨wA.heap.size, 5, none⟩) (by show w.heap.size ≤ wA.heap.size; have := HSA.out; omega) _).setNew (p := ⟨wA.heap.size, 6, none⟩) (by show w.heap.size ≤ wA.heap.size; have := HSA.out; omega) _).setNew (p := ⟨wA.heap.size, 7, none⟩) (by show w.heap.size ≤ wA.heap.size; have := HSA.out; omega) _).drew
  have HN3 := Lib.hid hN3
  have HN2 := Lib.hid hN2
  have HKN := Lib.hid hkn
  clear hwn hN3 hN2 hkn HG2 HG3 HK3 s2 d2 f2 s3 d3 f3 s4 d4 f4 s5 d5 f5 s6 d6 f6 s7 d7 f7
  go_wp2_with (first
    | (refine wpList_load_row rfl 36 (.tmp 3) rfl wA.heap.size rfl 36 _ (0, 0) _ HN3.out Tryz.underlying36 rfl (by kernel_rfl) ?_)
    | (refine wpList_store_row rfl 36 (.tmp 2) (.tmp 70) rfl (w.heap.size + 1) (lawC (.slice A n c)) rfl rfl 36 _ HN2.out (by kernel_rfl) rfl (by simp [lawC, Value.oneCell']) ?_))
  obtain ⟨wo, hwo⟩ : ∃ wo, wn.setRow (w.heap.size + 1) (lawC (.slice A n c)) = wo := ⟨_, rfl⟩
  rw [hwo]
  have hbo : Blk wo (w.heap.size + 1) 36 (lawC (.slice A n c)) := by rw [← hwo]; exact HN2.out.setRow _
  have hlv := run_loadVar_row (P := Tryz.prog) wo (w.heap.size + 1) 36 36 (lawC (.slice A n c)) (0, 0) _ hbo Tryz.underlying36 rfl (by kernel_rfl)
  have hko : Kept Kno w wo := by rw [← hwo]; exact HKN.out.setRow (fun h => by omega) _
  try simp only [Act.put]
  refine bodyPost_ret (v := .agg (lawC (.slice A n c))) (by simp [results, Tryz.results195, asAddr, hlv, Sem.run_bind, Sem.run_pure, Result.andThen]) rfl ?_
  exact ⟨rfl, hko⟩

end Go.Proofs.YtffdaohmalmkfaaGreat
