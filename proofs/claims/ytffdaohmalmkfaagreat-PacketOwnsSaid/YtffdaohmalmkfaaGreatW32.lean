/-
  PacketOwns: the reference's checks of schemas return: Name, table.
-/
import Derived.Test.YtffdaohmalmkfaaGreatW31
set_option linter.unusedSimpArgs false
set_option linter.unusedVariables false
namespace Go.Proofs.YtffdaohmalmkfaaGreat
open Go.RowKit
set_option linter.unusedVariables false

set_option maxRecDepth 100000 in
set_option maxHeartbeats 2000000 in
theorem name_any (s : ByteArray) (w : World) : Calls Tryz.prog 263 #[.string s] w (RetAny w) := by
  have HX : Hid (∀ (b : Bool) (w' : World), Kept Kno w w' → RetAny w (.returned (.bool b)) w') := Lib.hid (fun b w' h => ⟨b, rfl, h⟩)
  by_cases h0 : s.size = 0
  · have h0b : ((s.size : Int) == 0) = true := by rw [beq_iff_eq]; omega
    go_enter Tryz.func263, Tryz.ntmps263
    go_wp2
    go_ret
    exact HX.out _ _ (Kept.refl _ _)
  · have h0b : ((s.size : Int) == 0) = false := by rw [beq_eq_false_iff_ne]; omega
    by_cases h32 : 32 < s.size
    · have h32I : (32 : Int) < (s.size : Int) := by omega
      go_enter Tryz.func263, Tryz.ntmps263
      go_wp2
      go_ret
      exact HX.out _ _ (Kept.refl _ _)
    · have h32I : ¬ (32 : Int) < (s.size : Int) := by omega
      have hpos : (0 : Int) < (s.size : Int) := by omega
      go_enter Tryz.func263, Tryz.ntmps263
      go_upto_region 1 with (fail)
      go_cut [22] (fun x wx => ∃ b : Bool, x = .bool b ∧ Kept Kno w wx)
      case first => go_wp2 <;> (go_meet; exact ⟨_, rfl, Kept.refl _ _⟩)
      case rest =>
      obtain ⟨b, rfl, hk1⟩ := hcut
      have HK1 := Lib.hid hk1
      clear hk1
      cases b with
      | true =>
        go_wp2
        go_ret
        exact HX.out _ _ (HK1.out)
      | false =>
        go_wp2_with fail
        go_loopw [3] (fun i wr => ∃ k : Nat, k ≤ s.size ∧ i = .int .i64 k ∧ Kept Kno w wr) (fun i _ => s.size - (intOf i).toNat)
        case atStart => exact ⟨0, Nat.zero_le _, rfl, HK1.out⟩
        case round =>
          obtain ⟨k, hk, rfl, hkr⟩ := hrel
          have HKR := Lib.hid hkr
          clear hkr
          have hk0 : (0 : Int) ≤ (k : Int) := by omega
          by_cases hlt : k < s.size
          · have hltI : (k : Int) < (s.size : Int) := by omega
            go_upto_region 7 with (fail)
            go_cut [49] (fun x wx => ∃ b : Bool, x = .bool b ∧ Kept Kno w wx)
            case first => go_wp2 <;> (go_meet; exact ⟨_, rfl, HKR.out⟩)
            case rest =>
            obtain ⟨d, rfl, hk2⟩ := hcut
            have HK2 := Lib.hid hk2
            clear hk2
            cases d with
            | true =>
              go_wp2
              go_ret
              exact HX.out _ _ HK2.out
            | false =>
              go_wp2
              go_roundw
              case rel => exact ⟨k + 1, hlt, by go_num, HK2.out⟩
              case measure => simp only [intOf]; omega
          · have hltI : ¬ (k : Int) < (s.size : Int) := by omega
            go_wp2
            go_ret
            exact HX.out _ _ HKR.out

end Go.Proofs.YtffdaohmalmkfaaGreat
