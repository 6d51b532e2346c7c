/-
  'string(b)' of a slice that reads as bytes; a minimum as a natural number; a slice cut. No program in sight.
-/
import Derived.Test.YtffdaohmalmkfaaGreatBase
import Derived.Laws.IdiomStrings
import Derived.Lib.BufferRead
namespace Go.Proofs.YtffdaohmalmkfaaGreat
open Go.RowKit
set_option linter.unusedVariables false

def strOf (l : List UInt8) : Value := .string ⟨l.toArray⟩

theorem run_string_bs {P : Program} {w : World} {v : Value} {l : List UInt8} (src dst e : TypeId) (h : Bs w v l) (hs : P.underlying src = some (.slice e)) (he : P.underlying e = some (.int .u8)) (hd : P.underlying dst = some .string) :
    (convert src dst v).run P w = .ok (.string ⟨l.toArray⟩) w := by
  obtain ⟨A, cap, rfl, hl, hx, hn, hc⟩ := h
  rcases A with _ | a
  · obtain ⟨h0, rfl⟩ := hn rfl
    have : l = [] := List.eq_nil_of_length_eq_zero h0
    subst this
    exact Go.Lib.run_convert_nil_bytes w src dst e 0 hs he hd
  · refine run_convert_bytes_back w src dst e a cap l hs he hd (fun j hj => ?_)
    exact hc a rfl j (bv l[j]) (by simp [List.getElem?_eq_getElem hj])

theorem min_natw (n b : Nat) : (if (b : Int) < (n : Int) then (b : Int) else (n : Int)) = ((min n b : Nat) : Int) := by
  by_cases h : (b : Int) < (n : Int)
  · rw [if_pos h]; omega
  · rw [if_neg h]; omega

theorem min_nat (n b : Nat) : ∃ m : Nat, (if (b : Int) < (n : Int) then (b : Int) else (n : Int)) = (m : Int) ∧ m ≤ n ∧ m ≤ b :=
  ⟨min n b, min_natw n b, Nat.min_le_left _ _, Nat.min_le_right _ _⟩

theorem Bs.cut {w : World} {A : Option Addr} {cap m : Nat} {l : List UInt8} (h : Bs w (.slice A l.length cap) l) (hm : m ≤ l.length) : Bs w (.slice A m cap) (l.take m) := by
  obtain ⟨A', cap', hv, h1, h2, h3, h4⟩ := h
  have e : (l.take m).length = m := by rw [List.length_take]; omega
  injection hv with hA hn hc
  subst hA hc
  refine ⟨A, cap, by rw [e], by rw [e]; omega, by rw [List.length_map]; omega, fun hA => ?_, fun ad hA j u hj => h4 ad hA j u ?_⟩
  · have := h3 hA; rw [e]; omega
  · rw [List.map_take, List.getElem?_take] at hj
    split at hj
    · exact hj
    · cases hj
end Go.Proofs.YtffdaohmalmkfaaGreat
