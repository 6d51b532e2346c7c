/-
  Network: contracts of slices.Delete (one message), Drop, Take.
-/
import Derived.Test.YtcpidgpjifmimaaNetC
import Derived.Test.YtcpidgpjifmimaaBase2
namespace Go.Proofs.Ytcpidgpjifmimaa
open Go.RowKit
set_option linter.unusedVariables false

theorem zero_pk (w : World) : (zeroValue 44).run Try.prog w = .ok (.agg #[.int .i64 0, .slice none 0 0]) w := by kernel_rfl

/-- What Delete leaves: the row without its i-th element. -/
def DelOk (base g n cap i : Nat) (xs : List Value) (w : World) (e : Ending) (w' : World) : Prop :=
  e = .returned (.slice (some ⟨g, 0, none⟩) (n - 1) cap) ∧ w'.ownsRow base 44 2 (.slice (some ⟨g, 0, none⟩) (n - 1) cap) (n - 1) (xs.take (i * 2) ++ xs.drop (i * 2 + 2)) ∧ Kept (Kone g) w w'

theorem del_cells (cur xs zs : List Value) (i n cap : Nat) (hi : i < n) (hnc : n ≤ cap) (hs : cur.length = cap * 2) (hx : cur.take (n * 2) = xs) (hz : zs.length = 2) (c1 c2 : List Value)
    (h1 : c1 = cur.take (i * 2) ++ xs.drop ((i + 1) * 2) ++ cur.drop (i * 2 + (xs.drop ((i + 1) * 2)).length))
    (h2 : c2 = c1.take ((n - 1) * 2) ++ zs ++ c1.drop ((n - 1) * 2 + zs.length)) :
    c1.length = cap * 2 ∧ c2.length = cap * 2 ∧ c2.take ((n - 1) * 2) = xs.take (i * 2) ++ xs.drop (i * 2 + 2) := by
  have hxl : xs.length = n * 2 := by rw [← hx, List.length_take]; omega
  have hd : (xs.drop ((i + 1) * 2)).length = n * 2 - (i + 1) * 2 := by rw [List.length_drop, hxl]
  have hc1 : c1.length = cap * 2 := by rw [h1]; simp only [List.length_append, List.length_take, List.length_drop, hs, hxl]; omega
  have ht1 : (c1.take ((n - 1) * 2)).length = (n - 1) * 2 := by rw [List.length_take, hc1]; omega
  refine ⟨hc1, ?_, ?_⟩
  · rw [h2]; simp only [List.length_append, ht1, List.length_drop, hc1, hz]; omega
  · rw [h2, List.append_assoc, List.take_append_of_le_length (by rw [ht1]; omega), List.take_take, Nat.min_self, h1]
    have hl2 : (cur.take (i * 2) ++ xs.drop ((i + 1) * 2)).length = (n - 1) * 2 := by rw [List.length_append, List.length_take, hd, hs]; omega
    rw [List.take_append_of_le_length (by rw [hl2]; omega), List.take_of_length_le (by rw [hl2]; omega)]
    have e1 : xs.take (i * 2) = cur.take (i * 2) := by rw [← hx, List.take_take, Nat.min_eq_left (by omega)]
    rw [e1, show (i + 1) * 2 = i * 2 + 2 from by omega]

theorem zero_cells : (Builtin.zeroCells (Value.agg #[.int .i64 0, .slice none 0 0]).cells 1).toList = [.int .i64 0, .slice none 0 0] := by kernel_rfl

set_option maxHeartbeats 800000 in
theorem delete_one (base g n cap i : Nat) (cur : Array Value) (xs : List Value) (w : World) (hbg : base ≤ g) (hg : w.heap[g]? = some (.cells cur 44 (0, 0))) (hi : i < n) (hnc : n ≤ cap) (hcm : cap ≤ maxLen)
    (hsz : cur.size = cap * 2) (hx : cur.toList.take (n * 2) = xs) (h1 : ∀ u ∈ xs, u.oneCell' = true) (hn : n ≤ 1000000) :
    Calls Try.prog 26 #[.slice (some ⟨g, 0, none⟩) n cap, .int .i64 i, .int .i64 ((i : Int) + 1)] w (DelOk base g n cap i xs w) := by
  obtain ⟨i0, hi0, hz0, hz1, hz2⟩ := info_parts info_pk
  have m0 : (0 : Int) ≤ (i : Int) := by omega
  have m1 : (i : Int) + 1 ≤ (n : Int) := by omega
  have m2 : (n : Int) ≤ (cap : Int) := by omega
  have m3 : ((i : Int) == (i : Int) + 1) = false := by simp; omega
  have m4 : cap ≤ 9223372036854775807 := by simp only [maxLen] at hcm; omega
  have HG := Lib.hid hg
  have HX := Lib.hid hx
  have HS := Lib.hid hsz
  clear hg hx hsz
  go_enter Try.func26, Try.ntmps26
  go_wp2_with fail
  have k1 : i ≤ cap := by omega
  have k2 : i + 1 ≤ n := by omega
  have k3 : ((i : Int) + 1).toNat = i + 1 := by omega
  have k4 : (0 : Int) ≤ (i : Int) + 1 := by omega
  have hxl : xs.length = n * 2 := by rw [← HX.out, List.length_take, Array.length_toList, HS.out]; omega
  have s1 := Lib.hid (show (xs.drop ((i + 1) * 2)).length = (n - (i + 1)) * 2 by rw [List.length_drop, hxl]; omega)
  have s3 := Lib.hid (show ∀ u ∈ xs.drop ((i + 1) * 2), u.oneCell' = true from fun u hu => h1 u (List.mem_of_mem_drop hu))
  have s4 : i + (n - (i + 1)) ≤ cap := by omega
  have s5 := Lib.hid (show i * 2 + (xs.drop ((i + 1) * 2)).length ≤ cur.size by rw [List.length_drop, hxl, HS.out]; omega)
  obtain ⟨ad, had, hnews⟩ : ∃ ad : Addr, (if cap = i + 1 then (some ⟨g, 0, none⟩ : Option Addr) else some ⟨g, (i + 1) * 2, none⟩) = some ad ∧ Hid (∀ j u, (xs.drop ((i + 1) * 2))[j]? = some u → w.drew.cell? (ad.add j) = some u) := by
    by_cases hc : cap = i + 1
    · refine ⟨⟨g, 0, none⟩, by rw [if_pos hc], fun j u hu => ?_⟩
      have : xs.drop ((i + 1) * 2) = [] := List.drop_eq_nil_of_le (by omega)
      rw [this] at hu
      cases hu
    · refine ⟨⟨g, (i + 1) * 2, none⟩, by rw [if_neg hc], fun j u hu => ?_⟩
      rw [add_lit0]
      show w.cell? _ = _
      rw [cell_of_row w g _ cur _ _ HG.out]
      rw [List.getElem?_drop, ← HX.out, List.getElem?_take] at hu
      split at hu
      · simpa using hu
      · cases hu
  clear h1 hxl
  go_region_law ((refine step_append_in _ (by rfl) _ _ 31 (by rfl) 44 i0 2 Try.underlying31 hi0 hz1 g i cap cur (by rfl) HG.out ad (n - (i + 1)) _ (xs.drop ((i + 1) * 2)) (by rfl) s1.out hnews.out s3.out s4 s5.out ?_; intro w1 hb1 hk1))
  have e1 : i + (n - (i + 1)) = n - 1 := by omega
  rw [e1]
  have HB1 := Lib.hid hb1
  have j1 : ((n - 1 : Nat) : Int) ≤ (n : Int) := by omega
  clear e1 hb1 had
  obtain ⟨c1, hc1⟩ : ∃ c1 : List Value, c1 = cur.toList.take (i * 2) ++ xs.drop ((i + 1) * 2) ++ cur.toList.drop (i * 2 + (xs.drop ((i + 1) * 2)).length) := ⟨_, rfl⟩
  obtain ⟨c2, hc2⟩ : ∃ c2 : List Value, c2 = c1.take ((n - 1) * 2) ++ [.int .i64 0, .slice none 0 0] ++ c1.drop ((n - 1) * 2 + 2) := ⟨_, rfl⟩
  obtain ⟨l1, l2, l3⟩ := del_cells cur.toList xs [.int .i64 0, .slice none 0 0] i n cap hi hnc (by simpa using HS.out) HX.out rfl c1 c2 hc1 hc2
  have hb1 : Blk w1 g 44 c1.toArray := by rw [hc1]; exact HB1.out
  have hcl := run_clear_row (P := Try.prog) w1 31 44 0 _ Try.underlying31 zero_pk g ((n - 1) * 2) 1 (cap - (n - 1)) c1.toArray hb1 (by omega) (by rw [zero_cells]; simp only [List.size_toArray, l1, List.length_cons, List.length_nil]; omega) (by rw [zero_cells]; simp [Value.oneCell'])
  rw [zero_cells] at hcl
  have hcl2 : (Builtin.clear_ #[31] 0 #[.slice (some ⟨g, (n - 1) * 2, none⟩) 1 (cap - (n - 1))]).run Try.prog w1 = .ok (.tuple #[]) (w1.setRow g c2.toArray) := by rw [hcl, hc2]; rfl
  have hb2 : Blk (w1.setRow g c2.toArray) g 44 c2.toArray := hb1.setRow _
  have hk2 : Kept (Kone g) w (w1.setRow g c2.toArray) := (Kept.trans ((Kept.refl _ _).drew) hk1 (fun _ _ h => h)).setRow (fun _ => rfl) _
  generalize w1.setRow g c2.toArray = w2 at hcl2 hb2 hk2
  have HCL := Lib.hid hcl2
  have HB2 := Lib.hid hb2
  have L2 := Lib.hid l2
  have L3 := Lib.hid l3
  clear hcl hcl2 hb2 hb1 HB1 hc1 hc2 l1 l2 l3 hk1
  go_wp2_with fail
  rw [show n - (n - 1) = 1 from by omega, HCL.out]
  go_wp2
  go_ret
  refine ⟨rfl, ⟨?_, .inr ⟨g, cap, c2.toArray, rfl, hbg, HB2.out, by omega, hcm, by simpa using L2.out, by simpa using L3.out⟩⟩, hk2⟩
  have hxl : xs.length = n * 2 := by rw [← HX.out, List.length_take, Array.length_toList, HS.out]; omega
  simp only [List.length_append, List.length_take, List.length_drop, hxl]
  omega

end Go.Proofs.Ytcpidgpjifmimaa
