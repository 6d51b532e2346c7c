/-
  Cases: New, Number, Text, Value, Any, Cells.
-/
import Derived.Test.YtffdaohmalmkfaaGreatCase
namespace Go.Proofs.YtffdaohmalmkfaaGreat
open Go.RowKit
set_option linter.unusedVariables false

def NumOk (K : Nat) (v : Value) (l : List UInt8) (w : World) (e : Ending) (w' : World) : Prop := ∃ r : Int, -9223372036854775808 ≤ r ∧ r ≤ 9223372036854775807 ∧ e = .returned (.int .i64 r) ∧ Goes K v l w w'

set_option maxHeartbeats 1000000 in
theorem number_any (K a : Nat) (v : Value) (l : List UInt8) (w : World) (h : CaseIs w K v l a) :
    Calls Tryz.prog 116 #[.pointer (some ⟨K, 0, none⟩)] w (NumOk K v l w) := by
  have H := Lib.hid h
  clear h
  go_enter Tryz.func116, Tryz.ntmps116
  go_wp2_with fail
  refine (int_any K a 12 v l w H.out (by omega) (by omega)).mono ?_
  rintro e w1 ⟨m, hm, rfl, hg⟩
  have HG := Lib.hid hg
  clear hg
  go_wp2
  all_goals
    go_ret
    exact ⟨_, by omega, by omega, rfl, HG.out⟩

def TextOk (K : Nat) (v : Value) (l : List UInt8) (w : World) (e : Ending) (w' : World) : Prop := ∃ s : ByteArray, s.size ≤ 64 ∧ e = .returned (.string s) ∧ Goes K v l w w'
def LongRel (s i : Value) : Prop := ∃ (k : Nat) (b : ByteArray), k ≤ 64 ∧ i = .int .i64 k ∧ s = .string b ∧ b.size = k

set_option maxHeartbeats 2000000 in
theorem text_any (K a : Nat) (v : Value) (l : List UInt8) (w : World) (h : CaseIs w K v l a) :
    Calls Tryz.prog 117 #[.pointer (some ⟨K, 0, none⟩)] w (TextOk K v l w) := by
  have H := Lib.hid h
  clear h
  go_enter Tryz.func117, Tryz.ntmps117
  go_wp2_with fail
  refine (int_any K a 10 v l w H.out (by omega) (by omega)).mono ?_
  rintro e w1 ⟨m, hm, rfl, hg⟩
  have HG := Lib.hid hg
  clear hg
  by_cases h8 : m = 8
  · subst h8
    go_wp2_with fail
    go_loop [3, 4] (fun s i => LongRel s i) (fun _ i => 64 - (intOf i).toNat)
    case atStart => exact ⟨0, ⟨#[]⟩, by omega, rfl, rfl, rfl⟩
    case round =>
      obtain ⟨k, b, hk, rfl, rfl, hb⟩ := hrel
      have HB := Lib.hid hb
      have hbs : b.size ≤ 64 := by omega
      clear hb
      by_cases hlt : k < 64
      · have hk0 : (0 : Int) ≤ (k : Int) := by omega
        have hk9 : (k : Int) < 64 := by omega
        go_wp2
        go_round
        case rel => exact ⟨k + 1, b ++ ⟨#[255]⟩, by omega, by go_num, rfl, by rw [ByteArray.size_append, HB.out]; rfl⟩
        case measure => simp [intOf]; omega
      · have hk9 : ¬ (k : Int) < 64 := by omega
        go_wp2
        go_ret
        exact ⟨b, hbs, rfl, HG.out⟩
  · by_cases h9 : m = 9
    · subst h9
      go_wp2_with fail
      go_loop [3, 5] (fun s i => LongRel s i) (fun _ i => 64 - (intOf i).toNat)
      case atStart => exact ⟨0, ⟨#[]⟩, by omega, rfl, rfl, rfl⟩
      case round =>
        obtain ⟨k, b, hk, rfl, rfl, hb⟩ := hrel
        have HB := Lib.hid hb
        have hbs : b.size ≤ 64 := by omega
        clear hb
        by_cases hlt : k < 64
        · have hk0 : (0 : Int) ≤ (k : Int) := by omega
          have hk9 : (k : Int) < 64 := by omega
          go_wp2
          go_round
          case rel => exact ⟨k + 1, b ++ ⟨#[98]⟩, by omega, by go_num, rfl, by rw [ByteArray.size_append, HB.out]; rfl⟩
          case measure => simp [intOf]; omega
        · have hk9 : ¬ (k : Int) < 64 := by omega
          go_wp2
          go_ret
          exact ⟨b, hbs, rfl, HG.out⟩
    · have hm8 : m ≤ 7 := by omega
      clear h8 h9 hm
      rcases m with _ | _ | _ | _ | _ | _ | _ | _ | m
      all_goals first
        | omega
        | (go_wp2
           go_ret
           exact ⟨_, by decide, rfl, HG.out⟩)

/-- A valid value. -/
def ValOk (x : Val) : Prop := validB x.kind x.n x.s = true ∧ okVal x
def AnyOk (K : Nat) (v : Value) (l : List UInt8) (w : World) (e : Ending) (w' : World) : Prop := ∃ x : Val, ValOk x ∧ e = .returned x.v ∧ Goes K v l w w'

theorem empty_toList : (ByteArray.mk #[]).toList.isEmpty = true := by kernel_rfl

theorem empty_size : (ByteArray.mk #[]).size ≤ maxLen := by decide
theorem vb_3_0 : validB 3 0 ⟨#[]⟩ = true := by kernel_rfl
theorem vb_3_1 : validB 3 1 ⟨#[]⟩ = true := by kernel_rfl
theorem vb_1_0 : validB 1 0 ⟨#[]⟩ = true := by kernel_rfl
theorem vb_2_0 : validB 2 0 ⟨#[]⟩ = true := by kernel_rfl
theorem valok_bool (m : Nat) (h : m < 2) : ValOk ⟨3, (m : Int), ⟨#[]⟩⟩ := by
  refine ⟨?_, by show (-9223372036854775808 : Int) ≤ (m : Int); omega, by show (m : Int) ≤ 9223372036854775807; omega, empty_size⟩
  have : m = 0 ∨ m = 1 := by omega
  rcases this with rfl | rfl
  · exact vb_3_0
  · exact vb_3_1
theorem valok_low (m : Nat) (h : m < 2) : ValOk ⟨1 + (m : Int), 0, ⟨#[]⟩⟩ := by
  refine ⟨?_, by show (-9223372036854775808 : Int) ≤ 0; omega, by show (0 : Int) ≤ 9223372036854775807; omega, empty_size⟩
  have : m = 0 ∨ m = 1 := by omega
  rcases this with rfl | rfl
  · exact vb_1_0
  · exact vb_2_0
theorem valok_int (m : Int) (h1 : -9223372036854775808 ≤ m) (h2 : m ≤ 9223372036854775807) : ValOk ⟨4, m, ⟨#[]⟩⟩ := by
  refine ⟨?_, h1, h2, empty_size⟩
  show validB 4 m ⟨#[]⟩ = true
  simp only [validB]
  exact empty_toList
theorem valok_text (s : ByteArray) (h : s.size ≤ 64) : ValOk ⟨5, 0, s⟩ := by
  refine ⟨?_, by show (-9223372036854775808 : Int) ≤ 0; omega, by show (0 : Int) ≤ 9223372036854775807; omega, by show s.size ≤ maxLen; simp only [maxLen]; omega⟩
  show validB 5 0 s = true
  simp [validB, h]
theorem three_no_byte {w : World} {D : Nat} {t : TypeId} {a b : Int} {s : ByteArray} (h : Blk w D t #[.int .i64 a, .int .i64 b, .string s]) {p : Addr} {x : Int} (hc : w.cell? p = some (.int .u8 x)) : p.block ≠ D := by
  obtain ⟨g, o, spot⟩ := p
  rintro rfl
  have hs := World.cell?_spot hc
  simp only at hs
  subst hs
  rw [Blk.cell h] at hc
  rcases o with _ | _ | _ | o
  · simp at hc
  · simp at hc
  · simp at hc
  · simp at hc
theorem bs_three {w w1 : World} {D : Nat} {t : TypeId} {a b : Int} {s : ByteArray} {u : Value} {m : List UInt8} (h : Blk w D t #[.int .i64 a, .int .i64 b, .string s]) (hb : Bs w u m) (hk : Kept (Kone D) w w1) : Bs w1 u m := by
  obtain ⟨A, cap, rfl, h1, h2, h3, h4⟩ := hb
  refine ⟨A, cap, rfl, h1, h2, h3, fun ad hA j x hj => ?_⟩
  have hc := h4 ad hA j x hj
  rw [List.getElem?_map] at hj
  cases hq : m[j]? with
  | none => rw [hq] at hj; cases hj
  | some c =>
    rw [hq] at hj
    simp only [Option.map_some, Option.some.injEq] at hj
    subst hj
    exact hk.cell_some hc (fun e => three_no_byte h hc e)

/-- A value laid into the result's own block. -/
theorem val_laid {K : Nat} {v : Value} {l : List UInt8} {w w1 : World} {a b kind n : Int} {s0 s : ByteArray} (hg : Goes K v l w w1) (hq : Blk w1 w.heap.size 49 #[.int .i64 a, .int .i64 b, .string s0]) :
    Blk (((w1.setCell ⟨w.heap.size, 0, none⟩ (.int .i64 kind)).setCell ⟨w.heap.size, 1, none⟩ (.int .i64 n)).setCell ⟨w.heap.size, 2, none⟩ (.string s)) w.heap.size 49 #[.int .i64 kind, .int .i64 n, .string s] ∧
    Goes K v l w (((w1.setCell ⟨w.heap.size, 0, none⟩ (.int .i64 kind)).setCell ⟨w.heap.size, 1, none⟩ (.int .i64 n)).setCell ⟨w.heap.size, 2, none⟩ (.string s)) := by
  have hk : Kept (Kone w.heap.size) w1 (((w1.setCell ⟨w.heap.size, 0, none⟩ (.int .i64 kind)).setCell ⟨w.heap.size, 1, none⟩ (.int .i64 n)).setCell ⟨w.heap.size, 2, none⟩ (.string s)) :=
    Kept.setIn (S := Kone w.heap.size) (Kept.setIn (S := Kone w.heap.size) (Kept.setIn (S := Kone w.heap.size) (Kept.refl _ _) (p := ⟨w.heap.size, 0, none⟩) (Eq.refl _) _) (p := ⟨w.heap.size, 1, none⟩) (Eq.refl _) _) (p := ⟨w.heap.size, 2, none⟩) (Eq.refl _) _
  refine ⟨((hq.set_ 0 _).set_ 1 _).set_ 2 _, ?_, hg.2.trans hk (fun k hk' e => by unfold Kone at e; omega)⟩
  obtain ⟨i, hc⟩ := hg.1
  exact ⟨i, hc.blk.kept hk (fun e => Blk.ne_ hc.blk hq (by decide) e), bs_three hq hc.bs hk, hc.len⟩

theorem Goes.before0 {K : Nat} {v : Value} {l : List UInt8} {w w0 w1 : World} (h : Goes K v l w0 w1) (hk : Kept Kno w w0) : Goes K v l w w1 := ⟨h.1, (hk.mono (T := Kone K) (fun _ _ e => e.elim)).trans h.2 (fun _ _ e => e)⟩

set_option maxHeartbeats 1000000 in
theorem value_any (K a : Nat) (kind : Int) (v : Value) (l : List UInt8) (w : World) (h : CaseIs w K v l a) (hk3 : 3 ≤ kind) (hk5 : kind ≤ 5) :
    Calls Tryz.prog 51 #[.pointer (some ⟨K, 0, none⟩), .int .i64 kind] w (AnyOk K v l w) := by
  have hK := h.blk.lt
  have H := Lib.hid (h.kept0 ((Kept.refl Kno w).alloc (.cells #[.int .i64 0, .int .i64 0, .string ⟨#[]⟩] 49)))
  have HQ := Lib.hid (Blk.new w 49 #[.int .i64 0, .int .i64 0, .string ⟨#[]⟩])
  have hkA : Kept Kno w (w.alloc (.cells #[.int .i64 0, .int .i64 0, .string ⟨#[]⟩] 49)) := (Kept.refl _ _).alloc _
  clear h
  have hkind : kind = 3 ∨ kind = 4 ∨ kind = 5 := by omega
  rcases hkind with rfl | rfl | rfl
  · go_enter Tryz.func51, Tryz.ntmps51
    go_wp2_with fail
    generalize (w.alloc (.cells #[.int .i64 0, .int .i64 0, .string ⟨#[]⟩] 49)) = wA at H HQ hkA ⊢
    refine (int_any K a 2 v l wA H.out (by omega) (by omega)).mono ?_
    rintro e w1 ⟨m, hm, rfl, hg⟩
    have HG := Lib.hid hg
    have hq1 : Blk w1 w.heap.size 49 #[.int .i64 0, .int .i64 0, .string ⟨#[]⟩] := HQ.out.kept hg.2 (fun e => by unfold Kone at e; omega)
    have c0 : w1.cell? ⟨w.heap.size, 0, none⟩ = some (.int .i64 0) := hq1.cell 0
    have c1 : w1.cell? ⟨w.heap.size, 1, none⟩ = some (.int .i64 0) := hq1.cell 1
    have c2 : w1.cell? ⟨w.heap.size, 2, none⟩ = some (.string ⟨#[]⟩) := hq1.cell 2
    have f0 := hq1.frozen 0
    have f1 := hq1.frozen 1
    have f2 := hq1.frozen 2
    clear hg
    have hl := val_laid (kind := 3) (n := (m : Int)) (s := ⟨#[]⟩) (HG.out.before0 hkA) hq1
    have HL := Lib.hid hl
    clear hl HG hq1
    go_wp2_with fail
    refine bodyPost_ret (v := .agg #[.int .i64 3, .int .i64 (m : Int), .string ⟨#[]⟩]) ?_ rfl ⟨⟨3, (m : Int), ⟨#[]⟩⟩, valok_bool m hm, rfl, HL.out.2⟩
    exact results_cell_row rfl _ _ w.heap.size 49 _ (0, 0) _ rfl HL.out.1 Tryz.underlying49 rfl (by kernel_rfl)
  · go_enter Tryz.func51, Tryz.ntmps51
    go_wp2_with fail
    generalize (w.alloc (.cells #[.int .i64 0, .int .i64 0, .string ⟨#[]⟩] 49)) = wA at H HQ hkA ⊢
    refine (number_any K a v l wA H.out).mono ?_
    rintro e w1 ⟨m, hm1, hm2, rfl, hg⟩
    have HG := Lib.hid hg
    have hq1 : Blk w1 w.heap.size 49 #[.int .i64 0, .int .i64 0, .string ⟨#[]⟩] := HQ.out.kept hg.2 (fun e => by unfold Kone at e; omega)
    have c0 : w1.cell? ⟨w.heap.size, 0, none⟩ = some (.int .i64 0) := hq1.cell 0
    have c1 : w1.cell? ⟨w.heap.size, 1, none⟩ = some (.int .i64 0) := hq1.cell 1
    have c2 : w1.cell? ⟨w.heap.size, 2, none⟩ = some (.string ⟨#[]⟩) := hq1.cell 2
    have f0 := hq1.frozen 0
    have f1 := hq1.frozen 1
    have f2 := hq1.frozen 2
    clear hg
    have hl := val_laid (kind := 4) (n := m) (s := ⟨#[]⟩) (HG.out.before0 hkA) hq1
    have HL := Lib.hid hl
    clear hl HG hq1
    go_wp2_with fail
    refine bodyPost_ret (v := .agg #[.int .i64 4, .int .i64 m, .string ⟨#[]⟩]) ?_ rfl ⟨⟨4, m, ⟨#[]⟩⟩, valok_int m hm1 hm2, rfl, HL.out.2⟩
    exact results_cell_row rfl _ _ w.heap.size 49 _ (0, 0) _ rfl HL.out.1 Tryz.underlying49 rfl (by kernel_rfl)
  · go_enter Tryz.func51, Tryz.ntmps51
    go_wp2_with fail
    generalize (w.alloc (.cells #[.int .i64 0, .int .i64 0, .string ⟨#[]⟩] 49)) = wA at H HQ hkA ⊢
    refine (text_any K a v l wA H.out).mono ?_
    rintro e w1 ⟨s, hs, rfl, hg⟩
    have HG := Lib.hid hg
    have hq1 : Blk w1 w.heap.size 49 #[.int .i64 0, .int .i64 0, .string ⟨#[]⟩] := HQ.out.kept hg.2 (fun e => by unfold Kone at e; omega)
    have c0 : w1.cell? ⟨w.heap.size, 0, none⟩ = some (.int .i64 0) := hq1.cell 0
    have c1 : w1.cell? ⟨w.heap.size, 1, none⟩ = some (.int .i64 0) := hq1.cell 1
    have c2 : w1.cell? ⟨w.heap.size, 2, none⟩ = some (.string ⟨#[]⟩) := hq1.cell 2
    have f0 := hq1.frozen 0
    have f1 := hq1.frozen 1
    have f2 := hq1.frozen 2
    clear hg
    have hl := val_laid (kind := 5) (n := 0) (s := s) (HG.out.before0 hkA) hq1
    have HL := Lib.hid hl
    clear hl HG hq1
    go_wp2_with fail
    refine bodyPost_ret (v := .agg #[.int .i64 5, .int .i64 0, .string s]) ?_ rfl ⟨⟨5, 0, s⟩, valok_text s hs, rfl, HL.out.2⟩
    exact results_cell_row rfl _ _ w.heap.size 49 _ (0, 0) _ rfl HL.out.1 Tryz.underlying49 rfl (by kernel_rfl)

end Go.Proofs.YtffdaohmalmkfaaGreat
