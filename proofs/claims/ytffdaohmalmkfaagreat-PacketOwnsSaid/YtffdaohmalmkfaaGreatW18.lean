/-
  Contracts and plain laws that the claim's theorem rests on.
-/
import Derived.Test.YtffdaohmalmkfaaGreatW4
set_option linter.unusedSimpArgs false
set_option linter.unusedVariables false
/-
  Cases: what partsynccase draws out of a list of numbers: valid values and rows of them.
-/
namespace Go.Proofs.YtffdaohmalmkfaaGreat
open Go.RowKit
set_option linter.unusedVariables false

/-- Block K is a case that reads the bytes l, its index a. -/
structure CaseIs (w : World) (K : Nat) (v : Value) (l : List UInt8) (a : Nat) : Prop where
  blk : Blk w K 79 #[v, .int .i64 (a : Int)]
  bs : Bs w v l
  len : l.length ≤ 1000
theorem two_no_byte {w : World} {D : Nat} {t : TypeId} {A : Option Addr} {m cap : Nat} {n : Int} (h : Blk w D t #[.slice A m cap, .int .i64 n]) {p : Addr} {x : Int} (hc : w.cell? p = some (.int .u8 x)) : p.block ≠ D := by
  obtain ⟨g, o, spot⟩ := p
  rintro rfl
  have hs := World.cell?_spot hc
  simp only at hs
  subst hs
  rw [Blk.cell h] at hc
  rcases o with _ | _ | o
  · simp at hc
  · simp at hc
  · simp at hc
theorem CaseIs.kept {w w' : World} {K a a' : Nat} {v : Value} {l : List UInt8} (h : CaseIs w K v l a) (hk : Kept (Kone K) w w') (hb : Blk w' K 79 #[v, .int .i64 (a' : Int)]) : CaseIs w' K v l a' := by
  refine ⟨hb, ?_, h.len⟩
  obtain ⟨A, cap, rfl, h1, h2, h3, h4⟩ := h.bs
  refine ⟨A, cap, rfl, h1, h2, h3, fun ad hA j x hj => ?_⟩
  have hc := h4 ad hA j x hj
  rw [List.getElem?_map] at hj
  cases hq : l[j]? with
  | none => rw [hq] at hj; cases hj
  | some c =>
    rw [hq] at hj
    simp only [Option.map_some, Option.some.injEq] at hj
    subst hj
    exact hk.cell_some hc (fun e => two_no_byte h.blk hc e)
theorem CaseIs.kept0 {w w' : World} {K a : Nat} {v : Value} {l : List UInt8} (h : CaseIs w K v l a) (hk : Kept Kno w w') : CaseIs w' K v l a := ⟨h.blk.kept hk (fun h => h), Rd.kept0 h.bs hk, h.len⟩

/-- The case goes on: nothing but it has changed. -/
def Goes (K : Nat) (v : Value) (l : List UInt8) (w w' : World) : Prop := (∃ a, CaseIs w' K v l a) ∧ Kept (Kone K) w w'
theorem Goes.trans {K : Nat} {v : Value} {l : List UInt8} {w w1 w2 : World} (h : Kept (Kone K) w w1) (h2 : Goes K v l w1 w2) : Goes K v l w w2 := ⟨h2.1, h.trans h2.2 (fun _ _ e => e)⟩

def IntOk (K : Nat) (v : Value) (l : List UInt8) (n : Nat) (w : World) (e : Ending) (w' : World) : Prop := ∃ m : Nat, m < n ∧ e = .returned (.int .i64 m) ∧ Goes K v l w w'

set_option maxRecDepth 100000 in
set_option maxHeartbeats 2000000 in
theorem int_any (K a n : Nat) (v : Value) (l : List UInt8) (w : World) (h : CaseIs w K v l a) (hn : 1 ≤ n) (hn2 : n ≤ 1000000) :
    Calls Tryz.prog 25 #[.pointer (some ⟨K, 0, none⟩), .int .i64 n] w (IntOk K v l n w) := by
  have H := Lib.hid h
  obtain ⟨A, cap, rfl, hlc, h2, h3, h4⟩ := h.bs
  have c0 : w.cell? ⟨K, 0, none⟩ = some (.slice A l.length cap) := h.blk.cell 0
  have c1 : w.cell? ⟨K, 1, none⟩ = some (.int .i64 (a : Int)) := h.blk.cell 1
  have f1 := h.blk.frozen 1
  have hll := h.len
  by_cases hge : l.length ≤ a
  · have hge2 : (l.length : Int) ≤ (a : Int) := by omega
    have u1 : decide (l.length ≤ a) = true := by simpa using hge
    clear h h2 h3 h4
    go_enter Tryz.func25, Tryz.ntmps25
    go_wp2_with fail
    go_quiet (fail)
    go_wp2
    go_ret
    exact ⟨0, by omega, rfl, ⟨a, H.out.kept0 ((Kept.refl _ _).drewN _)⟩, (Kept.refl _ _).drewN _⟩
  · have hge2 : ¬ (l.length : Int) ≤ (a : Int) := by omega
    have u1 : decide (l.length ≤ a) = false := by simpa using hge
    have hn3 : ¬ (n : Int) < 1 := by omega
    have hn4 : (0 : Int) < (n : Int) := by omega
    rcases A with _ | ad
    · have := (h3 rfl).1; omega
    · obtain ⟨c, hc⟩ : ∃ c, l[a]? = some c := ⟨_, List.getElem?_eq_getElem (by omega)⟩
      have hcc := h4 ad rfl a (bv c) (by rw [List.getElem?_map, hc]; rfl)
      obtain ⟨g, o, spot⟩ := ad
      have hs : spot = none := by
        have h0 := h4 ⟨g, o, spot⟩ rfl 0 (bv (l[0]'(by omega))) (by rw [List.getElem?_map, List.getElem?_eq_getElem (by omega)]; rfl)
        have := World.cell?_spot h0
        simpa [Addr.add] using this
      subst hs
      rw [add_lit0] at hcc
      have hcc' : w.cell? ⟨g, o + a, none⟩ = some (.int .u8 c.toNat) := hcc
      have hgK : g ≠ K := two_no_byte H.out.blk hcc'
      have c256 : c.toNat < 256 := c.toNat_lt
      clear h h2 h3 h4 hcc hc
      go_enter Tryz.func25, Tryz.ntmps25
      go_wp2_with fail
      go_quiet (fail)
      have hq : Kept Kno w (w.drewN nq) := (Kept.refl _ _).drewN nq
      have d0 : (w.drewN nq).cell? ⟨K, 0, none⟩ = some (.slice (some ⟨g, o, none⟩) l.length cap) := c0
      have d1 : (w.drewN nq).cell? ⟨K, 1, none⟩ = some (.int .i64 (a : Int)) := c1
      have d2 : (w.drewN nq).cell? ⟨g, o + a, none⟩ = some (.int .u8 c.toNat) := hcc'
      have d3 : (w.drewN nq).frozen? ⟨K, 1, none⟩ = false := f1
      have HR := Lib.hid (H.out.kept0 hq)
      generalize w.drewN nq = wq at hq d0 d1 d2 d3 HR ⊢
      clear c0 c1 hcc' f1
      have ha9 : (a : Int) + 1 ≤ 1001 := by omega
      go_upto_region 4 with (fail)
      have hb2 : Blk (wq.setCell ⟨K, 1, none⟩ (.int .i64 ((a : Int) + 1))) K 79 #[.slice (some ⟨g, o, none⟩) l.length cap, .int .i64 ((a + 1 : Nat) : Int)] := HR.out.blk.set_ 1 _
      have hk2 : Kept (Kone K) w (wq.setCell ⟨K, 1, none⟩ (.int .i64 ((a : Int) + 1))) := (hq.mono (T := Kone K) (fun _ _ e => e.elim)).setIn (p := ⟨K, 1, none⟩) (Eq.refl K) _
      have hk3 : Kept (Kone K) wq (wq.setCell ⟨K, 1, none⟩ (.int .i64 ((a : Int) + 1))) := Kept.setIn (S := Kone K) (Kept.refl _ _) (p := ⟨K, 1, none⟩) (Eq.refl K) _
      have e0 : (wq.setCell ⟨K, 1, none⟩ (.int .i64 ((a : Int) + 1))).cell? ⟨K, 0, none⟩ = some (.slice (some ⟨g, o, none⟩) l.length cap) := hb2.cell 0
      have e1 : (wq.setCell ⟨K, 1, none⟩ (.int .i64 ((a : Int) + 1))).cell? ⟨K, 1, none⟩ = some (.int .i64 ((a : Int) + 1)) := hb2.cell 1
      have e2 : (wq.setCell ⟨K, 1, none⟩ (.int .i64 ((a : Int) + 1))).cell? ⟨g, o + a, none⟩ = some (.int .u8 c.toNat) := hk3.cell_some d2 (fun h => hgK h)
      have HC2 := Lib.hid (HR.out.kept hk3 hb2)
      generalize (wq.setCell ⟨K, 1, none⟩ (.int .i64 ((a : Int) + 1))) = wz at hk2 e0 e1 e2 HC2 ⊢
      clear d0 d1 d2 d3 hb2 hk3
      have s1 : IntKind.i64.wrap ((a : Int) + 1 - 1) = (a : Int) := by rw [IntWalk.i64_in _ (by omega)]; omega
      have s2 : (a : Int) + 1 - 1 = (a : Int) := by omega
      have ha0 : (0 : Int) ≤ (a : Int) := by omega
      have ha1 : (a : Int) < (l.length : Int) := by omega
      have hmd : ((c.toNat : Int)).tmod (n : Int) = ((c.toNat % n : Nat) : Int) := by
        rw [Int.tmod_eq_emod_of_nonneg (by omega)]; rfl
      have hmd2 : (c.toNat : Int) % (n : Int) = ((c.toNat % n : Nat) : Int) := rfl
      have hml : c.toNat % n < n := Nat.mod_lt _ (by omega)
      generalize c.toNat % n = r at hmd hmd2 hml
      go_quiet (fail)
      clear s1 s2
      go_wp2
      go_ret
      exact ⟨r, hml, rfl, ⟨a + 1, HC2.out.kept0 ((Kept.refl _ _).drewN _)⟩, hk2.drewN _⟩

end Go.Proofs.YtffdaohmalmkfaaGreat
/-
  Cases: New, Number, Text, Value, Any, Cells.
-/
namespace Go.Proofs.YtffdaohmalmkfaaGreat
open Go.RowKit
set_option linter.unusedVariables false

def NumOk (K : Nat) (v : Value) (l : List UInt8) (w : World) (e : Ending) (w' : World) : Prop := ∃ r : Int, -9223372036854775808 ≤ r ∧ r ≤ 9223372036854775807 ∧ e = .returned (.int .i64 r) ∧ Goes K v l w w'

set_option maxHeartbeats 1000000 in
theorem number_any (K a : Nat) (v : Value) (l : List UInt8) (w : World) (h : CaseIs w K v l a) :
    Calls Tryz.prog 116 #[.pointer (some ⟨K, 0, none⟩)] w (NumOk K v l w) := by
  have H := Lib.hid h
  clear h
  go_enter Tryz.func116, Tryz.ntmps116
  go_wp2_with fail
  refine (int_any K a 12 v l w H.out (by omega) (by omega)).mono ?_
  rintro e w1 ⟨m, hm, rfl, hg⟩
  have HG := Lib.hid hg
  clear hg
  go_wp2
  all_goals
    go_ret
    exact ⟨_, by omega, by omega, rfl, HG.out⟩

def TextOk (K : Nat) (v : Value) (l : List UInt8) (w : World) (e : Ending) (w' : World) : Prop := ∃ s : ByteArray, s.size ≤ 64 ∧ e = .returned (.string s) ∧ Goes K v l w w'
def LongRel (s i : Value) : Prop := ∃ (k : Nat) (b : ByteArray), k ≤ 64 ∧ i = .int .i64 k ∧ s = .string b ∧ b.size = k

set_option maxHeartbeats 2000000 in
theorem text_any (K a : Nat) (v : Value) (l : List UInt8) (w : World) (h : CaseIs w K v l a) :
    Calls Tryz.prog 117 #[.pointer (some ⟨K, 0, none⟩)] w (TextOk K v l w) := by
  have H := Lib.hid h
  clear h
  go_enter Tryz.func117, Tryz.ntmps117
  go_wp2_with fail
  refine (int_any K a 10 v l w H.out (by omega) (by omega)).mono ?_
  rintro e w1 ⟨m, hm, rfl, hg⟩
  have HG := Lib.hid hg
  clear hg
  by_cases h8 : m = 8
  · subst h8
    go_wp2_with fail
    go_loop [3, 4] (fun s i => LongRel s i) (fun _ i => 64 - (intOf i).toNat)
    case atStart => exact ⟨0, ⟨#[]⟩, by omega, rfl, rfl, rfl⟩
    case round =>
      obtain ⟨k, b, hk, rfl, rfl, hb⟩ := hrel
      have HB := Lib.hid hb
      have hbs : b.size ≤ 64 := by omega
      clear hb
      by_cases hlt : k < 64
      · have hk0 : (0 : Int) ≤ (k : Int) := by omega
        have hk9 : (k : Int) < 64 := by omega
        go_wp2
        go_round
        case rel => exact ⟨k + 1, b ++ ⟨#[255]⟩, by omega, by go_num, rfl, by rw [ByteArray.size_append, HB.out]; rfl⟩
        case measure => simp [intOf]; omega
      · have hk9 : ¬ (k : Int) < 64 := by omega
        go_wp2
        go_ret
        exact ⟨b, hbs, rfl, HG.out⟩
  · by_cases h9 : m = 9
    · subst h9
      go_wp2_with fail
      go_loop [3, 5] (fun s i => LongRel s i) (fun _ i => 64 - (intOf i).toNat)
      case atStart => exact ⟨0, ⟨#[]⟩, by omega, rfl, rfl, rfl⟩
      case round =>
        obtain ⟨k, b, hk, rfl, rfl, hb⟩ := hrel
        have HB := Lib.hid hb
        have hbs : b.size ≤ 64 := by omega
        clear hb
        by_cases hlt : k < 64
        · have hk0 : (0 : Int) ≤ (k : Int) := by omega
          have hk9 : (k : Int) < 64 := by omega
          go_wp2
          go_round
          case rel => exact ⟨k + 1, b ++ ⟨#[98]⟩, by omega, by go_num, rfl, by rw [ByteArray.size_append, HB.out]; rfl⟩
          case measure => simp [intOf]; omega
        · have hk9 : ¬ (k : Int) < 64 := by omega
          go_wp2
          go_ret
          exact ⟨b, hbs, rfl, HG.out⟩
    · have hm8 : m ≤ 7 := by omega
      clear h8 h9 hm
      rcases m with _ | _ | _ | _ | _ | _ | _ | _ | m
      all_goals first
        | omega
        | (go_wp2
           go_ret
           exact ⟨_, by decide, rfl, HG.out⟩)

/-- A valid value. -/
def ValOk (x : Val) : Prop := validB x.kind x.n x.s = true ∧ okVal x

theorem empty_toList : (ByteArray.mk #[]).toList.isEmpty = true := by kernel_rfl

theorem empty_size : (ByteArray.mk #[]).size ≤ maxLen := by decide
theorem vb_3_0 : validB 3 0 ⟨#[]⟩ = true := by kernel_rfl
theorem vb_3_1 : validB 3 1 ⟨#[]⟩ = true := by kernel_rfl
theorem valok_bool (m : Nat) (h : m < 2) : ValOk ⟨3, (m : Int), ⟨#[]⟩⟩ := by
  refine ⟨?_, by show (-9223372036854775808 : Int) ≤ (m : Int); omega, by show (m : Int) ≤ 9223372036854775807; omega, empty_size⟩
  have : m = 0 ∨ m = 1 := by omega
  rcases this with rfl | rfl
  · exact vb_3_0
  · exact vb_3_1
theorem valok_int (m : Int) (h1 : -9223372036854775808 ≤ m) (h2 : m ≤ 9223372036854775807) : ValOk ⟨4, m, ⟨#[]⟩⟩ := by
  refine ⟨?_, h1, h2, empty_size⟩
  show validB 4 m ⟨#[]⟩ = true
  simp only [validB]
  exact empty_toList
theorem valok_text (s : ByteArray) (h : s.size ≤ 64) : ValOk ⟨5, 0, s⟩ := by
  refine ⟨?_, by show (-9223372036854775808 : Int) ≤ 0; omega, by show (0 : Int) ≤ 9223372036854775807; omega, by show s.size ≤ maxLen; simp only [maxLen]; omega⟩
  show validB 5 0 s = true
  simp [validB, h]
theorem three_no_byte {w : World} {D : Nat} {t : TypeId} {a b : Int} {s : ByteArray} (h : Blk w D t #[.int .i64 a, .int .i64 b, .string s]) {p : Addr} {x : Int} (hc : w.cell? p = some (.int .u8 x)) : p.block ≠ D := by
  obtain ⟨g, o, spot⟩ := p
  rintro rfl
  have hs := World.cell?_spot hc
  simp only at hs
  subst hs
  rw [Blk.cell h] at hc
  rcases o with _ | _ | _ | o
  · simp at hc
  · simp at hc
  · simp at hc
  · simp at hc
theorem bs_three {w w1 : World} {D : Nat} {t : TypeId} {a b : Int} {s : ByteArray} {u : Value} {m : List UInt8} (h : Blk w D t #[.int .i64 a, .int .i64 b, .string s]) (hb : Bs w u m) (hk : Kept (Kone D) w w1) : Bs w1 u m := by
  obtain ⟨A, cap, rfl, h1, h2, h3, h4⟩ := hb
  refine ⟨A, cap, rfl, h1, h2, h3, fun ad hA j x hj => ?_⟩
  have hc := h4 ad hA j x hj
  rw [List.getElem?_map] at hj
  cases hq : m[j]? with
  | none => rw [hq] at hj; cases hj
  | some c =>
    rw [hq] at hj
    simp only [Option.map_some, Option.some.injEq] at hj
    subst hj
    exact hk.cell_some hc (fun e => three_no_byte h hc e)

/-- A value laid into the result's own block. -/
theorem val_laid {K : Nat} {v : Value} {l : List UInt8} {w w1 : World} {a b kind n : Int} {s0 s : ByteArray} (hg : Goes K v l w w1) (hq : Blk w1 w.heap.size 49 #[.int .i64 a, .int .i64 b, .string s0]) :
    Blk (((w1.setCell ⟨w.heap.size, 0, none⟩ (.int .i64 kind)).setCell ⟨w.heap.size, 1, none⟩ (.int .i64 n)).setCell ⟨w.heap.size, 2, none⟩ (.string s)) w.heap.size 49 #[.int .i64 kind, .int .i64 n, .string s] ∧
    Goes K v l w (((w1.setCell ⟨w.heap.size, 0, none⟩ (.int .i64 kind)).setCell ⟨w.heap.size, 1, none⟩ (.int .i64 n)).setCell ⟨w.heap.size, 2, none⟩ (.string s)) := by
  have hk : Kept (Kone w.heap.size) w1 (((w1.setCell ⟨w.heap.size, 0, none⟩ (.int .i64 kind)).setCell ⟨w.heap.size, 1, none⟩ (.int .i64 n)).setCell ⟨w.heap.size, 2, none⟩ (.string s)) :=
    Kept.setIn (S := Kone w.heap.size) (Kept.setIn (S := Kone w.heap.size) (Kept.setIn (S := Kone w.heap.size) (Kept.refl _ _) (p := ⟨w.heap.size, 0, none⟩) (Eq.refl _) _) (p := ⟨w.heap.size, 1, none⟩) (Eq.refl _) _) (p := ⟨w.heap.size, 2, none⟩) (Eq.refl _) _
  refine ⟨((hq.set_ 0 _).set_ 1 _).set_ 2 _, ?_, hg.2.trans hk (fun k hk' e => by unfold Kone at e; omega)⟩
  obtain ⟨i, hc⟩ := hg.1
  exact ⟨i, hc.blk.kept hk (fun e => Blk.ne_ hc.blk hq (by decide) e), bs_three hq hc.bs hk, hc.len⟩

theorem Goes.before0 {K : Nat} {v : Value} {l : List UInt8} {w w0 w1 : World} (h : Goes K v l w0 w1) (hk : Kept Kno w w0) : Goes K v l w w1 := ⟨h.1, (hk.mono (T := Kone K) (fun _ _ e => e.elim)).trans h.2 (fun _ _ e => e)⟩

end Go.Proofs.YtffdaohmalmkfaaGreat
/-
  Cases: Cells, New.
-/
namespace Go.Proofs.YtffdaohmalmkfaaGreat
open Go.RowKit
set_option linter.unusedVariables false

theorem info_val : (Tryz.prog.info? 49).map (fun i => (i.zero, i.size, i.bytes)) = some (some (.agg #[.int .i64 0, .int .i64 0, .string ⟨#[]⟩]), 3, 32) := by kernel_rfl

def vCells (x : Val) : List Value := [.int .i64 x.kind, .int .i64 x.n, .string x.s]
def rowC (xs : List Val) : List Value := xs.flatMap vCells
theorem rowC_length (xs : List Val) : (rowC xs).length = xs.length * 3 := by
  induction xs with
  | nil => rfl
  | cons c cs ih => simp only [rowC, List.flatMap_cons, List.length_append, List.length_cons] at ih ⊢; rw [ih]; simp [vCells]; omega

/-- A row of the law's own. -/
def OwnR (w : World) (base : Nat) (v : Value) (xs : List Val) : Prop := w.ownsRow base 49 3 v xs.length (rowC xs)

def NewOk (w : World) (e : Ending) (w' : World) : Prop := ∃ K v l, e = .returned (.pointer (some ⟨K, 0, none⟩)) ∧ CaseIs w' K v l 0 ∧ w.heap.size ≤ K ∧ Kept Kno w w'

end Go.Proofs.YtffdaohmalmkfaaGreat
