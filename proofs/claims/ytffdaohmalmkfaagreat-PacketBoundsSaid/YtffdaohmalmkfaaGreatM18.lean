/-
  Contracts and plain laws that the claim's theorem rests on, some texts in one file.
-/
import Derived.Test.YtffdaohmalmkfaaGreatM17
import Derived.Deep.WholeRow
/-
  Packet: the closures that write a field. (Printed by gen_paki.py.)
-/
namespace Go.Proofs.YtffdaohmalmkfaaGreat
open Go.RowKit
set_option linter.unusedVariables false

/-- Function K is entered by a call. -/
def Ent (K : Nat) : Prop := ∀ (args : Array Value) (w : World), (callFunc K args).run Tryz.prog w = .ok (.enter K args) w
/-- Function k finds the cell 'off' of a message. -/
def OfIs (k off : Nat) : Prop := Ent k ∧ ∀ (G : Nat) (w : World), Calls Tryz.prog k #[.pointer (some ⟨G, 0, none⟩)] w fun e w' => e = .returned (.pointer (some ⟨G, off, none⟩)) ∧ w = w'
set_option maxRecDepth 100000 in
theorem of_fields_1 : OfIs 85 1 := by
  refine ⟨fun args w => by go_simp, fun G w => ?_⟩
  go_enter Tryz.func85, Tryz.ntmps85
  go_wp2
  go_ret
  exact ⟨rfl, rfl⟩
set_option maxRecDepth 100000 in
theorem of_fields_2 : OfIs 86 2 := by
  refine ⟨fun args w => by go_simp, fun G w => ?_⟩
  go_enter Tryz.func86, Tryz.ntmps86
  go_wp2
  go_ret
  exact ⟨rfl, rfl⟩
set_option maxRecDepth 100000 in
theorem of_fields_3 : OfIs 87 3 := by
  refine ⟨fun args w => by go_simp, fun G w => ?_⟩
  go_enter Tryz.func87, Tryz.ntmps87
  go_wp2
  go_ret
  exact ⟨rfl, rfl⟩
set_option maxRecDepth 100000 in
theorem of_fields_4 : OfIs 88 4 := by
  refine ⟨fun args w => by go_simp, fun G w => ?_⟩
  go_enter Tryz.func88, Tryz.ntmps88
  go_wp2
  go_ret
  exact ⟨rfl, rfl⟩
set_option maxRecDepth 100000 in
theorem of_fields_5 : OfIs 90 5 := by
  refine ⟨fun args w => by go_simp, fun G w => ?_⟩
  go_enter Tryz.func90, Tryz.ntmps90
  go_wp2
  go_ret
  exact ⟨rfl, rfl⟩
set_option maxRecDepth 100000 in
theorem of_fields_6 : OfIs 91 6 := by
  refine ⟨fun args w => by go_simp, fun G w => ?_⟩
  go_enter Tryz.func91, Tryz.ntmps91
  go_wp2
  go_ret
  exact ⟨rfl, rfl⟩
set_option maxRecDepth 100000 in
theorem of_fields_7 : OfIs 92 7 := by
  refine ⟨fun args w => by go_simp, fun G w => ?_⟩
  go_enter Tryz.func92, Tryz.ntmps92
  go_wp2
  go_ret
  exact ⟨rfl, rfl⟩
set_option maxRecDepth 100000 in
theorem of_deltaFields_1 : OfIs 154 8 := by
  refine ⟨fun args w => by go_simp, fun G w => ?_⟩
  go_enter Tryz.func154, Tryz.ntmps154
  go_wp2
  go_ret
  exact ⟨rfl, rfl⟩
set_option maxRecDepth 100000 in
theorem of_deltaFields_2 : OfIs 155 9 := by
  refine ⟨fun args w => by go_simp, fun G w => ?_⟩
  go_enter Tryz.func155, Tryz.ntmps155
  go_wp2
  go_ret
  exact ⟨rfl, rfl⟩
set_option maxRecDepth 100000 in
theorem of_deltaFields_5 : OfIs 160 11 := by
  refine ⟨fun args w => by go_simp, fun G w => ?_⟩
  go_enter Tryz.func160, Tryz.ntmps160
  go_wp2
  go_ret
  exact ⟨rfl, rfl⟩
set_option maxRecDepth 100000 in
theorem of_deltaFields_6 : OfIs 161 12 := by
  refine ⟨fun args w => by go_simp, fun G w => ?_⟩
  go_enter Tryz.func161, Tryz.ntmps161
  go_wp2
  go_ret
  exact ⟨rfl, rfl⟩
set_option maxRecDepth 100000 in
theorem of_deltaFields_7 : OfIs 162 13 := by
  refine ⟨fun args w => by go_simp, fun G w => ?_⟩
  go_enter Tryz.func162, Tryz.ntmps162
  go_wp2
  go_ret
  exact ⟨rfl, rfl⟩
set_option maxRecDepth 100000 in
theorem of_submitFields_1 : OfIs 167 16 := by
  refine ⟨fun args w => by go_simp, fun G w => ?_⟩
  go_enter Tryz.func167, Tryz.ntmps167
  go_wp2
  go_ret
  exact ⟨rfl, rfl⟩
set_option maxRecDepth 100000 in
theorem of_submitFields_2 : OfIs 168 17 := by
  refine ⟨fun args w => by go_simp, fun G w => ?_⟩
  go_enter Tryz.func168, Tryz.ntmps168
  go_wp2
  go_ret
  exact ⟨rfl, rfl⟩
set_option maxRecDepth 100000 in
theorem of_submitFields_3 : OfIs 170 18 := by
  refine ⟨fun args w => by go_simp, fun G w => ?_⟩
  go_enter Tryz.func170, Tryz.ntmps170
  go_wp2
  go_ret
  exact ⟨rfl, rfl⟩
set_option maxRecDepth 100000 in
theorem of_verdictFields_1 : OfIs 179 22 := by
  refine ⟨fun args w => by go_simp, fun G w => ?_⟩
  go_enter Tryz.func179, Tryz.ntmps179
  go_wp2
  go_ret
  exact ⟨rfl, rfl⟩
set_option maxRecDepth 100000 in
theorem of_verdictFields_2 : OfIs 180 23 := by
  refine ⟨fun args w => by go_simp, fun G w => ?_⟩
  go_enter Tryz.func180, Tryz.ntmps180
  go_wp2
  go_ret
  exact ⟨rfl, rfl⟩
set_option maxRecDepth 100000 in
theorem of_verdictFields_3 : OfIs 181 24 := by
  refine ⟨fun args w => by go_simp, fun G w => ?_⟩
  go_enter Tryz.func181, Tryz.ntmps181
  go_wp2
  go_ret
  exact ⟨rfl, rfl⟩
set_option maxRecDepth 100000 in
theorem of_verdictFields_4 : OfIs 182 25 := by
  refine ⟨fun args w => by go_simp, fun G w => ?_⟩
  go_enter Tryz.func182, Tryz.ntmps182
  go_wp2
  go_ret
  exact ⟨rfl, rfl⟩
set_option maxRecDepth 100000 in
theorem of_verdictFields_5 : OfIs 183 26 := by
  refine ⟨fun args w => by go_simp, fun G w => ?_⟩
  go_enter Tryz.func183, Tryz.ntmps183
  go_wp2
  go_ret
  exact ⟨rfl, rfl⟩

/-- What a field's closure writes. -/
def FdW (w : World) (D : Nat) (v m wv : Value) (b : List UInt8) : Prop :=
  ∃ (K : Nat) (caps : Array Value), wv = .func (.func K) #[] caps ∧ Ent K ∧ ∀ (w' : World) (v' : Value) (l : List UInt8), WStep D v w v' w' → Wr w' D v' l → l.length + b.length ≤ 100000000000 → Calls Tryz.prog K (#[.pointer (some ⟨D, 0, none⟩), m] ++ caps) w' (WrOk D v' (l ++ b) w')

/-- A row whose block lies below B. -/
def RowB (w : World) (B : Nat) (u : Value) (xs : List Val) : Prop := RowIn w u xs ∧ ∀ k, u.ownBlock = some k → k < B
theorem RowB.old {w w' : World} {B B' : Nat} {u : Value} {xs : List Val} (h : RowB w B u xs) (ho : Old B w w') (hB : B ≤ B') : RowB w' B' u xs := by
  obtain ⟨⟨A, cap, h1, h2, h3, h4, h5⟩, hl⟩ := h
  refine ⟨⟨A, cap, h1, h2, h3, fun h0 => ?_, h5⟩, fun k hk => by have := hl k hk; omega⟩
  obtain ⟨g, o, hA, hc⟩ := h4 h0
  have hg : g < B := hl g (by rw [h1, hA]; rfl)
  exact ⟨g, o, hA, fun i x hx => ⟨(World.cell?_of_block (ho g hg)).trans (hc i x hx).1, (World.cell?_of_block (ho g hg)).trans (hc i x hx).2.1, (World.cell?_of_block (ho g hg)).trans (hc i x hx).2.2⟩⟩
theorem WrOk.new {D : Nat} {v : Value} {l : List UInt8} {w w1 w2 : World} {e : Ending} (hk : Kept Kno w w1) (h : WrOk D v l w1 e w2) : WrOk D v l w e w2 := WrOk.after (.new hk) h

set_option maxRecDepth 100000 in
set_option maxHeartbeats 2000000 in
theorem wfNum (D X k off : Nat) (n : Int) (mcs : Array Value) (v : Value) (l : List UInt8) (w : World) (hof : OfIs k off) (hm : mcs[off]? = some (.int .i64 n)) (hn : I64 n) (hX : w.cell? ⟨X, 0, none⟩ = some (.func (.func k) #[] #[])) (h : Wr w D v l) (hl : l.length ≤ 1000000000000) :
    Calls Tryz.prog 149 #[.pointer (some ⟨D, 0, none⟩), .agg mcs, .pointer (some ⟨X, 0, none⟩)] w (WrOk D v (l ++ inum n) w) := by
  have H := Lib.hid h
  have HO := Lib.hid hof.2
  have HN := Lib.hid hn
  have e1 : ∀ (args : Array Value) (w : World), (callFunc k args).run Tryz.prog w = .ok (.enter k args) w := hof.1
  have hkA : Kept Kno w (w.alloc (.cells mcs 36)) := (Kept.refl _ _).alloc _
  have hXA := hkA.cell_some hX (fun h => h)
  have hc : (w.alloc (.cells mcs 36)).cell? ⟨w.heap.size, off, none⟩ = some (.int .i64 n) := ((Blk.new w 36 mcs).cell off).trans hm
  have HK := Lib.hid hkA
  clear h hof hn hkA hX
  go_enter Tryz.func149, Tryz.ntmps149
  go_wp2_with fail
  refine (HO.out _ _).mono ?_
  rintro e w1 ⟨rfl, rfl⟩
  go_wp2_with fail
  refine (wnumber_any D v l n _ (H.out.kept HK.out) HN.out hl).mono ?_
  rintro e w2 ⟨v2, rfl, hw2, hs2⟩
  have HX := Lib.hid (WrOk.new HK.out ⟨v2, rfl, hw2, hs2⟩)
  clear hw2 hs2
  go_wp2
  go_end0
  exact HX.out

set_option maxRecDepth 100000 in
set_option maxHeartbeats 2000000 in
theorem wfArgs (D X k off : Nat) (u : Value) (xs : List Val) (mcs : Array Value) (v : Value) (l : List UInt8) (w : World) (hof : OfIs k off) (hm : mcs[off]? = some u) (hr : RowIn w u xs) (h12 : xs.length ≤ 12) (hv : valsOk xs = true) (hX : w.cell? ⟨X, 0, none⟩ = some (.func (.func k) #[] #[])) (h : Wr w D v l) (hl : l.length ≤ 1000000000000) :
    Calls Tryz.prog 244 #[.pointer (some ⟨D, 0, none⟩), .agg mcs, .pointer (some ⟨X, 0, none⟩)] w (WrOk D v (l ++ renc xs) w) := by
  have H := Lib.hid h
  have HO := Lib.hid hof.2
  have HV := Lib.hid hv
  have e1 : ∀ (args : Array Value) (w : World), (callFunc k args).run Tryz.prog w = .ok (.enter k args) w := hof.1
  have hkA : Kept Kno w (w.alloc (.cells mcs 36)) := (Kept.refl _ _).alloc _
  have hXA := hkA.cell_some hX (fun h => h)
  have HR := Lib.hid (hr.kept0 hkA)
  obtain ⟨Ar, capr, rfl, -⟩ := hr
  have hc : (w.alloc (.cells mcs 36)).cell? ⟨w.heap.size, off, none⟩ = some (.slice Ar xs.length capr) := ((Blk.new w 36 mcs).cell off).trans hm
  have HK := Lib.hid hkA
  clear h hof hv hkA hX
  go_enter Tryz.func244, Tryz.ntmps244
  go_wp2_with fail
  refine (HO.out _ _).mono ?_
  rintro e w1 ⟨rfl, rfl⟩
  go_wp2_with fail
  refine (wrow_any D v _ l xs _ (H.out.kept HK.out) HR.out h12 HV.out hl).mono ?_
  rintro e w2 ⟨v2, rfl, hw2, hs2⟩
  have HX := Lib.hid (WrOk.new HK.out ⟨v2, rfl, hw2, hs2⟩)
  clear hw2 hs2
  go_wp2
  go_end0
  exact HX.out

/-- A refusal. -/
def refuC (r c t : Int) (k : Value) : Array Value := #[.int .i64 r, .int .i64 c, .int .i64 t, k]
def encRef (r c t : Int) (key : List Val) : List UInt8 := inum r ++ inum c ++ inum t ++ renc key

set_option maxRecDepth 100000 in
set_option maxHeartbeats 2000000 in
theorem wrefusal_any (D : Nat) (v u : Value) (l : List UInt8) (r c t : Int) (key : List Val) (w : World) (h : Wr w D v l) (h1 : I64 r) (h2 : I64 c) (h3 : I64 t) (hrb : RowB w D u key) (h12 : key.length ≤ 12) (hv : valsOk key = true) (hl : l.length ≤ 900000000000) :
    Calls Tryz.prog 185 #[.pointer (some ⟨D, 0, none⟩), .agg #[.int .i64 r, .int .i64 c, .int .i64 t, u]] w (WrOk D v (l ++ encRef r c t key) w) := by
  have H := Lib.hid h
  have H1 := Lib.hid h1
  have H2 := Lib.hid h2
  have H3 := Lib.hid h3
  have HV := Lib.hid hv
  have HR := Lib.hid hrb
  have i1 := (inum_length r).2
  have i2 := (inum_length c).2
  have i3 := (inum_length t).2
  obtain ⟨⟨Ar, capr, rfl, -⟩, -⟩ := hrb
  clear h h1 h2 h3 hv
  go_enter Tryz.func185, Tryz.ntmps185
  go_wp2_with fail
  obtain ⟨wA, hA⟩ : ∃ wA, wA = w.alloc (.cells #[.int .i64 r, .int .i64 c, .int .i64 t, .slice Ar key.length capr] 32) := ⟨_, rfl⟩
  rw [← hA]
  have hkA : Kept Kno w wA := by rw [hA]; exact (Kept.refl _ _).alloc _
  have HG : Hid (Gd wA D v w.heap.size 32 #[.int .i64 r, .int .i64 c, .int .i64 t, .slice Ar key.length capr]) := Lib.hid (by rw [hA]; exact Gd.new H.out _ _)
  have HWA := Lib.hid (H.out.kept hkA)
  have HKA := Lib.hid hkA
  clear hA hkA
  refine (wnumber_any D v l r wA HWA.out H1.out (by omega)).mono ?_
  rintro e w1 ⟨v1, rfl, hw1, hs1⟩
  have HG1 := Lib.hid (HG.out.step hs1)
  have HW1 := Lib.hid hw1
  have HS1 := Lib.hid hs1
  have c1 : w1.cell? ⟨w.heap.size, 1, none⟩ = some (.int .i64 c) := HG1.out.b.cell 1
  clear hw1 hs1 HG
  go_wp2_with fail
  refine (wnumber_any D v1 _ c w1 HW1.out H2.out (by rw [List.length_append]; omega)).mono ?_
  rintro e w2 ⟨v2, rfl, hw2, hs2⟩
  have HG2 := Lib.hid (HG1.out.step hs2)
  have HW2 := Lib.hid hw2
  have HS2 := Lib.hid (HS1.out.trans hs2)
  have c2 : w2.cell? ⟨w.heap.size, 2, none⟩ = some (.int .i64 t) := HG2.out.b.cell 2
  clear hw2 hs2 HG1 HS1 c1
  go_wp2_with fail
  refine (wnumber_any D v2 _ t w2 HW2.out H3.out (by simp only [List.length_append]; omega)).mono ?_
  rintro e w3 ⟨v3, rfl, hw3, hs3⟩
  have HG3 := Lib.hid (HG2.out.step hs3)
  have HW3 := Lib.hid hw3
  have HS3 := Lib.hid (HS2.out.trans hs3)
  have c3 : w3.cell? ⟨w.heap.size, 3, none⟩ = some (.slice Ar key.length capr) := HG3.out.b.cell 3
  have HR3 : Hid (RowIn w3 (.slice Ar key.length capr) key) := Lib.hid (HR.out.old (((WStep.new HKA.out).trans HS3.out).old H.out (Nat.le_refl _)) (Nat.le_refl _)).1
  clear hw3 hs3 HG2 HS2 c2
  go_wp2_with fail
  refine (wrow_any D v3 _ _ key w3 HW3.out HR3.out h12 HV.out (by simp only [List.length_append]; omega)).mono ?_
  rintro e w4 ⟨v4, rfl, hw4, hs4⟩
  have HX : Hid (WrOk D v (l ++ encRef r c t key) w (.returned (.tuple #[])) w4) := Lib.hid (WrOk.new HKA.out ⟨v4, rfl, by have := hw4; simpa [encRef] using this, HS3.out.trans hs4⟩)
  clear hw4 hs4
  go_wp2
  go_end0
  exact HX.out

end Go.Proofs.YtffdaohmalmkfaaGreat
