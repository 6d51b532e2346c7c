/-
  Contracts and plain laws that the claim's theorem rests on, some texts in one file.
-/
import Derived.Test.YteoodgcpkgfomaaM2
/-
  Codec: Int, Text, Row with their deferred closures. (Printed by gen_door.py.)
-/
namespace Go.Proofs.Yteoodgcpkgfomaa
open Go.RowKit
set_option linter.unusedVariables false

/-- The three named results, in blocks of their own. -/
structure DoorT (T : TypeId) (w wx : World) (a b c : Value) : Prop where
  k : Kept Kno w wx
  b0 : Blk wx w.heap.size T #[a]
  b1 : Blk wx (w.heap.size + 1) 3 #[b]
  b2 : Blk wx (w.heap.size + 1 + 1) 27 #[c]
section
variable {T : TypeId}
theorem doorT_new (T : TypeId) (w : World) (a b c : Value) : DoorT T w (((w.alloc (.cells #[a] T)).alloc (.cells #[b] 3)).alloc (.cells #[c] 27)) a b c := by
  refine ⟨(((Kept.refl _ w).alloc _).alloc _).alloc _, ((Blk.new w _ _).alloc _).alloc _, ?_, ?_⟩
  · have h := (Blk.new (w.alloc (.cells #[a] T)) 3 #[b]).alloc (.cells #[c] 27)
    have e : (w.alloc (.cells #[a] T)).heap.size = w.heap.size + 1 := by simp
    rw [e] at h
    exact h
  · have h := Blk.new ((w.alloc (.cells #[a] T)).alloc (.cells #[b] 3)) 27 #[c]
    have e : ((w.alloc (.cells #[a] T)).alloc (.cells #[b] 3)).heap.size = w.heap.size + 1 + 1 := by simp
    rw [e] at h
    exact h
theorem DoorT.kept {w wx wy : World} {a b c : Value} {S : Nat → Prop} (h : DoorT T w wx a b c) (hk : Kept S wx wy) (hS : ∀ k, k ≤ w.heap.size + 2 → ¬ S k) : DoorT T w wy a b c :=
  ⟨h.k.trans hk (fun i hi hs => absurd hs (hS i (by omega))), h.b0.kept hk (hS _ (by omega)), h.b1.kept hk (hS _ (by omega)), h.b2.kept hk (hS _ (by omega))⟩
theorem DoorT.set {w wx : World} {a b c a' b' c' : Value} (h : DoorT T w wx a b c) : DoorT T w (((wx.setCell ⟨w.heap.size, 0, none⟩ a').setCell ⟨w.heap.size + 1, 0, none⟩ b').setCell ⟨w.heap.size + 1 + 1, 0, none⟩ c') a' b' c' := by
  refine ⟨?_, ?_, ?_, ?_⟩
  · exact ((h.k.setNew (p := ⟨w.heap.size, 0, none⟩) (Nat.le_refl _) _).setNew (p := ⟨w.heap.size + 1, 0, none⟩) (by simp) _).setNew (p := ⟨w.heap.size + 1 + 1, 0, none⟩) (by simp; omega) _
  · exact ((h.b0.set_ 0 a').far (by simp) _).far (by simp; omega) _
  · exact ((h.b1.far (by simp) _).set_ 0 b').far (by simp) _
  · exact ((h.b2.far (by simp; omega) _).far (by simp) _).set_ 0 c'
theorem DoorT.set1 {w wx : World} {a b c a' : Value} (h : DoorT T w wx a b c) : DoorT T w (wx.setCell ⟨w.heap.size, 0, none⟩ a') a' b c :=
  ⟨h.k.setNew (p := ⟨w.heap.size, 0, none⟩) (Nat.le_refl _) _, h.b0.set_ 0 a', h.b1.far (by simp) _, h.b2.far (by simp; omega) _⟩
end
/-- The blocks of the three named results. -/
def Door3 (w : World) : Nat → Prop := fun k => w.heap.size ≤ k ∧ k ≤ w.heap.size + 1 + 1
theorem door3_0 (w : World) : Door3 w w.heap.size := ⟨Nat.le_refl _, by omega⟩
theorem door3_1 (w : World) : Door3 w (w.heap.size + 1) := ⟨by omega, by omega⟩
theorem door3_2 (w : World) : Door3 w (w.heap.size + 1 + 1) := ⟨by omega, by omega⟩
def DoorOk (w : World) (X : Value → World → Prop) (nk : Nat) (e : Ending) (w' : World) : Prop := ∃ (V : Value) (w2 : World), e = .returned (.tuple #[V, .int .i64 (nk : Int), .int .i64 0]) ∧ X V w2 ∧ Kept (Door3 w) w2 w' ∧ Kept Kno w w'

set_option maxHeartbeats 1000000 in
theorem textD_panicking (p q r : Addr) (x : ByteArray) (y z c : Int) (older : List PanicEntry) (w : World) (h1 : w.cell? p = some (.string x)) (f1 : w.frozen? p = false) (h2 : w.cell? q = some (.int .i64 y)) (f2 : w.frozen? q = false) (h3 : w.cell? r = some (.int .i64 z)) (f3 : w.frozen? r = false) (hpq : p.block ≠ q.block) (hpr : p.block ≠ r.block) (hqr : q.block ≠ r.block) :
    CallsD Try.prog 89 #[.pointer (some p), .pointer (some q), .pointer (some r)] (.panicking ({ v := .iface 27 (.int .i64 c), recovered := false } :: older)) w fun e u' w' =>
      e = .returned (.tuple #[]) ∧ u' = .panicking ({ v := .iface 27 (.int .i64 c), recovered := true } :: older) ∧ w' = ((w.setCell p (.string ⟨#[]⟩)).setCell q (.int .i64 0)).setCell r (.int .i64 c) := by
  have g2 : (w.setCell p (.string ⟨#[]⟩)).cell? q = some (.int .i64 y) := (World.cell?_setCell_far _ _ _ _ hpq).trans h2
  have g3 : ((w.setCell p (.string ⟨#[]⟩)).setCell q (.int .i64 0)).cell? r = some (.int .i64 z) := (World.cell?_setCell_far _ _ _ _ hqr).trans ((World.cell?_setCell_far _ _ _ _ hpr).trans h3)
  have k2 : (w.setCell p (.string ⟨#[]⟩)).frozen? q = false := (World.frozen?_setCell _ _ _ _).trans f2
  have k3 : ((w.setCell p (.string ⟨#[]⟩)).setCell q (.int .i64 0)).frozen? r = false := (World.frozen?_setCell _ _ _ _).trans ((World.frozen?_setCell _ _ _ _).trans f3)
  refine callsD_of_wpS Try.func89 rfl fun c₀ cs hu => ?_
  apply wpS_seq
  apply wpS_region
  simp [wpOpsS, go_sem, recoverD, hu, Try.ntmps89, Exit.thenS, assert_is]
  apply wpS_seq
  apply wpS_region
  simp [wpOpsS, go_sem, Exit.thenS]
  refine wpS_cond (t := true) (by simp [Act.eval, Array.replicate]) ?_
  simp only [if_true]
  apply wpS_region
  simp [wpOpsS, go_sem, h1, f1, g2, g3, k2, k3, bodyPostS, results, Try.results89]

set_option maxHeartbeats 1000000 in
theorem textD_idle (p q r : Addr) (w : World) :
    CallsD Try.prog 89 #[.pointer (some p), .pointer (some q), .pointer (some r)] .returning w fun e u' w' => e = .returned (.tuple #[]) ∧ u' = .returning ∧ w' = w := by
  refine callsD_of_wpS Try.func89 rfl fun c₀ cs hu => ?_
  apply wpS_seq
  apply wpS_region
  simp [wpOpsS, go_sem, recoverD, hu, Try.ntmps89, Exit.thenS, assert_nil]
  apply wpS_seq
  apply wpS_region
  simp [wpOpsS, go_sem, Exit.thenS]
  refine wpS_cond (t := false) (by simp [Act.eval, Array.replicate]) ?_
  simp only [Bool.false_eq_true, if_false]
  refine wpS_of_wp (wp_skip ?_)
  cases c₀
  simp_all [bodyPostS, results, Try.results89]

set_option maxHeartbeats 1000000 in
theorem textF_bad (v : Value) (l : List UInt8) (n : Int) (most : Int) (w : World) (hb : Bs w v l) (hn : n < 0 ∨ (l.length : Int) < n) :
    Calls Try.prog 86 #[v, .int .i64 n, .int .i64 most] w fun e w' => e = .returned (.tuple #[.string ⟨#[]⟩, .int .i64 0, .int .i64 1]) ∧ Kept Kno w w' := by
  have HB := Lib.hid hb
  obtain ⟨A, cap, rfl, -⟩ := hb
  have hmf : ∀ (fn : Fn) (first cap : Array Value) (w : World), (Instr.makeFunc fn first cap).run Try.prog w = .ok (.func fn first cap) w := fun _ _ _ _ => rfl
  have HN := Lib.hid hn
  clear hn
  go_enter_defers Try.func86, Try.ntmps86
  go_wp2_with fail
  have hd := doorT_new 9 w (.string ⟨#[]⟩) (.int .i64 0) (.int .i64 0)
  generalize (((w.alloc (.cells #[.string ⟨#[]⟩] 9)).alloc (.cells #[.int .i64 0] 3)).alloc (.cells #[.int .i64 0] 27)) = wx at hd ⊢
  refine (begin_bad _ l n wx (HB.out.kept0 hd.k) HN.out).mono ?_
  rintro e w1 ⟨rfl, rfl⟩
  refine leaves_cons (f := 89) (args := #[.pointer (some ⟨w.heap.size, 0, none⟩), .pointer (some ⟨w.heap.size + 1, 0, none⟩), .pointer (some ⟨w.heap.size + 1 + 1, 0, none⟩)]) (by simp) (by simp [go_sem]) ?_
  refine (textD_panicking _ _ _ ⟨#[]⟩ 0 0 1 [] _ (hd.b0.cell 0) (hd.b0.frozen 0) (hd.b1.cell 0) (hd.b1.frozen 0) (hd.b2.cell 0) (hd.b2.frozen 0) (by simp) (by simp; omega) (by simp)).mono ?_
  rintro e u' w'' ⟨rfl, rfl, rfl⟩
  have hd3 := hd.set (a' := .string ⟨#[]⟩) (b' := .int .i64 0) (c' := .int .i64 1)
  generalize (((wx.setCell ⟨w.heap.size, 0, none⟩ (.string ⟨#[]⟩)).setCell ⟨w.heap.size + 1, 0, none⟩ (.int .i64 0)).setCell ⟨w.heap.size + 1 + 1, 0, none⟩ (.int .i64 1)) = wy at hd3 ⊢
  have e0 : wy.cell? ⟨w.heap.size, 0, none⟩ = some (.string ⟨#[]⟩) := hd3.b0.cell 0
  have e1 : wy.cell? ⟨w.heap.size + 1, 0, none⟩ = some (.int .i64 0) := hd3.b1.cell 0
  have e2 : wy.cell? ⟨w.heap.size + 1 + 1, 0, none⟩ = some (.int .i64 1) := hd3.b2.cell 0
  have hk := hd3.k
  clear hd hd3
  simp [Leaves, settle, results, Try.results86, go_sem, e0, e1, e2, hk]

set_option maxHeartbeats 1000000 in
theorem textF_neg (v : Value) (l : List UInt8) (n : Nat) (most : Int) (w : World) (hb : Bs w v l) (hn : n ≤ l.length) (hm : most < 0) :
    Calls Try.prog 86 #[v, .int .i64 n, .int .i64 most] w fun e w' => e = .returned (.tuple #[.string ⟨#[]⟩, .int .i64 0, .int .i64 1]) ∧ Kept Kno w w' := by
  have HB := Lib.hid hb
  obtain ⟨A, cap, rfl, -⟩ := hb
  have hmf : ∀ (fn : Fn) (first cap : Array Value) (w : World), (Instr.makeFunc fn first cap).run Try.prog w = .ok (.func fn first cap) w := fun _ _ _ _ => rfl
  go_enter_defers Try.func86, Try.ntmps86
  go_wp2_with fail
  have hd := doorT_new 9 w (.string ⟨#[]⟩) (.int .i64 0) (.int .i64 0)
  generalize (((w.alloc (.cells #[.string ⟨#[]⟩] 9)).alloc (.cells #[.int .i64 0] 3)).alloc (.cells #[.int .i64 0] 27)) = wx at hd ⊢
  have HD := Lib.hid hd
  clear hd
  refine (begin_ok _ l n wx (HB.out.kept0 HD.out.k) hn).mono ?_
  rintro e w1 ⟨rfl, hw1⟩
  have hr1 : Rdr w1 wx.heap.size (.slice A l.length cap) n := by rw [hw1]; exact Blk.new _ _ _
  have hd1 : DoorT 9 w w1 (.string ⟨#[]⟩) (.int .i64 0) (.int .i64 0) := by rw [hw1]; exact HD.out.kept ((Kept.refl Kno wx).alloc _) (fun _ _ h => h)
  have hlt : w.heap.size + 1 + 1 < wx.heap.size := HD.out.b2.lt
  have HR1 := Lib.hid hr1
  have HD1 := Lib.hid hd1
  clear hw1 hr1 hd1
  go_wp2_with fail
  have hd1 := HD1.out
  refine leaves_cons (f := 89) (args := #[.pointer (some ⟨w.heap.size, 0, none⟩), .pointer (some ⟨w.heap.size + 1, 0, none⟩), .pointer (some ⟨w.heap.size + 1 + 1, 0, none⟩)]) (by simp) (by simp [go_sem]) ?_
  refine (textD_panicking _ _ _ ⟨#[]⟩ 0 0 1 [] _ (hd1.b0.cell 0) (hd1.b0.frozen 0) (hd1.b1.cell 0) (hd1.b1.frozen 0) (hd1.b2.cell 0) (hd1.b2.frozen 0) (by simp) (by simp; omega) (by simp)).mono ?_
  rintro e u' w'' ⟨rfl, rfl, rfl⟩
  have hd3 := hd1.set (a' := .string ⟨#[]⟩) (b' := .int .i64 0) (c' := .int .i64 1)
  generalize (((w1.setCell ⟨w.heap.size, 0, none⟩ (.string ⟨#[]⟩)).setCell ⟨w.heap.size + 1, 0, none⟩ (.int .i64 0)).setCell ⟨w.heap.size + 1 + 1, 0, none⟩ (.int .i64 1)) = wy at hd3 ⊢
  have e0 : wy.cell? ⟨w.heap.size, 0, none⟩ = some (.string ⟨#[]⟩) := hd3.b0.cell 0
  have e1 : wy.cell? ⟨w.heap.size + 1, 0, none⟩ = some (.int .i64 0) := hd3.b1.cell 0
  have e2 : wy.cell? ⟨w.heap.size + 1 + 1, 0, none⟩ = some (.int .i64 1) := hd3.b2.cell 0
  have hk := hd3.k
  clear hd1 hd3
  simp [Leaves, settle, results, Try.results86, go_sem, e0, e1, e2, hk]

set_option maxHeartbeats 2000000 in
theorem textF_err (v : Value) (l : List UInt8) (n : Nat) (most : Nat) (c : Int) (w : World) (hb : Bs w v l) (hn : n ≤ l.length)
    (hdec : ∀ (D : Nat) (w1 : World), Rdr w1 D v n → Bs w1 v l → Calls Try.prog 91 #[.pointer (some ⟨D, 0, none⟩), .int .i64 (most : Int)] w1 fun e w2 => Kept (Kone D) w1 w2 ∧ e = Pan c) :
    Calls Try.prog 86 #[v, .int .i64 n, .int .i64 (most : Int)] w fun e w' => e = .returned (.tuple #[.string ⟨#[]⟩, .int .i64 0, .int .i64 c]) ∧ Kept Kno w w' := by
  have HB := Lib.hid hb
  obtain ⟨A, cap, rfl, -⟩ := hb
  have hmf : ∀ (fn : Fn) (first cap : Array Value) (w : World), (Instr.makeFunc fn first cap).run Try.prog w = .ok (.func fn first cap) w := fun _ _ _ _ => rfl
  have HX := Lib.hid hdec
  clear hdec
  have hm0 : ¬ (most : Int) < 0 := by omega
  go_enter_defers Try.func86, Try.ntmps86
  go_wp2_with fail
  have hd := doorT_new 9 w (.string ⟨#[]⟩) (.int .i64 0) (.int .i64 0)
  generalize (((w.alloc (.cells #[.string ⟨#[]⟩] 9)).alloc (.cells #[.int .i64 0] 3)).alloc (.cells #[.int .i64 0] 27)) = wx at hd ⊢
  have HD := Lib.hid hd
  clear hd
  refine (begin_ok _ l n wx (HB.out.kept0 HD.out.k) hn).mono ?_
  rintro e w1 ⟨rfl, hw1⟩
  have hr1 : Rdr w1 wx.heap.size (.slice A l.length cap) n := by rw [hw1]; exact Blk.new _ _ _
  have hd1 : DoorT 9 w w1 (.string ⟨#[]⟩) (.int .i64 0) (.int .i64 0) := by rw [hw1]; exact HD.out.kept ((Kept.refl Kno wx).alloc _) (fun _ _ h => h)
  have hlt : w.heap.size + 1 + 1 < wx.heap.size := HD.out.b2.lt
  have HR1 := Lib.hid hr1
  have HD1 := Lib.hid hd1
  clear hw1 hr1 hd1
  go_wp2_with fail
  refine (HX.out wx.heap.size w1 HR1.out (HB.out.kept0 HD1.out.k)).mono ?_
  rintro e w2 ⟨hk2, rfl⟩
  have hd2 := HD1.out.kept hk2 (fun k hk h => by unfold Kone at h; omega)
  refine leaves_cons (f := 89) (args := #[.pointer (some ⟨w.heap.size, 0, none⟩), .pointer (some ⟨w.heap.size + 1, 0, none⟩), .pointer (some ⟨w.heap.size + 1 + 1, 0, none⟩)]) (by simp) (by simp [go_sem]) ?_
  refine (textD_panicking _ _ _ ⟨#[]⟩ 0 0 c [] _ (hd2.b0.cell 0) (hd2.b0.frozen 0) (hd2.b1.cell 0) (hd2.b1.frozen 0) (hd2.b2.cell 0) (hd2.b2.frozen 0) (by simp) (by simp; omega) (by simp)).mono ?_
  rintro e u' w'' ⟨rfl, rfl, rfl⟩
  have hd3 := hd2.set (a' := .string ⟨#[]⟩) (b' := .int .i64 0) (c' := .int .i64 c)
  generalize (((w2.setCell ⟨w.heap.size, 0, none⟩ (.string ⟨#[]⟩)).setCell ⟨w.heap.size + 1, 0, none⟩ (.int .i64 0)).setCell ⟨w.heap.size + 1 + 1, 0, none⟩ (.int .i64 c)) = wy at hd3 ⊢
  have e0 : wy.cell? ⟨w.heap.size, 0, none⟩ = some (.string ⟨#[]⟩) := hd3.b0.cell 0
  have e1 : wy.cell? ⟨w.heap.size + 1, 0, none⟩ = some (.int .i64 0) := hd3.b1.cell 0
  have e2 : wy.cell? ⟨w.heap.size + 1 + 1, 0, none⟩ = some (.int .i64 c) := hd3.b2.cell 0
  have hk := hd3.k
  clear hd2 hd3
  simp [Leaves, settle, results, Try.results86, go_sem, e0, e1, e2, hk]

set_option maxHeartbeats 2000000 in
theorem textF_ok (v : Value) (l : List UInt8) (n nk : Nat) (most : Nat) (w : World) (X : Value → World → Prop) (hb : Bs w v l) (hn : n ≤ l.length)
    (hdec : ∀ (D : Nat) (w1 : World), w.heap.size + 1 + 1 < D → D < w1.heap.size → Rdr w1 D v n → Bs w1 v l → Calls Try.prog 91 #[.pointer (some ⟨D, 0, none⟩), .int .i64 (most : Int)] w1 fun e w2 => Kept (Kone D) w1 w2 ∧ ∃ Z, e = .returned (.string Z) ∧ Rdr w2 D v nk ∧ X (.string Z) w2) :
    Calls Try.prog 86 #[v, .int .i64 n, .int .i64 (most : Int)] w (DoorOk w X nk) := by
  have HB := Lib.hid hb
  obtain ⟨A, cap, rfl, -⟩ := hb
  have hmf : ∀ (fn : Fn) (first cap : Array Value) (w : World), (Instr.makeFunc fn first cap).run Try.prog w = .ok (.func fn first cap) w := fun _ _ _ _ => rfl
  have HX := Lib.hid hdec
  clear hdec
  have hm0 : ¬ (most : Int) < 0 := by omega
  go_enter_defers Try.func86, Try.ntmps86
  go_wp2_with fail
  have hd := doorT_new 9 w (.string ⟨#[]⟩) (.int .i64 0) (.int .i64 0)
  generalize (((w.alloc (.cells #[.string ⟨#[]⟩] 9)).alloc (.cells #[.int .i64 0] 3)).alloc (.cells #[.int .i64 0] 27)) = wx at hd ⊢
  have HD := Lib.hid hd
  clear hd
  refine (begin_ok _ l n wx (HB.out.kept0 HD.out.k) hn).mono ?_
  rintro e w1 ⟨rfl, hw1⟩
  have hr1 : Rdr w1 wx.heap.size (.slice A l.length cap) n := by rw [hw1]; exact Blk.new _ _ _
  have hd1 : DoorT 9 w w1 (.string ⟨#[]⟩) (.int .i64 0) (.int .i64 0) := by rw [hw1]; exact HD.out.kept ((Kept.refl Kno wx).alloc _) (fun _ _ h => h)
  have hlt : w.heap.size + 1 + 1 < wx.heap.size := HD.out.b2.lt
  have HR1 := Lib.hid hr1
  have HD1 := Lib.hid hd1
  clear hw1 hr1 hd1
  go_wp2_with fail
  have hlt1 : wx.heap.size < w1.heap.size := Blk.lt HR1.out
  refine (HX.out wx.heap.size w1 hlt hlt1 HR1.out (HB.out.kept0 HD1.out.k)).mono ?_
  rintro e w2 ⟨hk2, Z, rfl, hr2, hx2⟩
  have hd2 := HD1.out.kept hk2 (fun k hk h => by unfold Kone at h; omega)
  have c0 : w2.cell? ⟨w.heap.size, 0, none⟩ = some (.string ⟨#[]⟩) := hd2.b0.cell 0
  have c1 : w2.cell? ⟨w.heap.size + 1, 0, none⟩ = some (.int .i64 0) := hd2.b1.cell 0
  have c2 : w2.cell? ⟨w.heap.size + 1 + 1, 0, none⟩ = some (.int .i64 0) := hd2.b2.cell 0
  have c3 : w2.cell? ⟨wx.heap.size, 1, none⟩ = some (.int .i64 (nk : Int)) := Blk.cell hr2 1
  have f0 := hd2.b0.frozen 0
  have f1 := hd2.b1.frozen 0
  have f2 := hd2.b2.frozen 0
  have HD2 := Lib.hid hd2
  have HX2 := Lib.hid hx2
  generalize hD : wx.heap.size = D at hlt c3 HR1 ⊢
  have hD0 : w.heap.size ≠ D := by omega
  have hD1 : w.heap.size + 1 ≠ D := by omega
  have hD2 : w.heap.size + 1 + 1 ≠ D := by omega
  clear hd2 hr2 hk2 hD hx2 hlt1
  go_wp2_with fail
  go_region
  all_goals
    go_wp2_with fail
    have hd3 := ((HD2.out.set1 (a' := .string Z)).set (a' := .string Z) (b' := .int .i64 nk) (c' := .int .i64 0)).kept (Kept.drew (Kept.refl Kno _)) (fun _ _ h => h)
    have hk3 : Kept (Door3 w) w2 ((((w2.setCell ⟨w.heap.size, 0, none⟩ (.string Z)).setCell ⟨w.heap.size, 0, none⟩ (.string Z)).setCell ⟨w.heap.size + 1, 0, none⟩ (.int .i64 nk)).setCell ⟨w.heap.size + 1 + 1, 0, none⟩ (.int .i64 0)).drew := (((((Kept.refl (Door3 w) w2).setIn (p := ⟨w.heap.size, 0, none⟩) (door3_0 w) _).setIn (p := ⟨w.heap.size, 0, none⟩) (door3_0 w) _).setIn (p := ⟨w.heap.size + 1, 0, none⟩) (door3_1 w) _).setIn (p := ⟨w.heap.size + 1 + 1, 0, none⟩) (door3_2 w) _).drew
    generalize ((((w2.setCell ⟨w.heap.size, 0, none⟩ (.string Z)).setCell ⟨w.heap.size, 0, none⟩ (.string Z)).setCell ⟨w.heap.size + 1, 0, none⟩ (.int .i64 nk)).setCell ⟨w.heap.size + 1 + 1, 0, none⟩ (.int .i64 0)).drew = wy at hd3 hk3 ⊢
    refine leaves_cons (f := 89) (args := #[.pointer (some ⟨w.heap.size, 0, none⟩), .pointer (some ⟨w.heap.size + 1, 0, none⟩), .pointer (some ⟨w.heap.size + 1 + 1, 0, none⟩)]) (by simp) (by simp [go_sem]) ?_
    refine (textD_idle _ _ _ _).mono ?_
    rintro e u' w'' ⟨rfl, rfl, rfl⟩
    have e0 : w''.cell? ⟨w.heap.size, 0, none⟩ = some (.string Z) := hd3.b0.cell 0
    have e1 : w''.cell? ⟨w.heap.size + 1, 0, none⟩ = some (.int .i64 nk) := hd3.b1.cell 0
    have e2 : w''.cell? ⟨w.heap.size + 1 + 1, 0, none⟩ = some (.int .i64 0) := hd3.b2.cell 0
    have HQ : Hid (DoorOk w X nk (.returned (.tuple #[.string Z, .int .i64 nk, .int .i64 0])) w'') := Lib.hid ⟨_, w2, rfl, HX2.out, hk3, hd3.k⟩
    clear hd3 hk3 HX2 HX
    simp [Leaves, settle, results, Try.results86, go_sem, e0, e1, e2]
    exact HQ.out

end Go.Proofs.Yteoodgcpkgfomaa
/-
  Codec: Int and Text of the reader, for any bytes; the reference's Uint, Int, Text.
-/
namespace Go.Proofs.Yteoodgcpkgfomaa
open Go.RowKit
set_option linter.unusedVariables false

/-- What Int returns. -/
def intRes (l : List UInt8) (n : Int) : Int × Nat × Int :=
  if n < 0 ∨ (l.length : Int) < n then (0, 0, 1) else match uintAt l n.toNat with
    | .ok (N, k) => (unzz N, n.toNat + k, 0)
    | .error c => (0, 0, c)
/-- What Text returns. -/
def textRes (l : List UInt8) (n most : Int) : List UInt8 × Nat × Int :=
  if n < 0 ∨ (l.length : Int) < n ∨ most < 0 then ([], 0, 1) else match textAt l n.toNat most.toNat with
    | .ok (b, k) => (b, n.toNat + k, 0)
    | .error c => ([], 0, c)

theorem textF_any (v : Value) (l : List UInt8) (n most : Int) (w : World) (hb : Bs w v l) (hl : l.length ≤ 1000000) (hm : most ≤ 9223372036854775807) :
    Calls Try.prog 86 #[v, .int .i64 n, .int .i64 most] w fun e w' => e = .returned (.tuple #[strOf (textRes l n most).1, .int .i64 (textRes l n most).2.1, .int .i64 (textRes l n most).2.2]) ∧ Kept Kno w w' := by
  unfold textRes
  by_cases hn : n < 0 ∨ (l.length : Int) < n
  · rw [if_pos (by rcases hn with h | h <;> simp [h])]
    exact textF_bad v l n most w hb hn
  · obtain ⟨m, rfl⟩ : ∃ m : Nat, n = (m : Int) := ⟨n.toNat, by omega⟩
    by_cases hm0 : most < 0
    · rw [if_pos (by simp [hm0])]
      exact textF_neg v l m most w hb (by omega) hm0
    · rw [if_neg (by omega)]
      obtain ⟨q, rfl⟩ : ∃ q : Nat, most = (q : Int) := ⟨most.toNat, by omega⟩
      rw [Int.toNat_natCast, Int.toNat_natCast]
      cases hx : textAt l m q with
      | error c => exact textF_err v l m q c w hb (by omega) (fun D w1 hr hb1 => (text_dec D m q v l w1 hr hb1 hl (by omega) (by omega)).mono (fun e w2 h => by rw [hx] at h; exact h))
      | ok p =>
        obtain ⟨b, k⟩ := p
        refine (textF_ok v l m (m + k) q w (fun V _ => V = strOf b) hb (by omega) (fun D w1 _ _ hr hb1 => (text_dec D m q v l w1 hr hb1 hl (by omega) (by omega)).mono (fun e w2 h => ?_))).mono ?_
        · rw [hx] at h
          exact ⟨h.1, _, h.2.1, h.2.2, rfl⟩
        · rintro e w' ⟨V, w2, rfl, rfl, -, h4⟩
          exact ⟨rfl, h4⟩

theorem shl_small (N k : Nat) (c : UInt8) (hN : N < 2 ^ (7 * k)) (hk : k ≤ 9) (hc : c.toNat < 128) (hs : k ≤ 8 ∨ c.toNat ≤ 1) : bits BinOp.or IntKind.u64 (N : Int) (IntKind.u64.wrap ((c.toNat : Int) * 2 ^ (7 * k))) = ((N + c.toNat * 2 ^ (7 * k) : Nat) : Int) := by
  obtain ⟨M, h1, h2, h3⟩ := shl_val N k c hN hk
  have e : IntKind.u64.wrap (bits BinOp.and IntKind.u8 ((c.toNat : Nat) : Int) 127) = (c.toNat : Int) := by
    rw [and_low, IntKind.wrap_u64]
    omega
  rw [e] at h1
  rw [h1, h3 (by omega), Nat.mod_eq_of_lt hc]

theorem ret3_i {x y : Value} {a b : Int} (h : a = b) : Ending.returned (.tuple #[x, .int .i64 a, y]) = .returned (.tuple #[x, .int .i64 b, y]) := by rw [h]

def RefRel (n : Nat) (l : List UInt8) (nv i : Value) : Prop :=
  ∃ k N : Nat, k ≤ 10 ∧ i = .int .i64 k ∧ nv = .int .u64 N ∧ N < 2 ^ (7 * k) ∧ n + k ≤ l.length ∧ rdF (10 - k) k N (l.drop (n + k)) = uintAt l n

set_option maxRecDepth 100000 in
set_option maxHeartbeats 4000000 in
theorem refUintF_good (v : Value) (l : List UInt8) (n : Nat) (w : World) (hb : Bs w v l) (hl : l.length ≤ 1000000) (hn : n ≤ l.length) :
    Calls Try.prog 88 #[v, .int .i64 n] w fun e w' => e = .returned (match uintAt l n with | .ok (N, k) => .tuple #[.int .u64 N, .int .i64 (n + k : Nat), .int .i64 0] | .error c => .tuple #[.int .u64 0, .int .i64 0, .int .i64 c]) ∧ w = w' := by
  obtain ⟨R, hR⟩ : ∃ R : Value, R = (match uintAt l n with | .ok (N, k) => .tuple #[.int .u64 N, .int .i64 (n + k : Nat), .int .i64 0] | .error c => .tuple #[.int .u64 0, .int .i64 0, .int .i64 c]) := ⟨_, rfl⟩
  rw [← hR]
  have HR := Lib.hid hR
  have HB := Lib.hid hb
  obtain ⟨A, cap, rfl, hlc, h2, h3, h4⟩ := hb
  have H4 := Lib.hid h4
  have H3 := Lib.hid h3
  clear h2 h3 h4 hR
  have q0 : ¬ (n : Int) < 0 := by omega
  have q1 : ¬ (l.length : Int) < (n : Int) := by omega
  go_enter Try.func88, Try.ntmps88
  go_wp2_with fail
  go_loop [7, 8] (fun nv i => RefRel n l nv i) (fun _ i => 10 - (intOf i).toNat)
  case atStart => exact ⟨0, 0, by omega, rfl, rfl, by decide, hn, rfl⟩
  case round =>
    obtain ⟨k, N, hk, rfl, rfl, hN, hnk, heq⟩ := hrel
    have HE := Lib.hid heq
    have HN := Lib.hid hN
    clear heq hN
    by_cases hlt : k < 10
    · have hk0 : (0 : Int) ≤ (k : Int) := by omega
      have hk9 : (k : Int) < 10 := by omega
      by_cases hend : n + k = l.length
      · have hx : uintAt l n = .error 20 := by
          rw [← HE.out, hend, List.drop_length, show 10 - k = (9 - k) + 1 by omega]
          rfl
        have hr : R = .tuple #[.int .u64 0, .int .i64 0, .int .i64 20] := by rw [HR.out, hx]
        subst hr
        have hge : (l.length : Int) ≤ (n : Int) + (k : Int) := by omega
        clear hx hend HR
        go_wp2
        go_ret3
        exact ⟨rfl, rfl⟩
      · have hcl : n + k < l.length := by omega
        obtain ⟨c, hc⟩ : ∃ c, l[n + k]? = some c := ⟨_, List.getElem?_eq_getElem hcl⟩
        have hdr : l.drop (n + k) = c :: l.drop (n + k + 1) := by
          obtain ⟨h1, h2⟩ := List.getElem?_eq_some_iff.1 hc
          rw [List.drop_eq_getElem_cons h1, h2]
        have hfe := HE.out
        rw [hdr, show 10 - k = (9 - k) + 1 by omega] at hfe
        simp only [rdF] at hfe
        have HFE := Lib.hid hfe
        have c256 : c.toNat < 256 := c.toNat_lt
        have hA : ∃ g o, A = some ⟨g, o, none⟩ ∧ w.cell? ⟨g, o + (n + k), none⟩ = some (.int .u8 c.toNat) := by
          rcases A with _ | ad
          · have := (H3.out rfl).1; omega
          · have hcc := H4.out ad rfl (n + k) (bv c) (by rw [List.getElem?_map, hc]; rfl)
            obtain ⟨g, o, spot⟩ := ad
            have hs : spot = none := by
              have h0 := H4.out ⟨g, o, spot⟩ rfl 0 (bv (l[0]'(by omega))) (by rw [List.getElem?_map, List.getElem?_eq_getElem (by omega)]; rfl)
              have := World.cell?_spot h0
              simpa [Addr.add] using this
            subst hs
            rw [add_lit0] at hcc
            exact ⟨g, o, rfl, hcc⟩
        obtain ⟨g, o, rfl, hcc⟩ := hA
        obtain ⟨M, hM1, hM2, hM3⟩ := shl_val N k c HN.out (by omega)
        have HM3 := Lib.hid hM3
        have HM2 := Lib.hid hM2
        have hge : ¬ (l.length : Int) ≤ (n : Int) + (k : Int) := by omega
        clear hdr hfe hc hM3 hM2
        by_cases hge : 128 ≤ c.toNat
        · have hge2 : ¬ (c.toNat : Int) < 128 := by omega
          go_wp2_with fail
          have hfe := HFE.out
          rw [if_pos hge] at hfe
          refine ⟨⟨k + 1, M, by omega, by go_num, rfl, ?_, by omega, ?_⟩, by simp [intOf]; omega⟩
          · by_cases hk8 : k ≤ 8
            · have h1 := HM3.out (.inl hk8)
              have h2 := HN.out
              have h3 : c.toNat % 128 ≤ 127 := by omega
              have h4 : (c.toNat % 128) * 2 ^ (7 * k) ≤ 127 * 2 ^ (7 * k) := Nat.mul_le_mul_right _ h3
              have h5 : 2 ^ (7 * (k + 1)) = 128 * 2 ^ (7 * k) := by rw [show 7 * (k + 1) = 7 * k + 7 by omega, Nat.pow_add]; omega
              omega
            · have h5 : 2 ^ 70 ≤ 2 ^ (7 * (k + 1)) := Nat.pow_le_pow_right (by decide) (by omega)
              have := HM2.out
              omega
          · by_cases hk8 : k ≤ 8
            · rw [← hfe, HM3.out (.inl hk8), show c.toNat % 128 = c.toNat - 128 by omega, show 10 - (k + 1) = 9 - k by omega]
              rfl
            · obtain rfl : k = 9 := by omega
              rw [← hfe]
              have e1 : 10 - (9 + 1) = 0 := rfl
              rw [e1]
              simp only [rdF]
        · have hge2 : (c.toNat : Int) < 128 := by omega
          have hfe := HFE.out
          rw [if_neg hge] at hfe
          clear hM1
          by_cases hbad : (c.toNat = 0 ∧ 0 < k) ∨ (1 < c.toNat ∧ k = 9)
          · rw [if_pos hbad] at hfe
            have hr : R = .tuple #[.int .u64 0, .int .i64 0, .int .i64 21] := by rw [HR.out, ← hfe]
            subst hr
            clear hfe HR
            rcases hbad with ⟨hb1, hb2⟩ | ⟨hb1, hb2⟩
            · have hb3 : ((c.toNat : Int) == 0) = true := by simp [hb1]
              have hb4 : (0 : Int) < (k : Int) := by omega
              clear hb1
              go_wp2
              go_ret3
              exact ⟨rfl, rfl⟩
            · subst hb2
              have hb3 : ((c.toNat : Int) == 0) = false := by simp; omega
              have hb4 : (1 : Int) < (c.toNat : Int) := by omega
              go_wp2
              go_ret3
              exact ⟨rfl, rfl⟩
          · rw [if_neg hbad] at hfe
            have hm := shl_small N k c HN.out (by omega) (by omega) (by omega)
            have hr : R = .tuple #[.int .u64 (N + c.toNat * 2 ^ (7 * k) : Nat), .int .i64 (n + (k + 1) : Nat), .int .i64 0] := by rw [HR.out, ← hfe]
            generalize N + c.toNat * 2 ^ (7 * k) = M2 at hm hr
            subst hr
            clear hfe HR
            have s1 : (n : Int) + (k : Int) + 1 = ((n + (k + 1) : Nat) : Int) := by omega
            have S1 := Lib.hid s1
            clear s1
            by_cases hz : c.toNat = 0
            · have hk00 : k = 0 := by omega
              have hb2 : ¬ (0 : Int) < (k : Int) := by omega
              have hb6 : ((k : Int) == 9) = false := by simp; omega
              have hb3 : ((c.toNat : Int) == 0) = true := by simp [hz]
              have hm0 : bits BinOp.or IntKind.u64 (N : Int) (c.toNat : Int) = (M2 : Int) := by
                rw [← hm, IntKind.wrap_u64, hk00]
                congr 1
                omega
              clear hz hm hk00
              go_wp2
              go_ret3
              exact ⟨rfl, rfl⟩
            · have hb3 : ((c.toNat : Int) == 0) = false := by simpa using hz
              by_cases h1 : k = 9
              · have hb4 : ¬ (1 : Int) < (c.toNat : Int) := by omega
                have hb5 : ((k : Int) == 9) = true := by simp [h1]
                clear h1
                go_wp2
                go_ret3
                exact ⟨ret3_i S1.out, rfl⟩
              · have hb5 : ((k : Int) == 9) = false := by simp; omega
                go_wp2
                go_ret3
                exact ⟨ret3_i S1.out, rfl⟩
    · have hk9 : ¬ (k : Int) < 10 := by omega
      obtain rfl : k = 10 := by omega
      have hx : uintAt l n = .error 21 := by rw [← HE.out]; rfl
      have hr : R = .tuple #[.int .u64 0, .int .i64 0, .int .i64 21] := by rw [HR.out, hx]
      subst hr
      clear hx HR
      go_wp2
      go_ret3
      exact ⟨rfl, rfl⟩

set_option maxHeartbeats 1000000 in
theorem refUintF_any (v : Value) (l : List UInt8) (n : Int) (w : World) (hb : Bs w v l) (hl : l.length ≤ 1000000) :
    Calls Try.prog 88 #[v, .int .i64 n] w fun e w' => e = .returned (.tuple #[.int .u64 (uintRes l n).1, .int .i64 (uintRes l n).2.1, .int .i64 (uintRes l n).2.2]) ∧ w = w' := by
  unfold uintRes
  by_cases hn : n < 0 ∨ (l.length : Int) < n
  · rw [if_pos hn]
    obtain ⟨A, cap, rfl, -⟩ := hb
    by_cases h0 : n < 0
    · go_enter Try.func88, Try.ntmps88
      go_wp2
      go_ret3
      exact ⟨rfl, rfl⟩
    · have h1 : (l.length : Int) < n := by omega
      clear hn
      go_enter Try.func88, Try.ntmps88
      go_wp2
      go_ret3
      exact ⟨rfl, rfl⟩
  · rw [if_neg hn]
    obtain ⟨m, rfl⟩ : ∃ m : Nat, n = (m : Int) := ⟨n.toNat, by omega⟩
    rw [Int.toNat_natCast]
    refine (refUintF_good v l m w hb hl (by omega)).mono ?_
    rintro e w' ⟨rfl, rfl⟩
    cases uintAt l m with
    | error c => exact ⟨rfl, rfl⟩
    | ok p => exact ⟨rfl, rfl⟩

end Go.Proofs.Yteoodgcpkgfomaa
/-
  Codec: the reference's Int and Text.
-/
namespace Go.Proofs.Yteoodgcpkgfomaa
open Go.RowKit
set_option linter.unusedVariables false

theorem rdF_err : ∀ (f i N : Nat) (l : List UInt8) (c : Int), rdF f i N l = .error c → c = 20 ∨ c = 21
  | 0, i, N, l, c, h => by simp only [rdF] at h; cases h; exact .inr rfl
  | f + 1, i, N, [], c, h => by simp only [rdF] at h; cases h; exact .inl rfl
  | f + 1, i, N, b :: r, c, h => by
    simp only [rdF] at h
    split at h
    · exact rdF_err f (i + 1) _ r c h
    · split at h
      · cases h; exact .inr rfl
      · cases h
theorem uintAt_err {l : List UInt8} {n : Nat} {c : Int} (h : uintAt l n = .error c) : c = 20 ∨ c = 21 := rdF_err _ _ _ _ _ h

/-- How the three readers hang together. -/
theorem uintRes_cases (l : List UInt8) (n : Int) : ((n < 0 ∨ (l.length : Int) < n) ∧ uintRes l n = (0, 0, 1) ∧ intRes l n = (0, 0, 1)) ∨
    (∃ c, 0 ≤ n ∧ n ≤ (l.length : Int) ∧ uintAt l n.toNat = .error c ∧ (c = 20 ∨ c = 21) ∧ uintRes l n = (0, 0, c) ∧ intRes l n = (0, 0, c)) ∨
    (∃ N k, 0 ≤ n ∧ n ≤ (l.length : Int) ∧ uintAt l n.toNat = .ok (N, k) ∧ uintRes l n = (N, n.toNat + k, 0) ∧ intRes l n = (unzz N, n.toNat + k, 0)) := by
  unfold uintRes intRes
  by_cases hn : n < 0 ∨ (l.length : Int) < n
  · exact .inl ⟨hn, by rw [if_pos hn], by rw [if_pos hn]⟩
  · rw [if_neg hn, if_neg hn]
    cases hx : uintAt l n.toNat with
    | error c => exact .inr (.inl ⟨c, by omega, by omega, rfl, uintAt_err hx, rfl, rfl⟩)
    | ok p => exact .inr (.inr ⟨p.1, p.2, by omega, by omega, rfl, rfl, rfl⟩)

theorem ret3_0 {x y : Value} {a b : Int} (h : a = b) : Ending.returned (.tuple #[.int .i64 a, x, y]) = .returned (.tuple #[.int .i64 b, x, y]) := by rw [h]
theorem xor_i64_2 (a : Nat) (h : a < 9223372036854775808) : bits .xor .i64 (-1) (a : Int) = -(a : Int) - 1 := by
  have h1 : (BitVec.ofInt 64 (a : Int)).toNat = a := by
    rw [BitVec.ofInt_natCast, BitVec.toNat_ofNat]; exact Nat.mod_eq_of_lt (by omega)
  show IntKind.i64.wrap ((BitVec.ofInt 64 (-1) ^^^ BitVec.ofInt 64 (a : Int)).toNat : Int) = _
  have h0 : (BitVec.ofInt 64 (-1)).toNat = 18446744073709551615 := by decide
  rw [BitVec.toNat_xor, h1, h0, Nat.xor_comm, xor_ones a (by omega), IntKind.wrap_i64]
  omega
theorem half_i64 (N : Nat) (h : N < 18446744073709551616) : wrap64 ((N : Int) / 2) = ((N / 2 : Nat) : Int) := by unfold wrap64; omega

/-- Text, out of Uint. -/
theorem textRes_cases (l : List UInt8) (n most : Int) : ((n < 0 ∨ (l.length : Int) < n ∨ most < 0) ∧ textRes l n most = ([], 0, 1)) ∨
    (0 ≤ n ∧ n ≤ (l.length : Int) ∧ 0 ≤ most ∧ ((∃ c, uintAt l n.toNat = .error c ∧ (c = 20 ∨ c = 21) ∧ uintRes l n = (0, 0, c) ∧ textRes l n most = ([], 0, c)) ∨
    (∃ N k, uintAt l n.toNat = .ok (N, k) ∧ uintRes l n = (N, n.toNat + k, 0) ∧
      textRes l n most = if most.toNat < N then ([], 0, 2) else if l.length - (n.toNat + k) < N then ([], 0, 20) else ((l.drop (n.toNat + k)).take N, n.toNat + (k + N), 0)))) := by
  unfold uintRes textRes
  by_cases hn : n < 0 ∨ (l.length : Int) < n ∨ most < 0
  · exact .inl ⟨hn, by rw [if_pos hn]⟩
  · rw [if_neg hn, if_neg (by omega)]
    refine .inr ⟨by omega, by omega, by omega, ?_⟩
    unfold textAt
    cases hx : uintAt l n.toNat with
    | error c => exact .inl ⟨c, rfl, uintAt_err hx, rfl, rfl⟩
    | ok p =>
      refine .inr ⟨p.1, p.2, rfl, rfl, ?_⟩
      simp only
      by_cases h1 : most.toNat < p.1
      · rw [if_pos h1, if_pos h1]
      · rw [if_neg h1, if_neg h1]
        by_cases h2 : l.length - (n.toNat + p.2) < p.1
        · rw [if_pos h2, if_pos h2]
        · rw [if_neg h2, if_neg h2]

set_option maxRecDepth 100000 in
/-- 'string(b[a : a+N])' inside the length. -/
theorem run_part_string (w : World) (A : Option Addr) (cap a N : Nat) (l : List UInt8) (hb : Bs w (.slice A l.length cap) l) (hla : a + N ≤ l.length) (ha0 : 0 < a) :
    (∀ w', (Instr.slice 30 (.slice A l.length cap) (some (.int .i64 (a : Int))) (some (.int .i64 ((a + N : Nat) : Int))) none).run Try.prog w' = .ok (sliced A a (a + N) cap 1) w') ∧
    (convert 30 9 (sliced A a (a + N) cap 1)).run Try.prog w = .ok (strOf ((l.drop a).take N)) w := by
  have hbb := hb
  obtain ⟨A', cap', hv, h5, h6, h7, h8⟩ := hbb
  injection hv with e1 e2 e3
  subst e1 e3
  have hsz : ∀ w', (sizeOf (Try.prog.elem 30)).run Try.prog w' = .ok 1 w' := fun w' => by
    have hel : Try.prog.elem 30 = 5 := by kernel_rfl
    obtain ⟨i0, hi, hz0, hz1, hz2⟩ := info_parts info_byte
    rw [hel]
    simp [sizeOf, typeInfo, hi, hz1]
  have HA : ∃ g o, A = some ⟨g, o, none⟩ := by
    rcases A with _ | ad
    · have := (h7 rfl).1; omega
    · have h0 := h8 ad rfl 0 (bv (l[0]'(by omega))) (by rw [List.getElem?_map, List.getElem?_eq_getElem (by omega)]; rfl)
      obtain ⟨g, o, spot⟩ := ad
      have := World.cell?_spot h0
      have hs : spot = none := by simpa [Addr.add] using this
      subst hs
      exact ⟨g, o, rfl⟩
  obtain ⟨g, o, rfl⟩ := HA
  refine ⟨fun w' => run_slice_nat w' 30 Try.underlying30 hsz _ _ cap a (a + N) (by omega) (by omega), ?_⟩
  have hbs : Bs w (sliced (some ⟨g, o, none⟩) a (a + N) cap 1) ((l.drop a).take N) := by
    unfold sliced
    by_cases hca : cap = a
    · have hN0 : N = 0 := by omega
      subst hN0
      rw [if_pos hca, List.take_zero, hca, Nat.add_zero, Nat.sub_self]
      exact bs_part0 hb
    · rw [if_neg hca, Nat.mul_one, Nat.add_sub_cancel_left]
      have h9 := bs_part hb a N hla
      rw [← add_lit0] at h9
      exact h9
  exact run_string_bs (P := Try.prog) 30 9 5 hbs Try.underlying30 Try.underlying5 Try.underlying9

set_option maxRecDepth 100000 in
set_option maxHeartbeats 2000000 in
theorem refTextF_any (v : Value) (l : List UInt8) (n most : Int) (w : World) (hb : Bs w v l) (hl : l.length ≤ 1000000) (hm : most ≤ 9223372036854775807) :
    Calls Try.prog 81 #[v, .int .i64 n, .int .i64 most] w fun e w' => e = .returned (.tuple #[strOf (textRes l n most).1, .int .i64 (textRes l n most).2.1, .int .i64 (textRes l n most).2.2]) ∧ w = w' := by
  have HB := Lib.hid hb
  obtain ⟨A, cap, rfl, hlc, -⟩ := hb
  rcases textRes_cases l n most with ⟨h0, h2⟩ | ⟨h0, h00, hm0, ⟨c, -, hc, h1, h2⟩ | ⟨N, k, hx, h1, h2⟩⟩
  · rw [h2]
    clear h2
    by_cases q0 : n < 0
    · go_enter Try.func81, Try.ntmps81
      go_wp2
      go_ret3
      exact ⟨rfl, rfl⟩
    · by_cases q1 : (l.length : Int) < n
      · clear h0
        go_enter Try.func81, Try.ntmps81
        go_wp2
        go_ret3
        exact ⟨rfl, rfl⟩
      · have q2 : most < 0 := by omega
        clear h0
        go_enter Try.func81, Try.ntmps81
        go_wp2
        go_ret3
        exact ⟨rfl, rfl⟩
  · rw [h2]
    have H1 := Lib.hid h1
    have hc1 : (c != 0) = true := by simp; omega
    have q0 : ¬ n < 0 := by omega
    have q1 : ¬ (l.length : Int) < n := by omega
    have q2 : ¬ most < 0 := by omega
    clear h1 h2 hc
    go_enter Try.func81, Try.ntmps81
    go_wp2_with fail
    refine (refUintF_any _ l n w HB.out hl).mono ?_
    rw [H1.out]
    rintro e w' ⟨rfl, rfl⟩
    go_wp2
    go_ret3
    exact ⟨rfl, rfl⟩
  · obtain ⟨hN, hk0, hk10, hkl⟩ := uintAt_ok hx
    obtain ⟨m, rfl⟩ : ∃ m : Nat, n = (m : Int) := ⟨n.toNat, by omega⟩
    obtain ⟨q, rfl⟩ : ∃ q : Nat, most = (q : Int) := ⟨most.toNat, by omega⟩
    rw [Int.toNat_natCast, Int.toNat_natCast] at h2
    rw [Int.toNat_natCast] at h1 hkl
    have q0 : ¬ (m : Int) < 0 := by omega
    have q1 : ¬ (l.length : Int) < (m : Int) := by omega
    have q2 : ¬ (q : Int) < 0 := by omega
    have hwm : IntKind.u64.wrap (q : Int) = (q : Int) := by rw [IntKind.wrap_u64]; omega
    have H1 := Lib.hid h1
    clear h1 hx
    by_cases p1 : q < N
    · rw [if_pos p1] at h2
      rw [h2]
      have p1' : (q : Int) < (N : Int) := by omega
      generalize m + k = mk at H1
      clear h2
      go_enter Try.func81, Try.ntmps81
      go_wp2_with fail
      refine (refUintF_any _ l m w HB.out hl).mono ?_
      rw [H1.out]
      rintro e w' ⟨rfl, rfl⟩
      go_wp2
      go_ret3
      exact ⟨rfl, rfl⟩
    · rw [if_neg p1] at h2
      have p1' : ¬ (q : Int) < (N : Int) := by omega
      have ha0 : 0 < m + k := by omega
      have hak : m + k ≤ l.length := by omega
      rw [← Nat.add_assoc] at h2
      generalize m + k = a at H1 h2 ha0 hak
      have d1 : IntKind.u64.wrap (IntKind.i64.wrap ((l.length : Int) - (a : Int))) = ((l.length - a : Nat) : Int) := by rw [IntKind.wrap_u64, IntKind.wrap_i64]; omega
      have d1b : IntKind.u64.wrap ((l.length : Int) - (a : Int)) = ((l.length - a : Nat) : Int) := by rw [IntKind.wrap_u64]; omega
      by_cases p2 : l.length - a < N
      · rw [if_pos p2] at h2
        rw [h2]
        have d2 : decide (l.length - a < N) = true := by simpa using p2
        have d3 : (l.length : Int) - (a : Int) < (N : Int) := by omega
        clear h2
        go_enter Try.func81, Try.ntmps81
        go_wp2_with fail
        refine (refUintF_any _ l m w HB.out hl).mono ?_
        rw [H1.out]
        rintro e w' ⟨rfl, rfl⟩
        go_wp2
        go_ret3
        exact ⟨rfl, rfl⟩
      · rw [if_neg p2] at h2
        rw [h2]
        have d2 : decide (l.length - a < N) = false := by simpa using p2
        have d3 : ¬ (l.length : Int) - (a : Int) < (N : Int) := by omega
        have hla : a + N ≤ l.length := by omega
        obtain ⟨t1, t2⟩ := run_part_string w A cap a N l HB.out hla ha0
        have hst : ∃ S : ByteArray, strOf ((l.drop a).take N) = .string S := ⟨_, rfl⟩
        obtain ⟨S, hst⟩ := hst
        rw [hst] at t2
        have e1 : ((a : Int) + (N : Int)) = ((a + N : Nat) : Int) := by omega
        have hs1 : (a : Int) + (N : Int) ≤ 1000000 := by omega
        rw [hst]
        have E1 := Lib.hid e1
        clear h2 hst t1 e1
        unfold sliced at t2
        by_cases hca : cap = a
        · rw [if_pos hca, Nat.add_sub_cancel_left] at t2
          subst hca
          rw [Nat.sub_self] at t2
          go_enter Try.func81, Try.ntmps81
          go_wp2_with fail
          refine (refUintF_any _ l m w HB.out hl).mono ?_
          rw [H1.out]
          rintro e w' ⟨rfl, rfl⟩
          go_wp2
          go_ret3
          exact ⟨ret3_i E1.out, rfl⟩
        · rw [if_neg hca, Nat.add_sub_cancel_left, Nat.mul_one] at t2
          go_enter Try.func81, Try.ntmps81
          go_wp2_with fail
          refine (refUintF_any _ l m w HB.out hl).mono ?_
          rw [H1.out]
          rintro e w' ⟨rfl, rfl⟩
          go_wp2
          go_ret3
          exact ⟨ret3_i E1.out, rfl⟩

end Go.Proofs.Yteoodgcpkgfomaa
/-
  Codec: the plain law: what was written is read, what was read is written so, and a beginning of it is too short. No program in sight.
-/
namespace Go.Proofs.Yteoodgcpkgfomaa
open Go.RowKit
set_option linter.unusedVariables false

theorem pow7 (i : Nat) : 2 ^ (7 * (i + 1)) = 128 * 2 ^ (7 * i) := by rw [show 7 * (i + 1) = 7 * i + 7 by omega, Nat.pow_add]; omega
theorem ofNat_toNat_lt (n : Nat) (h : n < 256) : (UInt8.ofNat n).toNat = n := by rw [UInt8.toNat_ofNat']; omega

/-- What was read is written so. -/
theorem rdF_one : ∀ (f i N : Nat) (l : List UInt8) (M k : Nat), f + i = 10 → N < 2 ^ (7 * i) → rdF f i N l = .ok (M, k) →
    ∃ Q : Nat, M = N + Q * 2 ^ (7 * i) ∧ i < k ∧ l.take (k - i) = leb Q ∧ (0 < i → Q ≠ 0)
  | 0, i, N, l, M, k, _, _, h => by simp [rdF] at h
  | f + 1, i, N, [], M, k, _, _, h => by simp [rdF] at h
  | f + 1, i, N, c :: r, M, k, hf, hN, h => by
    have hM := rdF_ok (f + 1) i N (c :: r) M k hf hN h
    have h5 := pow7 i
    have c256 : c.toNat < 256 := c.toNat_lt
    simp only [rdF] at h
    split at h
    · rename_i h1
      have h4 : (c.toNat - 128) * 2 ^ (7 * i) ≤ 127 * 2 ^ (7 * i) := Nat.mul_le_mul_right _ (by omega)
      obtain ⟨Q, q1, q2, q3, q4⟩ := rdF_one f (i + 1) _ r M k (by omega) (by omega) h
      have hQ := q4 (by omega)
      have e2 : (128 * Q + (c.toNat - 128)) * 2 ^ (7 * i) = (c.toNat - 128) * 2 ^ (7 * i) + Q * 2 ^ (7 * (i + 1)) := by
        rw [h5, Nat.add_mul, Nat.mul_comm 128 Q, Nat.mul_assoc]
        omega
      have hlt : 128 * Q + (c.toNat - 128) < 18446744073709551616 := by
        have h6 : (128 * Q + (c.toNat - 128)) * 1 ≤ (128 * Q + (c.toNat - 128)) * 2 ^ (7 * i) := Nat.mul_le_mul_left _ (Nat.two_pow_pos _)
        have := hM.1
        omega
      refine ⟨128 * Q + (c.toNat - 128), by rw [e2, q1]; omega, by omega, ?_, fun _ => by omega⟩
      rw [show k - i = (k - (i + 1)) + 1 by omega, List.take_succ_cons, q3, leb_step _ (by omega) hlt]
      have e3 : (128 * Q + (c.toNat - 128)) % 128 + 128 = c.toNat := by omega
      have e4 : (128 * Q + (c.toNat - 128)) / 128 = Q := by omega
      rw [e3, e4, UInt8.ofNat_toNat]
    · rename_i h1
      split at h
      · cases h
      · rename_i h2
        simp only [Except.ok.injEq, Prod.mk.injEq] at h
        obtain ⟨rfl, rfl⟩ := h
        refine ⟨c.toNat, rfl, by omega, ?_, fun h => by omega⟩
        rw [show i + 1 - i = 1 by omega, leb_small _ (by omega), UInt8.ofNat_toNat]
        rfl
theorem uint_one {l : List UInt8} {N k : Nat} (h : uintAt l 0 = .ok (N, k)) : l.take k = leb N := by
  obtain ⟨Q, q1, q2, q3, -⟩ := rdF_one 10 0 0 (l.drop 0) N k rfl (by decide) h
  have : N = Q := by omega
  subst this
  simpa using q3

/-- What was written is read. -/
theorem rdF_ret : ∀ (f i N Q : Nat) (r : List UInt8), f + i = 10 → i ≤ 9 → (0 < i → Q ≠ 0) → Q * 2 ^ (7 * i) < 18446744073709551616 → rdF f i N (leb Q ++ r) = .ok (N + Q * 2 ^ (7 * i), i + (leb Q).length)
  | 0, i, N, Q, r, hf, hi, _, _ => by omega
  | f + 1, i, N, Q, r, hf, hi, h0, hQ => by
    have hQ64 : Q < 18446744073709551616 := by
      have h6 : Q * 1 ≤ Q * 2 ^ (7 * i) := Nat.mul_le_mul_left _ (Nat.two_pow_pos _)
      omega
    by_cases hs : Q < 128
    · rw [leb_small Q hs]
      simp only [List.cons_append, List.nil_append, rdF, ofNat_toNat_lt Q (by omega)]
      rw [if_neg (by omega), if_neg]
      · simp
      · rintro (⟨h1, h2⟩ | ⟨h1, h2⟩)
        · exact h0 h2 h1
        · subst h2
          have : 2 * 2 ^ (7 * 9) ≤ Q * 2 ^ (7 * 9) := Nat.mul_le_mul_right _ (by omega)
          omega
    · rw [leb_step Q (by omega) hQ64]
      have h5 := pow7 i
      have hi8 : i ≤ 8 := by
        rcases Nat.lt_or_ge i 9 with h | h
        · omega
        · obtain rfl : i = 9 := by omega
          have : 128 * 2 ^ (7 * 9) ≤ Q * 2 ^ (7 * 9) := Nat.mul_le_mul_right _ (by omega)
          omega
      have e1 : Q / 128 * 2 ^ (7 * (i + 1)) ≤ Q * 2 ^ (7 * i) := by
        rw [h5, ← Nat.mul_assoc]
        exact Nat.mul_le_mul_right _ (by omega)
      have ih := rdF_ret f (i + 1) (N + (Q % 128 + 128 - 128) * 2 ^ (7 * i)) (Q / 128) r (by omega) (by omega) (fun _ => by omega) (by omega)
      simp only [List.cons_append, rdF, ofNat_toNat_lt (Q % 128 + 128) (by omega)]
      rw [if_pos (by omega), ih]
      have e2 : N + (Q % 128 + 128 - 128) * 2 ^ (7 * i) + Q / 128 * 2 ^ (7 * (i + 1)) = N + Q * 2 ^ (7 * i) := by
        have e3 : Q % 128 + 128 - 128 + Q / 128 * 128 = Q := by omega
        rw [h5, ← Nat.mul_assoc, Nat.add_assoc, ← Nat.add_mul, e3]
      rw [e2]
      simp only [List.length_cons]
      congr 2
      omega
theorem uint_ret (N : Nat) (r : List UInt8) (h : N < 18446744073709551616) : uintAt (leb N ++ r) 0 = .ok (N, (leb N).length) := by
  have := rdF_ret 10 0 0 N r rfl (by omega) (by omega) (by omega)
  unfold uintAt
  rw [List.drop_zero, this]
  simp

/-- A beginning is too short. -/
theorem rdF_cut : ∀ (f i N Q m : Nat), f + i = 10 → i ≤ 9 → Q * 2 ^ (7 * i) < 18446744073709551616 → m < (leb Q).length → rdF f i N ((leb Q).take m) = .error 20
  | 0, i, N, Q, m, hf, hi, _, _ => by omega
  | f + 1, i, N, Q, 0, hf, hi, hQ, hm => by simp [rdF]
  | f + 1, i, N, Q, m + 1, hf, hi, hQ, hm => by
    have hQ64 : Q < 18446744073709551616 := by
      have h6 : Q * 1 ≤ Q * 2 ^ (7 * i) := Nat.mul_le_mul_left _ (Nat.two_pow_pos _)
      omega
    by_cases hs : Q < 128
    · rw [leb_small Q hs] at hm
      simp at hm
    · rw [leb_step Q (by omega) hQ64] at hm ⊢
      have h5 := pow7 i
      have hi8 : i ≤ 8 := by
        rcases Nat.lt_or_ge i 9 with h | h
        · omega
        · obtain rfl : i = 9 := by omega
          have : 128 * 2 ^ (7 * 9) ≤ Q * 2 ^ (7 * 9) := Nat.mul_le_mul_right _ (by omega)
          omega
      have e1 : Q / 128 * 2 ^ (7 * (i + 1)) ≤ Q * 2 ^ (7 * i) := by
        rw [h5, ← Nat.mul_assoc]
        exact Nat.mul_le_mul_right _ (by omega)
      have ih := rdF_cut f (i + 1) (N + (Q % 128 + 128 - 128) * 2 ^ (7 * i)) (Q / 128) m (by omega) (by omega) (by omega) (by simpa using hm)
      simp only [List.take_succ_cons, rdF, ofNat_toNat_lt (Q % 128 + 128) (by omega)]
      rw [if_pos (by omega), ih]
theorem uint_cut (N m : Nat) (h : N < 18446744073709551616) (hm : m < (leb N).length) : uintAt ((leb N).take m) 0 = .error 20 := by
  unfold uintAt
  rw [List.drop_zero]
  exact rdF_cut 10 0 0 N m rfl (by omega) (by omega) hm

/-- Only what stands from the index on matters. -/
theorem uintAt_drop (l : List UInt8) (n : Nat) : uintAt l n = uintAt (l.drop n) 0 := by unfold uintAt; rw [List.drop_zero]
theorem uintAt_drop2 (l : List UInt8) (n m : Nat) : uintAt (l.drop n) m = uintAt l (n + m) := by unfold uintAt; rw [List.drop_drop]
theorem textAt_drop2 (l : List UInt8) (n m most : Nat) : textAt (l.drop n) m most = textAt l (n + m) most := by
  unfold textAt
  rw [uintAt_drop2]
  cases uintAt l (n + m) with
  | error c => rfl
  | ok p =>
    simp only
    rw [List.drop_drop, List.length_drop, show l.length - n - (m + p.2) = l.length - (n + m + p.2) by omega, show n + (m + p.2) = n + m + p.2 by omega]
theorem text_ret (s r : List UInt8) (most : Nat) (h : s.length < 18446744073709551616) (hm : s.length ≤ most) : textAt (leb s.length ++ (s ++ r)) 0 most = .ok (s, (leb s.length).length + s.length) := by
  unfold textAt
  rw [uint_ret _ _ h]
  simp only
  rw [if_neg (by omega), if_neg (by simp only [List.length_append]; omega), Nat.zero_add, List.drop_left, List.take_left]

/-- Where two lists part. -/
theorem take_len_lt {a b : List UInt8} {m : Nat} (h : m ≤ a.length) : (a ++ b).take m = a.take m := by rw [List.take_append_of_le_length h]
theorem take_len_ge {a b : List UInt8} {m : Nat} (h : a.length ≤ m) : (a ++ b).take m = a ++ b.take (m - a.length) := by
  rw [List.take_append, List.take_of_length_le h]

theorem text_cut (s : List UInt8) (most m : Nat) (h : s.length < 18446744073709551616) (hm : s.length ≤ most) (hc : m < (leb s.length).length + s.length) : textAt ((leb s.length ++ s).take m) 0 most = .error 20 := by
  unfold textAt
  by_cases hq : m < (leb s.length).length
  · rw [take_len_lt (by omega), uint_cut _ _ h hq]
  · rw [take_len_ge (by omega), uint_ret _ _ h]
    simp only
    rw [if_neg (by omega), if_pos]
    simp only [List.length_append, List.length_take]
    omega

theorem sbytes_nil (s : ByteArray) (h : s.toList.isEmpty = true) : s = ⟨#[]⟩ := by
  rw [List.isEmpty_iff, Lib.toList_data] at h
  obtain ⟨d⟩ := s
  simp only [ByteArray.mk.injEq]
  exact Array.toList_eq_nil_iff.1 h
theorem empty_ba : (⟨#[]⟩ : ByteArray).toList.isEmpty = true := by rw [Lib.toList_data]; rfl
theorem size_sbytes (s : ByteArray) : s.size = (sbytes s).length := (sbytes_length s).symm
theorem mk_sbytes (s : ByteArray) : (⟨(sbytes s).toArray⟩ : ByteArray) = s := by obtain ⟨d⟩ := s; rfl

theorem cons_drop (c : UInt8) (r : List UInt8) : (c :: r).drop 1 = r := rfl
theorem uintAt_cons (c : UInt8) (r : List UInt8) : uintAt (c :: r) 1 = uintAt r 0 := rfl
theorem textAt_cons (c : UInt8) (r : List UInt8) (most : Nat) : textAt (c :: r) 1 most = textAt r 0 most := by
  have := textAt_drop2 (c :: r) 1 0 most
  exact this.symm

end Go.Proofs.Yteoodgcpkgfomaa
