/-
  Contracts and plain laws that the claim's theorem rests on, some texts in one file.
-/
import Derived.Test.YtffdaohmalmkfaaGreatM40
/-
  Codec: Int, Text, Row with their deferred closures. (Printed by gen_door.py.)
-/
namespace Go.Proofs.YtffdaohmalmkfaaGreat
open Go.RowKit
set_option linter.unusedVariables false

/-- The three named results, in blocks of their own. -/
structure DoorT (T : TypeId) (w wx : World) (a b c : Value) : Prop where
  k : Kept Kno w wx
  b0 : Blk wx w.heap.size T #[a]
  b1 : Blk wx (w.heap.size + 1) 3 #[b]
  b2 : Blk wx (w.heap.size + 1 + 1) 40 #[c]
section
variable {T : TypeId}
theorem doorT_new (T : TypeId) (w : World) (a b c : Value) : DoorT T w (((w.alloc (.cells #[a] T)).alloc (.cells #[b] 3)).alloc (.cells #[c] 40)) a b c := by
  refine ⟨(((Kept.refl _ w).alloc _).alloc _).alloc _, ((Blk.new w _ _).alloc _).alloc _, ?_, ?_⟩
  · have h := (Blk.new (w.alloc (.cells #[a] T)) 3 #[b]).alloc (.cells #[c] 40)
    have e : (w.alloc (.cells #[a] T)).heap.size = w.heap.size + 1 := by simp
    rw [e] at h
    exact h
  · have h := Blk.new ((w.alloc (.cells #[a] T)).alloc (.cells #[b] 3)) 40 #[c]
    have e : ((w.alloc (.cells #[a] T)).alloc (.cells #[b] 3)).heap.size = w.heap.size + 1 + 1 := by simp
    rw [e] at h
    exact h
theorem DoorT.kept {w wx wy : World} {a b c : Value} {S : Nat → Prop} (h : DoorT T w wx a b c) (hk : Kept S wx wy) (hS : ∀ k, k ≤ w.heap.size + 2 → ¬ S k) : DoorT T w wy a b c :=
  ⟨h.k.trans hk (fun i hi hs => absurd hs (hS i (by omega))), h.b0.kept hk (hS _ (by omega)), h.b1.kept hk (hS _ (by omega)), h.b2.kept hk (hS _ (by omega))⟩
theorem DoorT.set {w wx : World} {a b c a' b' c' : Value} (h : DoorT T w wx a b c) : DoorT T w (((wx.setCell ⟨w.heap.size, 0, none⟩ a').setCell ⟨w.heap.size + 1, 0, none⟩ b').setCell ⟨w.heap.size + 1 + 1, 0, none⟩ c') a' b' c' := by
  refine ⟨?_, ?_, ?_, ?_⟩
  · exact ((h.k.setNew (p := ⟨w.heap.size, 0, none⟩) (Nat.le_refl _) _).setNew (p := ⟨w.heap.size + 1, 0, none⟩) (by simp) _).setNew (p := ⟨w.heap.size + 1 + 1, 0, none⟩) (by simp; omega) _
  · exact ((h.b0.set_ 0 a').far (by simp) _).far (by simp; omega) _
  · exact ((h.b1.far (by simp) _).set_ 0 b').far (by simp) _
  · exact ((h.b2.far (by simp; omega) _).far (by simp) _).set_ 0 c'
theorem DoorT.set1 {w wx : World} {a b c a' : Value} (h : DoorT T w wx a b c) : DoorT T w (wx.setCell ⟨w.heap.size, 0, none⟩ a') a' b c :=
  ⟨h.k.setNew (p := ⟨w.heap.size, 0, none⟩) (Nat.le_refl _) _, h.b0.set_ 0 a', h.b1.far (by simp) _, h.b2.far (by simp; omega) _⟩
end
/-- The blocks of the three named results. -/
def Door3 (w : World) : Nat → Prop := fun k => w.heap.size ≤ k ∧ k ≤ w.heap.size + 1 + 1
theorem door3_0 (w : World) : Door3 w w.heap.size := ⟨Nat.le_refl _, by omega⟩
theorem door3_1 (w : World) : Door3 w (w.heap.size + 1) := ⟨by omega, by omega⟩
theorem door3_2 (w : World) : Door3 w (w.heap.size + 1 + 1) := ⟨by omega, by omega⟩
def DoorOk (w : World) (X : Value → World → Prop) (nk : Nat) (e : Ending) (w' : World) : Prop := ∃ (V : Value) (w2 : World), e = .returned (.tuple #[V, .int .i64 (nk : Int), .int .i64 0]) ∧ X V w2 ∧ Kept (Door3 w) w2 w' ∧ Kept Kno w w'

set_option maxHeartbeats 1000000 in
theorem intD_panicking (p q r : Addr) (x : Int) (y z c : Int) (older : List PanicEntry) (w : World) (h1 : w.cell? p = some (.int .i64 x)) (f1 : w.frozen? p = false) (h2 : w.cell? q = some (.int .i64 y)) (f2 : w.frozen? q = false) (h3 : w.cell? r = some (.int .i64 z)) (f3 : w.frozen? r = false) (hpq : p.block ≠ q.block) (hpr : p.block ≠ r.block) (hqr : q.block ≠ r.block) :
    CallsD Tryz.prog 188 #[.pointer (some p), .pointer (some q), .pointer (some r)] (.panicking ({ v := .iface 40 (.int .i64 c), recovered := false } :: older)) w fun e u' w' =>
      e = .returned (.tuple #[]) ∧ u' = .panicking ({ v := .iface 40 (.int .i64 c), recovered := true } :: older) ∧ w' = ((w.setCell p (.int .i64 0)).setCell q (.int .i64 0)).setCell r (.int .i64 c) := by
  have g2 : (w.setCell p (.int .i64 0)).cell? q = some (.int .i64 y) := (World.cell?_setCell_far _ _ _ _ hpq).trans h2
  have g3 : ((w.setCell p (.int .i64 0)).setCell q (.int .i64 0)).cell? r = some (.int .i64 z) := (World.cell?_setCell_far _ _ _ _ hqr).trans ((World.cell?_setCell_far _ _ _ _ hpr).trans h3)
  have k2 : (w.setCell p (.int .i64 0)).frozen? q = false := (World.frozen?_setCell _ _ _ _).trans f2
  have k3 : ((w.setCell p (.int .i64 0)).setCell q (.int .i64 0)).frozen? r = false := (World.frozen?_setCell _ _ _ _).trans ((World.frozen?_setCell _ _ _ _).trans f3)
  refine callsD_of_wpS Tryz.func188 rfl fun c₀ cs hu => ?_
  apply wpS_seq
  apply wpS_region
  simp [wpOpsS, go_sem, recoverD, hu, Tryz.ntmps188, Exit.thenS, assert_is]
  apply wpS_seq
  apply wpS_region
  simp [wpOpsS, go_sem, Exit.thenS]
  refine wpS_cond (t := true) (by simp [Act.eval, Array.replicate]) ?_
  simp only [if_true]
  apply wpS_region
  simp [wpOpsS, go_sem, h1, f1, g2, g3, k2, k3, bodyPostS, results, Tryz.results188]

set_option maxHeartbeats 1000000 in
theorem intD_idle (p q r : Addr) (w : World) :
    CallsD Tryz.prog 188 #[.pointer (some p), .pointer (some q), .pointer (some r)] .returning w fun e u' w' => e = .returned (.tuple #[]) ∧ u' = .returning ∧ w' = w := by
  refine callsD_of_wpS Tryz.func188 rfl fun c₀ cs hu => ?_
  apply wpS_seq
  apply wpS_region
  simp [wpOpsS, go_sem, recoverD, hu, Tryz.ntmps188, Exit.thenS, assert_nil]
  apply wpS_seq
  apply wpS_region
  simp [wpOpsS, go_sem, Exit.thenS]
  refine wpS_cond (t := false) (by simp [Act.eval, Array.replicate]) ?_
  simp only [Bool.false_eq_true, if_false]
  refine wpS_of_wp (wp_skip ?_)
  cases c₀
  simp_all [bodyPostS, results, Tryz.results188]

set_option maxHeartbeats 1000000 in
theorem intF_bad (v : Value) (l : List UInt8) (n : Int) (w : World) (hb : Bs w v l) (hn : n < 0 ∨ (l.length : Int) < n) :
    Calls Tryz.prog 96 #[v, .int .i64 n] w fun e w' => e = .returned (.tuple #[.int .i64 0, .int .i64 0, .int .i64 1]) ∧ Kept Kno w w' := by
  have HB := Lib.hid hb
  obtain ⟨A, cap, rfl, -⟩ := hb
  have hmf : ∀ (fn : Fn) (first cap : Array Value) (w : World), (Instr.makeFunc fn first cap).run Tryz.prog w = .ok (.func fn first cap) w := fun _ _ _ _ => rfl
  have HN := Lib.hid hn
  clear hn
  go_enter_defers Tryz.func96, Tryz.ntmps96
  go_wp2_with fail
  have hd := doorT_new 2 w (.int .i64 0) (.int .i64 0) (.int .i64 0)
  generalize (((w.alloc (.cells #[.int .i64 0] 2)).alloc (.cells #[.int .i64 0] 3)).alloc (.cells #[.int .i64 0] 40)) = wx at hd ⊢
  refine (begin_bad _ l n wx (HB.out.kept0 hd.k) HN.out).mono ?_
  rintro e w1 ⟨rfl, rfl⟩
  refine leaves_cons (f := 188) (args := #[.pointer (some ⟨w.heap.size, 0, none⟩), .pointer (some ⟨w.heap.size + 1, 0, none⟩), .pointer (some ⟨w.heap.size + 1 + 1, 0, none⟩)]) (by simp) (by simp [go_sem]) ?_
  refine (intD_panicking _ _ _ 0 0 0 1 [] _ (hd.b0.cell 0) (hd.b0.frozen 0) (hd.b1.cell 0) (hd.b1.frozen 0) (hd.b2.cell 0) (hd.b2.frozen 0) (by simp) (by simp; omega) (by simp)).mono ?_
  rintro e u' w'' ⟨rfl, rfl, rfl⟩
  have hd3 := hd.set (a' := .int .i64 0) (b' := .int .i64 0) (c' := .int .i64 1)
  generalize (((wx.setCell ⟨w.heap.size, 0, none⟩ (.int .i64 0)).setCell ⟨w.heap.size + 1, 0, none⟩ (.int .i64 0)).setCell ⟨w.heap.size + 1 + 1, 0, none⟩ (.int .i64 1)) = wy at hd3 ⊢
  have e0 : wy.cell? ⟨w.heap.size, 0, none⟩ = some (.int .i64 0) := hd3.b0.cell 0
  have e1 : wy.cell? ⟨w.heap.size + 1, 0, none⟩ = some (.int .i64 0) := hd3.b1.cell 0
  have e2 : wy.cell? ⟨w.heap.size + 1 + 1, 0, none⟩ = some (.int .i64 1) := hd3.b2.cell 0
  have hk := hd3.k
  clear hd hd3
  simp [Leaves, settle, results, Tryz.results96, go_sem, e0, e1, e2, hk]

set_option maxHeartbeats 2000000 in
theorem intF_err (v : Value) (l : List UInt8) (n : Nat) (c : Int) (w : World) (hb : Bs w v l) (hn : n ≤ l.length)
    (hdec : ∀ (D : Nat) (w1 : World), Rdr w1 D v n → Bs w1 v l → Calls Tryz.prog 190 #[.pointer (some ⟨D, 0, none⟩)] w1 fun e w2 => Kept (Kone D) w1 w2 ∧ e = Pan c) :
    Calls Tryz.prog 96 #[v, .int .i64 n] w fun e w' => e = .returned (.tuple #[.int .i64 0, .int .i64 0, .int .i64 c]) ∧ Kept Kno w w' := by
  have HB := Lib.hid hb
  obtain ⟨A, cap, rfl, -⟩ := hb
  have hmf : ∀ (fn : Fn) (first cap : Array Value) (w : World), (Instr.makeFunc fn first cap).run Tryz.prog w = .ok (.func fn first cap) w := fun _ _ _ _ => rfl
  have HX := Lib.hid hdec
  clear hdec
  go_enter_defers Tryz.func96, Tryz.ntmps96
  go_wp2_with fail
  have hd := doorT_new 2 w (.int .i64 0) (.int .i64 0) (.int .i64 0)
  generalize (((w.alloc (.cells #[.int .i64 0] 2)).alloc (.cells #[.int .i64 0] 3)).alloc (.cells #[.int .i64 0] 40)) = wx at hd ⊢
  have HD := Lib.hid hd
  clear hd
  refine (begin_ok _ l n wx (HB.out.kept0 HD.out.k) hn).mono ?_
  rintro e w1 ⟨rfl, hw1⟩
  have hr1 : Rdr w1 wx.heap.size (.slice A l.length cap) n := by rw [hw1]; exact Blk.new _ _ _
  have hd1 : DoorT 2 w w1 (.int .i64 0) (.int .i64 0) (.int .i64 0) := by rw [hw1]; exact HD.out.kept ((Kept.refl Kno wx).alloc _) (fun _ _ h => h)
  have hlt : w.heap.size + 1 + 1 < wx.heap.size := HD.out.b2.lt
  have HR1 := Lib.hid hr1
  have HD1 := Lib.hid hd1
  clear hw1 hr1 hd1
  go_wp2_with fail
  refine (HX.out wx.heap.size w1 HR1.out (HB.out.kept0 HD1.out.k)).mono ?_
  rintro e w2 ⟨hk2, rfl⟩
  have hd2 := HD1.out.kept hk2 (fun k hk h => by unfold Kone at h; omega)
  refine leaves_cons (f := 188) (args := #[.pointer (some ⟨w.heap.size, 0, none⟩), .pointer (some ⟨w.heap.size + 1, 0, none⟩), .pointer (some ⟨w.heap.size + 1 + 1, 0, none⟩)]) (by simp) (by simp [go_sem]) ?_
  refine (intD_panicking _ _ _ 0 0 0 c [] _ (hd2.b0.cell 0) (hd2.b0.frozen 0) (hd2.b1.cell 0) (hd2.b1.frozen 0) (hd2.b2.cell 0) (hd2.b2.frozen 0) (by simp) (by simp; omega) (by simp)).mono ?_
  rintro e u' w'' ⟨rfl, rfl, rfl⟩
  have hd3 := hd2.set (a' := .int .i64 0) (b' := .int .i64 0) (c' := .int .i64 c)
  generalize (((w2.setCell ⟨w.heap.size, 0, none⟩ (.int .i64 0)).setCell ⟨w.heap.size + 1, 0, none⟩ (.int .i64 0)).setCell ⟨w.heap.size + 1 + 1, 0, none⟩ (.int .i64 c)) = wy at hd3 ⊢
  have e0 : wy.cell? ⟨w.heap.size, 0, none⟩ = some (.int .i64 0) := hd3.b0.cell 0
  have e1 : wy.cell? ⟨w.heap.size + 1, 0, none⟩ = some (.int .i64 0) := hd3.b1.cell 0
  have e2 : wy.cell? ⟨w.heap.size + 1 + 1, 0, none⟩ = some (.int .i64 c) := hd3.b2.cell 0
  have hk := hd3.k
  clear hd2 hd3
  simp [Leaves, settle, results, Tryz.results96, go_sem, e0, e1, e2, hk]

set_option maxHeartbeats 2000000 in
theorem intF_ok (v : Value) (l : List UInt8) (n nk : Nat) (w : World) (X : Value → World → Prop) (hb : Bs w v l) (hn : n ≤ l.length)
    (hdec : ∀ (D : Nat) (w1 : World), w.heap.size + 1 + 1 < D → D < w1.heap.size → Rdr w1 D v n → Bs w1 v l → Calls Tryz.prog 190 #[.pointer (some ⟨D, 0, none⟩)] w1 fun e w2 => Kept (Kone D) w1 w2 ∧ ∃ Z, e = .returned (.int .i64 Z) ∧ Rdr w2 D v nk ∧ X (.int .i64 Z) w2) :
    Calls Tryz.prog 96 #[v, .int .i64 n] w (DoorOk w X nk) := by
  have HB := Lib.hid hb
  obtain ⟨A, cap, rfl, -⟩ := hb
  have hmf : ∀ (fn : Fn) (first cap : Array Value) (w : World), (Instr.makeFunc fn first cap).run Tryz.prog w = .ok (.func fn first cap) w := fun _ _ _ _ => rfl
  have HX := Lib.hid hdec
  clear hdec
  go_enter_defers Tryz.func96, Tryz.ntmps96
  go_wp2_with fail
  have hd := doorT_new 2 w (.int .i64 0) (.int .i64 0) (.int .i64 0)
  generalize (((w.alloc (.cells #[.int .i64 0] 2)).alloc (.cells #[.int .i64 0] 3)).alloc (.cells #[.int .i64 0] 40)) = wx at hd ⊢
  have HD := Lib.hid hd
  clear hd
  refine (begin_ok _ l n wx (HB.out.kept0 HD.out.k) hn).mono ?_
  rintro e w1 ⟨rfl, hw1⟩
  have hr1 : Rdr w1 wx.heap.size (.slice A l.length cap) n := by rw [hw1]; exact Blk.new _ _ _
  have hd1 : DoorT 2 w w1 (.int .i64 0) (.int .i64 0) (.int .i64 0) := by rw [hw1]; exact HD.out.kept ((Kept.refl Kno wx).alloc _) (fun _ _ h => h)
  have hlt : w.heap.size + 1 + 1 < wx.heap.size := HD.out.b2.lt
  have HR1 := Lib.hid hr1
  have HD1 := Lib.hid hd1
  clear hw1 hr1 hd1
  go_wp2_with fail
  have hlt1 : wx.heap.size < w1.heap.size := Blk.lt HR1.out
  refine (HX.out wx.heap.size w1 hlt hlt1 HR1.out (HB.out.kept0 HD1.out.k)).mono ?_
  rintro e w2 ⟨hk2, Z, rfl, hr2, hx2⟩
  have hd2 := HD1.out.kept hk2 (fun k hk h => by unfold Kone at h; omega)
  have c0 : w2.cell? ⟨w.heap.size, 0, none⟩ = some (.int .i64 0) := hd2.b0.cell 0
  have c1 : w2.cell? ⟨w.heap.size + 1, 0, none⟩ = some (.int .i64 0) := hd2.b1.cell 0
  have c2 : w2.cell? ⟨w.heap.size + 1 + 1, 0, none⟩ = some (.int .i64 0) := hd2.b2.cell 0
  have c3 : w2.cell? ⟨wx.heap.size, 1, none⟩ = some (.int .i64 (nk : Int)) := Blk.cell hr2 1
  have f0 := hd2.b0.frozen 0
  have f1 := hd2.b1.frozen 0
  have f2 := hd2.b2.frozen 0
  have HD2 := Lib.hid hd2
  have HX2 := Lib.hid hx2
  generalize hD : wx.heap.size = D at hlt c3 HR1 ⊢
  have hD0 : w.heap.size ≠ D := by omega
  have hD1 : w.heap.size + 1 ≠ D := by omega
  have hD2 : w.heap.size + 1 + 1 ≠ D := by omega
  clear hd2 hr2 hk2 hD hx2 hlt1
  go_wp2_with fail
  go_region
  all_goals
    go_wp2_with fail
    have hd3 := ((HD2.out.set1 (a' := .int .i64 Z)).set (a' := .int .i64 Z) (b' := .int .i64 nk) (c' := .int .i64 0)).kept (Kept.drew (Kept.refl Kno _)) (fun _ _ h => h)
    have hk3 : Kept (Door3 w) w2 ((((w2.setCell ⟨w.heap.size, 0, none⟩ (.int .i64 Z)).setCell ⟨w.heap.size, 0, none⟩ (.int .i64 Z)).setCell ⟨w.heap.size + 1, 0, none⟩ (.int .i64 nk)).setCell ⟨w.heap.size + 1 + 1, 0, none⟩ (.int .i64 0)).drew := (((((Kept.refl (Door3 w) w2).setIn (p := ⟨w.heap.size, 0, none⟩) (door3_0 w) _).setIn (p := ⟨w.heap.size, 0, none⟩) (door3_0 w) _).setIn (p := ⟨w.heap.size + 1, 0, none⟩) (door3_1 w) _).setIn (p := ⟨w.heap.size + 1 + 1, 0, none⟩) (door3_2 w) _).drew
    generalize ((((w2.setCell ⟨w.heap.size, 0, none⟩ (.int .i64 Z)).setCell ⟨w.heap.size, 0, none⟩ (.int .i64 Z)).setCell ⟨w.heap.size + 1, 0, none⟩ (.int .i64 nk)).setCell ⟨w.heap.size + 1 + 1, 0, none⟩ (.int .i64 0)).drew = wy at hd3 hk3 ⊢
    refine leaves_cons (f := 188) (args := #[.pointer (some ⟨w.heap.size, 0, none⟩), .pointer (some ⟨w.heap.size + 1, 0, none⟩), .pointer (some ⟨w.heap.size + 1 + 1, 0, none⟩)]) (by simp) (by simp [go_sem]) ?_
    refine (intD_idle _ _ _ _).mono ?_
    rintro e u' w'' ⟨rfl, rfl, rfl⟩
    have e0 : w''.cell? ⟨w.heap.size, 0, none⟩ = some (.int .i64 Z) := hd3.b0.cell 0
    have e1 : w''.cell? ⟨w.heap.size + 1, 0, none⟩ = some (.int .i64 nk) := hd3.b1.cell 0
    have e2 : w''.cell? ⟨w.heap.size + 1 + 1, 0, none⟩ = some (.int .i64 0) := hd3.b2.cell 0
    have HQ : Hid (DoorOk w X nk (.returned (.tuple #[.int .i64 Z, .int .i64 nk, .int .i64 0])) w'') := Lib.hid ⟨_, w2, rfl, HX2.out, hk3, hd3.k⟩
    clear hd3 hk3 HX2 HX
    simp [Leaves, settle, results, Tryz.results96, go_sem, e0, e1, e2]
    exact HQ.out

set_option maxHeartbeats 1000000 in
theorem rowD_panicking (p q r : Addr) (x : Option Addr) (y z c : Int) (older : List PanicEntry) (w : World) (h1 : w.cell? p = some (.slice x 0 0)) (f1 : w.frozen? p = false) (h2 : w.cell? q = some (.int .i64 y)) (f2 : w.frozen? q = false) (h3 : w.cell? r = some (.int .i64 z)) (f3 : w.frozen? r = false) (hpq : p.block ≠ q.block) (hpr : p.block ≠ r.block) (hqr : q.block ≠ r.block) :
    CallsD Tryz.prog 299 #[.pointer (some p), .pointer (some q), .pointer (some r)] (.panicking ({ v := .iface 40 (.int .i64 c), recovered := false } :: older)) w fun e u' w' =>
      e = .returned (.tuple #[]) ∧ u' = .panicking ({ v := .iface 40 (.int .i64 c), recovered := true } :: older) ∧ w' = ((w.setCell p (.slice none 0 0)).setCell q (.int .i64 0)).setCell r (.int .i64 c) := by
  have g2 : (w.setCell p (.slice none 0 0)).cell? q = some (.int .i64 y) := (World.cell?_setCell_far _ _ _ _ hpq).trans h2
  have g3 : ((w.setCell p (.slice none 0 0)).setCell q (.int .i64 0)).cell? r = some (.int .i64 z) := (World.cell?_setCell_far _ _ _ _ hqr).trans ((World.cell?_setCell_far _ _ _ _ hpr).trans h3)
  have k2 : (w.setCell p (.slice none 0 0)).frozen? q = false := (World.frozen?_setCell _ _ _ _).trans f2
  have k3 : ((w.setCell p (.slice none 0 0)).setCell q (.int .i64 0)).frozen? r = false := (World.frozen?_setCell _ _ _ _).trans ((World.frozen?_setCell _ _ _ _).trans f3)
  refine callsD_of_wpS Tryz.func299 rfl fun c₀ cs hu => ?_
  apply wpS_seq
  apply wpS_region
  simp [wpOpsS, go_sem, recoverD, hu, Tryz.ntmps299, Exit.thenS, assert_is]
  apply wpS_seq
  apply wpS_region
  simp [wpOpsS, go_sem, Exit.thenS]
  refine wpS_cond (t := true) (by simp [Act.eval, Array.replicate]) ?_
  simp only [if_true]
  apply wpS_region
  simp [wpOpsS, go_sem, h1, f1, g2, g3, k2, k3, bodyPostS, results, Tryz.results299]

set_option maxHeartbeats 1000000 in
theorem rowD_idle (p q r : Addr) (w : World) :
    CallsD Tryz.prog 299 #[.pointer (some p), .pointer (some q), .pointer (some r)] .returning w fun e u' w' => e = .returned (.tuple #[]) ∧ u' = .returning ∧ w' = w := by
  refine callsD_of_wpS Tryz.func299 rfl fun c₀ cs hu => ?_
  apply wpS_seq
  apply wpS_region
  simp [wpOpsS, go_sem, recoverD, hu, Tryz.ntmps299, Exit.thenS, assert_nil]
  apply wpS_seq
  apply wpS_region
  simp [wpOpsS, go_sem, Exit.thenS]
  refine wpS_cond (t := false) (by simp [Act.eval, Array.replicate]) ?_
  simp only [Bool.false_eq_true, if_false]
  refine wpS_of_wp (wp_skip ?_)
  cases c₀
  simp_all [bodyPostS, results, Tryz.results299]

set_option maxHeartbeats 1000000 in
theorem rowF_bad (v : Value) (l : List UInt8) (n : Int) (w : World) (hb : Bs w v l) (hn : n < 0 ∨ (l.length : Int) < n) :
    Calls Tryz.prog 277 #[v, .int .i64 n] w fun e w' => e = .returned (.tuple #[.slice none 0 0, .int .i64 0, .int .i64 1]) ∧ Kept Kno w w' := by
  have HB := Lib.hid hb
  obtain ⟨A, cap, rfl, -⟩ := hb
  have hmf : ∀ (fn : Fn) (first cap : Array Value) (w : World), (Instr.makeFunc fn first cap).run Tryz.prog w = .ok (.func fn first cap) w := fun _ _ _ _ => rfl
  have HN := Lib.hid hn
  clear hn
  go_enter_defers Tryz.func277, Tryz.ntmps277
  go_wp2_with fail
  have hd := doorT_new 30 w (.slice none 0 0) (.int .i64 0) (.int .i64 0)
  generalize (((w.alloc (.cells #[.slice none 0 0] 30)).alloc (.cells #[.int .i64 0] 3)).alloc (.cells #[.int .i64 0] 40)) = wx at hd ⊢
  refine (begin_bad _ l n wx (HB.out.kept0 hd.k) HN.out).mono ?_
  rintro e w1 ⟨rfl, rfl⟩
  refine leaves_cons (f := 299) (args := #[.pointer (some ⟨w.heap.size, 0, none⟩), .pointer (some ⟨w.heap.size + 1, 0, none⟩), .pointer (some ⟨w.heap.size + 1 + 1, 0, none⟩)]) (by simp) (by simp [go_sem]) ?_
  refine (rowD_panicking _ _ _ none 0 0 1 [] _ (hd.b0.cell 0) (hd.b0.frozen 0) (hd.b1.cell 0) (hd.b1.frozen 0) (hd.b2.cell 0) (hd.b2.frozen 0) (by simp) (by simp; omega) (by simp)).mono ?_
  rintro e u' w'' ⟨rfl, rfl, rfl⟩
  have hd3 := hd.set (a' := .slice none 0 0) (b' := .int .i64 0) (c' := .int .i64 1)
  generalize (((wx.setCell ⟨w.heap.size, 0, none⟩ (.slice none 0 0)).setCell ⟨w.heap.size + 1, 0, none⟩ (.int .i64 0)).setCell ⟨w.heap.size + 1 + 1, 0, none⟩ (.int .i64 1)) = wy at hd3 ⊢
  have e0 : wy.cell? ⟨w.heap.size, 0, none⟩ = some (.slice none 0 0) := hd3.b0.cell 0
  have e1 : wy.cell? ⟨w.heap.size + 1, 0, none⟩ = some (.int .i64 0) := hd3.b1.cell 0
  have e2 : wy.cell? ⟨w.heap.size + 1 + 1, 0, none⟩ = some (.int .i64 1) := hd3.b2.cell 0
  have hk := hd3.k
  clear hd hd3
  simp [Leaves, settle, results, Tryz.results277, go_sem, e0, e1, e2, hk]

set_option maxHeartbeats 2000000 in
theorem rowF_err (v : Value) (l : List UInt8) (n : Nat) (c : Int) (w : World) (hb : Bs w v l) (hn : n ≤ l.length)
    (hdec : ∀ (D : Nat) (w1 : World), Rdr w1 D v n → Bs w1 v l → Calls Tryz.prog 300 #[.pointer (some ⟨D, 0, none⟩)] w1 fun e w2 => Kept (Kone D) w1 w2 ∧ e = Pan c) :
    Calls Tryz.prog 277 #[v, .int .i64 n] w fun e w' => e = .returned (.tuple #[.slice none 0 0, .int .i64 0, .int .i64 c]) ∧ Kept Kno w w' := by
  have HB := Lib.hid hb
  obtain ⟨A, cap, rfl, -⟩ := hb
  have hmf : ∀ (fn : Fn) (first cap : Array Value) (w : World), (Instr.makeFunc fn first cap).run Tryz.prog w = .ok (.func fn first cap) w := fun _ _ _ _ => rfl
  have HX := Lib.hid hdec
  clear hdec
  go_enter_defers Tryz.func277, Tryz.ntmps277
  go_wp2_with fail
  have hd := doorT_new 30 w (.slice none 0 0) (.int .i64 0) (.int .i64 0)
  generalize (((w.alloc (.cells #[.slice none 0 0] 30)).alloc (.cells #[.int .i64 0] 3)).alloc (.cells #[.int .i64 0] 40)) = wx at hd ⊢
  have HD := Lib.hid hd
  clear hd
  refine (begin_ok _ l n wx (HB.out.kept0 HD.out.k) hn).mono ?_
  rintro e w1 ⟨rfl, hw1⟩
  have hr1 : Rdr w1 wx.heap.size (.slice A l.length cap) n := by rw [hw1]; exact Blk.new _ _ _
  have hd1 : DoorT 30 w w1 (.slice none 0 0) (.int .i64 0) (.int .i64 0) := by rw [hw1]; exact HD.out.kept ((Kept.refl Kno wx).alloc _) (fun _ _ h => h)
  have hlt : w.heap.size + 1 + 1 < wx.heap.size := HD.out.b2.lt
  have HR1 := Lib.hid hr1
  have HD1 := Lib.hid hd1
  clear hw1 hr1 hd1
  go_wp2_with fail
  refine (HX.out wx.heap.size w1 HR1.out (HB.out.kept0 HD1.out.k)).mono ?_
  rintro e w2 ⟨hk2, rfl⟩
  have hd2 := HD1.out.kept hk2 (fun k hk h => by unfold Kone at h; omega)
  refine leaves_cons (f := 299) (args := #[.pointer (some ⟨w.heap.size, 0, none⟩), .pointer (some ⟨w.heap.size + 1, 0, none⟩), .pointer (some ⟨w.heap.size + 1 + 1, 0, none⟩)]) (by simp) (by simp [go_sem]) ?_
  refine (rowD_panicking _ _ _ none 0 0 c [] _ (hd2.b0.cell 0) (hd2.b0.frozen 0) (hd2.b1.cell 0) (hd2.b1.frozen 0) (hd2.b2.cell 0) (hd2.b2.frozen 0) (by simp) (by simp; omega) (by simp)).mono ?_
  rintro e u' w'' ⟨rfl, rfl, rfl⟩
  have hd3 := hd2.set (a' := .slice none 0 0) (b' := .int .i64 0) (c' := .int .i64 c)
  generalize (((w2.setCell ⟨w.heap.size, 0, none⟩ (.slice none 0 0)).setCell ⟨w.heap.size + 1, 0, none⟩ (.int .i64 0)).setCell ⟨w.heap.size + 1 + 1, 0, none⟩ (.int .i64 c)) = wy at hd3 ⊢
  have e0 : wy.cell? ⟨w.heap.size, 0, none⟩ = some (.slice none 0 0) := hd3.b0.cell 0
  have e1 : wy.cell? ⟨w.heap.size + 1, 0, none⟩ = some (.int .i64 0) := hd3.b1.cell 0
  have e2 : wy.cell? ⟨w.heap.size + 1 + 1, 0, none⟩ = some (.int .i64 c) := hd3.b2.cell 0
  have hk := hd3.k
  clear hd2 hd3
  simp [Leaves, settle, results, Tryz.results277, go_sem, e0, e1, e2, hk]

set_option maxHeartbeats 2000000 in
theorem rowF_ok (v : Value) (l : List UInt8) (n nk : Nat) (w : World) (X : Value → World → Prop) (hb : Bs w v l) (hn : n ≤ l.length)
    (hdec : ∀ (D : Nat) (w1 : World), w.heap.size + 1 + 1 < D → D < w1.heap.size → Rdr w1 D v n → Bs w1 v l → Calls Tryz.prog 300 #[.pointer (some ⟨D, 0, none⟩)] w1 fun e w2 => Kept (Kone D) w1 w2 ∧ ∃ Z zn zc, e = .returned (.slice Z zn zc) ∧ Rdr w2 D v nk ∧ X (.slice Z zn zc) w2) :
    Calls Tryz.prog 277 #[v, .int .i64 n] w (DoorOk w X nk) := by
  have HB := Lib.hid hb
  obtain ⟨A, cap, rfl, -⟩ := hb
  have hmf : ∀ (fn : Fn) (first cap : Array Value) (w : World), (Instr.makeFunc fn first cap).run Tryz.prog w = .ok (.func fn first cap) w := fun _ _ _ _ => rfl
  have HX := Lib.hid hdec
  clear hdec
  go_enter_defers Tryz.func277, Tryz.ntmps277
  go_wp2_with fail
  have hd := doorT_new 30 w (.slice none 0 0) (.int .i64 0) (.int .i64 0)
  generalize (((w.alloc (.cells #[.slice none 0 0] 30)).alloc (.cells #[.int .i64 0] 3)).alloc (.cells #[.int .i64 0] 40)) = wx at hd ⊢
  have HD := Lib.hid hd
  clear hd
  refine (begin_ok _ l n wx (HB.out.kept0 HD.out.k) hn).mono ?_
  rintro e w1 ⟨rfl, hw1⟩
  have hr1 : Rdr w1 wx.heap.size (.slice A l.length cap) n := by rw [hw1]; exact Blk.new _ _ _
  have hd1 : DoorT 30 w w1 (.slice none 0 0) (.int .i64 0) (.int .i64 0) := by rw [hw1]; exact HD.out.kept ((Kept.refl Kno wx).alloc _) (fun _ _ h => h)
  have hlt : w.heap.size + 1 + 1 < wx.heap.size := HD.out.b2.lt
  have HR1 := Lib.hid hr1
  have HD1 := Lib.hid hd1
  clear hw1 hr1 hd1
  go_wp2_with fail
  have hlt1 : wx.heap.size < w1.heap.size := Blk.lt HR1.out
  refine (HX.out wx.heap.size w1 hlt hlt1 HR1.out (HB.out.kept0 HD1.out.k)).mono ?_
  rintro e w2 ⟨hk2, Z, zn, zc, rfl, hr2, hx2⟩
  have hd2 := HD1.out.kept hk2 (fun k hk h => by unfold Kone at h; omega)
  have c0 : w2.cell? ⟨w.heap.size, 0, none⟩ = some (.slice none 0 0) := hd2.b0.cell 0
  have c1 : w2.cell? ⟨w.heap.size + 1, 0, none⟩ = some (.int .i64 0) := hd2.b1.cell 0
  have c2 : w2.cell? ⟨w.heap.size + 1 + 1, 0, none⟩ = some (.int .i64 0) := hd2.b2.cell 0
  have c3 : w2.cell? ⟨wx.heap.size, 1, none⟩ = some (.int .i64 (nk : Int)) := Blk.cell hr2 1
  have f0 := hd2.b0.frozen 0
  have f1 := hd2.b1.frozen 0
  have f2 := hd2.b2.frozen 0
  have HD2 := Lib.hid hd2
  have HX2 := Lib.hid hx2
  generalize hD : wx.heap.size = D at hlt c3 HR1 ⊢
  have hD0 : w.heap.size ≠ D := by omega
  have hD1 : w.heap.size + 1 ≠ D := by omega
  have hD2 : w.heap.size + 1 + 1 ≠ D := by omega
  clear hd2 hr2 hk2 hD hx2 hlt1
  go_wp2_with fail
  go_region
  all_goals
    go_wp2_with fail
    have hd3 := ((HD2.out.set1 (a' := .slice Z zn zc)).set (a' := .slice Z zn zc) (b' := .int .i64 nk) (c' := .int .i64 0)).kept (Kept.drew (Kept.refl Kno _)) (fun _ _ h => h)
    have hk3 : Kept (Door3 w) w2 ((((w2.setCell ⟨w.heap.size, 0, none⟩ (.slice Z zn zc)).setCell ⟨w.heap.size, 0, none⟩ (.slice Z zn zc)).setCell ⟨w.heap.size + 1, 0, none⟩ (.int .i64 nk)).setCell ⟨w.heap.size + 1 + 1, 0, none⟩ (.int .i64 0)).drew := (((((Kept.refl (Door3 w) w2).setIn (p := ⟨w.heap.size, 0, none⟩) (door3_0 w) _).setIn (p := ⟨w.heap.size, 0, none⟩) (door3_0 w) _).setIn (p := ⟨w.heap.size + 1, 0, none⟩) (door3_1 w) _).setIn (p := ⟨w.heap.size + 1 + 1, 0, none⟩) (door3_2 w) _).drew
    generalize ((((w2.setCell ⟨w.heap.size, 0, none⟩ (.slice Z zn zc)).setCell ⟨w.heap.size, 0, none⟩ (.slice Z zn zc)).setCell ⟨w.heap.size + 1, 0, none⟩ (.int .i64 nk)).setCell ⟨w.heap.size + 1 + 1, 0, none⟩ (.int .i64 0)).drew = wy at hd3 hk3 ⊢
    refine leaves_cons (f := 299) (args := #[.pointer (some ⟨w.heap.size, 0, none⟩), .pointer (some ⟨w.heap.size + 1, 0, none⟩), .pointer (some ⟨w.heap.size + 1 + 1, 0, none⟩)]) (by simp) (by simp [go_sem]) ?_
    refine (rowD_idle _ _ _ _).mono ?_
    rintro e u' w'' ⟨rfl, rfl, rfl⟩
    have e0 : w''.cell? ⟨w.heap.size, 0, none⟩ = some (.slice Z zn zc) := hd3.b0.cell 0
    have e1 : w''.cell? ⟨w.heap.size + 1, 0, none⟩ = some (.int .i64 nk) := hd3.b1.cell 0
    have e2 : w''.cell? ⟨w.heap.size + 1 + 1, 0, none⟩ = some (.int .i64 0) := hd3.b2.cell 0
    have HQ : Hid (DoorOk w X nk (.returned (.tuple #[.slice Z zn zc, .int .i64 nk, .int .i64 0])) w'') := Lib.hid ⟨_, w2, rfl, HX2.out, hk3, hd3.k⟩
    clear hd3 hk3 HX2 HX
    simp [Leaves, settle, results, Tryz.results277, go_sem, e0, e1, e2]
    exact HQ.out

end Go.Proofs.YtffdaohmalmkfaaGreat
