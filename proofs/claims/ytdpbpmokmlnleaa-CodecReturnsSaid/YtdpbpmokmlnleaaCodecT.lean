/-
  Codec: Value with its deferred closure; Row for any bytes.
-/
import Derived.Test.YtdpbpmokmlnleaaCodecS
namespace Go.Proofs.Ytdpbpmokmlnleaa
open Go.RowKit
set_option linter.unusedVariables false

set_option maxHeartbeats 1000000 in
theorem valueD_panicking (B C D : Nat) (x0 x1 : Int) (x2 : ByteArray) (y z c : Int) (older : List PanicEntry) (w : World) (h1 : Blk w B 41 #[.int .i64 x0, .int .i64 x1, .string x2]) (h2 : Blk w C 3 #[.int .i64 y]) (h3 : Blk w D 37 #[.int .i64 z]) (hpq : B ≠ C) (hpr : B ≠ D) (hqr : C ≠ D) :
    CallsD Try.prog 65 #[.pointer (some ⟨B, 0, none⟩), .pointer (some ⟨C, 0, none⟩), .pointer (some ⟨D, 0, none⟩)] (.panicking ({ v := .iface 37 (.int .i64 c), recovered := false } :: older)) w fun e u' w' =>
      e = .returned (.tuple #[]) ∧ u' = .panicking ({ v := .iface 37 (.int .i64 c), recovered := true } :: older) ∧ w' = ((((w.setCell ⟨B, 0, none⟩ (.int .i64 0)).setCell ⟨B, 1, none⟩ (.int .i64 0)).setCell ⟨B, 2, none⟩ (.string ⟨#[]⟩)).setCell ⟨C, 0, none⟩ (.int .i64 0)).setCell ⟨D, 0, none⟩ (.int .i64 c) := by
  have a0 : w.cell? ⟨B, 0, none⟩ = some (.int .i64 x0) := h1.cell 0
  have a1 : w.cell? ⟨B, 1, none⟩ = some (.int .i64 x1) := h1.cell 1
  have a2 : w.cell? ⟨B, 2, none⟩ = some (.string x2) := h1.cell 2
  have f0 := h1.frozen 0
  have f1 := h1.frozen 1
  have f2 := h1.frozen 2
  have b0 : w.cell? ⟨C, 0, none⟩ = some (.int .i64 y) := h2.cell 0
  have g0 := h2.frozen 0
  have c0 : w.cell? ⟨D, 0, none⟩ = some (.int .i64 z) := h3.cell 0
  have k0 := h3.frozen 0
  clear h1 h2 h3
  refine callsD_of_wpS Try.func65 rfl fun c₀ cs hu => ?_
  apply wpS_seq
  apply wpS_region
  simp [wpOpsS, go_sem, recoverD, hu, Try.ntmps65, Exit.thenS, assert_is]
  apply wpS_seq
  apply wpS_region
  simp [wpOpsS, go_sem, Exit.thenS]
  refine wpS_cond (t := true) (by simp [Act.eval, Array.replicate]) ?_
  simp only [if_true]
  apply wpS_region
  simp [wpOpsS, go_sem, a0, a1, a2, f0, f1, f2, b0, g0, c0, k0, hpq, hpr, hqr, bodyPostS, results, Try.results65]

set_option maxHeartbeats 1000000 in
theorem valueD_idle (p q r : Addr) (w : World) :
    CallsD Try.prog 65 #[.pointer (some p), .pointer (some q), .pointer (some r)] .returning w fun e u' w' => e = .returned (.tuple #[]) ∧ u' = .returning ∧ w' = w := by
  refine callsD_of_wpS Try.func65 rfl fun c₀ cs hu => ?_
  apply wpS_seq
  apply wpS_region
  simp [wpOpsS, go_sem, recoverD, hu, Try.ntmps65, Exit.thenS, assert_nil]
  apply wpS_seq
  apply wpS_region
  simp [wpOpsS, go_sem, Exit.thenS]
  refine wpS_cond (t := false) (by simp [Act.eval, Array.replicate]) ?_
  simp only [Bool.false_eq_true, if_false]
  refine wpS_of_wp (wp_skip ?_)
  cases c₀
  simp_all [bodyPostS, results, Try.results65]

/-- The three named results of Value. -/
structure DoorV (w wx : World) (cs : Array Value) (b c : Value) : Prop where
  k : Kept Kno w wx
  b0 : Blk wx w.heap.size 41 cs
  b1 : Blk wx (w.heap.size + 1) 3 #[b]
  b2 : Blk wx (w.heap.size + 1 + 1) 37 #[c]
theorem doorV_new (w : World) (cs : Array Value) (b c : Value) : DoorV w (((w.alloc (.cells cs 41)).alloc (.cells #[b] 3)).alloc (.cells #[c] 37)) cs b c := by
  refine ⟨(((Kept.refl _ w).alloc _).alloc _).alloc _, ((Blk.new w _ _).alloc _).alloc _, ?_, ?_⟩
  · have h := (Blk.new (w.alloc (.cells cs 41)) 3 #[b]).alloc (.cells #[c] 37)
    have e : (w.alloc (.cells cs 41)).heap.size = w.heap.size + 1 := by simp
    rw [e] at h
    exact h
  · have h := Blk.new ((w.alloc (.cells cs 41)).alloc (.cells #[b] 3)) 37 #[c]
    have e : ((w.alloc (.cells cs 41)).alloc (.cells #[b] 3)).heap.size = w.heap.size + 1 + 1 := by simp
    rw [e] at h
    exact h
theorem DoorV.kept {w wx wy : World} {cs : Array Value} {b c : Value} {S : Nat → Prop} (h : DoorV w wx cs b c) (hk : Kept S wx wy) (hS : ∀ k, k ≤ w.heap.size + 2 → ¬ S k) : DoorV w wy cs b c :=
  ⟨h.k.trans hk (fun i hi hs => absurd hs (hS i (by omega))), h.b0.kept hk (hS _ (by omega)), h.b1.kept hk (hS _ (by omega)), h.b2.kept hk (hS _ (by omega))⟩
theorem DoorV.set1 {w wx : World} {a0 a1 a2 b c a0' a1' a2' : Value} (h : DoorV w wx #[a0, a1, a2] b c) : DoorV w (((wx.setCell ⟨w.heap.size, 0, none⟩ a0').setCell ⟨w.heap.size, 1, none⟩ a1').setCell ⟨w.heap.size, 2, none⟩ a2') #[a0', a1', a2'] b c := by
  obtain ⟨h1, h2⟩ := three_set (b0 := a0') (b1 := a1') (b2 := a2') h.b0
  exact ⟨h.k.trans h2 (fun k hk e => by unfold Kone at e; omega), h1, h.b1.kept h2 (fun e => by unfold Kone at e; omega), h.b2.kept h2 (fun e => by unfold Kone at e; omega)⟩
theorem DoorV.set2 {w wx : World} {cs : Array Value} {b c b' c' : Value} (h : DoorV w wx cs b c) : DoorV w ((wx.setCell ⟨w.heap.size + 1, 0, none⟩ b').setCell ⟨w.heap.size + 1 + 1, 0, none⟩ c') cs b' c' :=
  ⟨(h.k.setNew (p := ⟨w.heap.size + 1, 0, none⟩) (by simp) _).setNew (p := ⟨w.heap.size + 1 + 1, 0, none⟩) (by simp; omega) _, (h.b0.far (by simp) _).far (by simp; omega) _, (h.b1.set_ 0 b').far (by simp) _, (h.b2.far (by simp) _).set_ 0 c'⟩
def ValF (x : Val) (nk : Nat) (c : Int) (w : World) (e : Ending) (w' : World) : Prop := e = .returned (.tuple #[x.v, .int .i64 (nk : Int), .int .i64 c]) ∧ Kept Kno w w'
def val0 : Val := ⟨0, 0, ⟨#[]⟩⟩

set_option maxHeartbeats 1000000 in
theorem valueF_bad (v : Value) (l : List UInt8) (n : Int) (w : World) (hb : Bs w v l) (hn : n < 0 ∨ (l.length : Int) < n) :
    Calls Try.prog 40 #[v, .int .i64 n] w (ValF val0 0 1 w) := by
  have HB := Lib.hid hb
  obtain ⟨A, cap, rfl, -⟩ := hb
  have hmf : ∀ (fn : Fn) (first cap : Array Value) (w : World), (Instr.makeFunc fn first cap).run Try.prog w = .ok (.func fn first cap) w := fun _ _ _ _ => rfl
  have HN := Lib.hid hn
  clear hn
  go_enter_defers Try.func40, Try.ntmps40
  go_wp2_with fail
  have hd := doorV_new w #[.int .i64 0, .int .i64 0, .string ⟨#[]⟩] (.int .i64 0) (.int .i64 0)
  generalize (((w.alloc (.cells #[.int .i64 0, .int .i64 0, .string ⟨#[]⟩] 41)).alloc (.cells #[.int .i64 0] 3)).alloc (.cells #[.int .i64 0] 37)) = wx at hd ⊢
  refine (begin_bad _ l n wx (HB.out.kept0 hd.k) HN.out).mono ?_
  rintro e w1 ⟨rfl, rfl⟩
  refine leaves_cons (f := 65) (args := #[.pointer (some ⟨w.heap.size, 0, none⟩), .pointer (some ⟨w.heap.size + 1, 0, none⟩), .pointer (some ⟨w.heap.size + 1 + 1, 0, none⟩)]) (by simp) (by simp [go_sem]) ?_
  refine (valueD_panicking _ _ _ 0 0 ⟨#[]⟩ 0 0 1 [] _ hd.b0 hd.b1 hd.b2 (by omega) (by omega) (by omega)).mono ?_
  rintro e u' w'' ⟨rfl, rfl, rfl⟩
  have hd3 := (hd.set1 (a0' := .int .i64 0) (a1' := .int .i64 0) (a2' := .string ⟨#[]⟩)).set2 (b' := .int .i64 0) (c' := .int .i64 1)
  generalize (((((wx.setCell ⟨w.heap.size, 0, none⟩ (.int .i64 0)).setCell ⟨w.heap.size, 1, none⟩ (.int .i64 0)).setCell ⟨w.heap.size, 2, none⟩ (.string ⟨#[]⟩)).setCell ⟨w.heap.size + 1, 0, none⟩ (.int .i64 0)).setCell ⟨w.heap.size + 1 + 1, 0, none⟩ (.int .i64 1)) = wy at hd3 ⊢
  clear hd
  have e0 : wy.cell? ⟨w.heap.size, 0, none⟩ = some (.int .i64 0) := hd3.b0.cell 0
  have e1 : wy.cell? ⟨w.heap.size, 1, none⟩ = some (.int .i64 0) := hd3.b0.cell 1
  have e2 : wy.cell? ⟨w.heap.size, 2, none⟩ = some (.string ⟨#[]⟩) := hd3.b0.cell 2
  have e3 : wy.cell? ⟨w.heap.size + 1, 0, none⟩ = some (.int .i64 0) := hd3.b1.cell 0
  have e4 : wy.cell? ⟨w.heap.size + 1 + 1, 0, none⟩ = some (.int .i64 1) := hd3.b2.cell 0
  have HQ : Hid (ValF val0 0 1 w (.returned (.tuple #[.agg #[.int .i64 0, .int .i64 0, .string ⟨#[]⟩], .int .i64 0, .int .i64 1])) wy) := Lib.hid ⟨rfl, hd3.k⟩
  clear hd3
  simp [Leaves, settle, results, Try.results40, go_sem, e0, e1, e2, e3, e4]
  exact HQ.out

set_option maxHeartbeats 2000000 in
theorem valueF_err (v : Value) (l : List UInt8) (n : Nat) (c : Int) (w : World) (hb : Bs w v l) (hl : l.length ≤ 1000000) (hn : n ≤ l.length) (hx : valAt l n = .error c) :
    Calls Try.prog 40 #[v, .int .i64 n] w (ValF val0 0 c w) := by
  have HB := Lib.hid hb
  obtain ⟨A, cap, rfl, -⟩ := hb
  have hmf : ∀ (fn : Fn) (first cap : Array Value) (w : World), (Instr.makeFunc fn first cap).run Try.prog w = .ok (.func fn first cap) w := fun _ _ _ _ => rfl
  have HX := Lib.hid hx
  clear hx
  go_enter_defers Try.func40, Try.ntmps40
  go_wp2_with fail
  have hd := doorV_new w #[.int .i64 0, .int .i64 0, .string ⟨#[]⟩] (.int .i64 0) (.int .i64 0)
  generalize (((w.alloc (.cells #[.int .i64 0, .int .i64 0, .string ⟨#[]⟩] 41)).alloc (.cells #[.int .i64 0] 3)).alloc (.cells #[.int .i64 0] 37)) = wx at hd ⊢
  have HD := Lib.hid hd
  clear hd
  refine (begin_ok _ l n wx (HB.out.kept0 HD.out.k) hn).mono ?_
  rintro e w1 ⟨rfl, hw1⟩
  have hr1 : Rdr w1 wx.heap.size (.slice A l.length cap) n := by rw [hw1]; exact Blk.new _ _ _
  have hd1 : DoorV w w1 #[.int .i64 0, .int .i64 0, .string ⟨#[]⟩] (.int .i64 0) (.int .i64 0) := by rw [hw1]; exact HD.out.kept ((Kept.refl Kno wx).alloc _) (fun _ _ h => h)
  have hlt : w.heap.size + 1 + 1 < wx.heap.size := HD.out.b2.lt
  have HR1 := Lib.hid hr1
  have HD1 := Lib.hid hd1
  clear hw1 hr1 hd1
  go_wp2_with fail
  refine (value_dec wx.heap.size n _ l w1 HR1.out (HB.out.kept0 HD1.out.k) hl hn).mono ?_
  rw [HX.out]
  rintro e w2 ⟨hk2, rfl⟩
  have hd2 := HD1.out.kept hk2 (fun k hk h => by unfold Kone at h; omega)
  refine leaves_cons (f := 65) (args := #[.pointer (some ⟨w.heap.size, 0, none⟩), .pointer (some ⟨w.heap.size + 1, 0, none⟩), .pointer (some ⟨w.heap.size + 1 + 1, 0, none⟩)]) (by simp) (by simp [go_sem]) ?_
  refine (valueD_panicking _ _ _ 0 0 ⟨#[]⟩ 0 0 c [] _ hd2.b0 hd2.b1 hd2.b2 (by omega) (by omega) (by omega)).mono ?_
  rintro e u' w'' ⟨rfl, rfl, rfl⟩
  have hd3 := (hd2.set1 (a0' := .int .i64 0) (a1' := .int .i64 0) (a2' := .string ⟨#[]⟩)).set2 (b' := .int .i64 0) (c' := .int .i64 c)
  generalize (((((w2.setCell ⟨w.heap.size, 0, none⟩ (.int .i64 0)).setCell ⟨w.heap.size, 1, none⟩ (.int .i64 0)).setCell ⟨w.heap.size, 2, none⟩ (.string ⟨#[]⟩)).setCell ⟨w.heap.size + 1, 0, none⟩ (.int .i64 0)).setCell ⟨w.heap.size + 1 + 1, 0, none⟩ (.int .i64 c)) = wy at hd3 ⊢
  clear hd2
  have e0 : wy.cell? ⟨w.heap.size, 0, none⟩ = some (.int .i64 0) := hd3.b0.cell 0
  have e1 : wy.cell? ⟨w.heap.size, 1, none⟩ = some (.int .i64 0) := hd3.b0.cell 1
  have e2 : wy.cell? ⟨w.heap.size, 2, none⟩ = some (.string ⟨#[]⟩) := hd3.b0.cell 2
  have e3 : wy.cell? ⟨w.heap.size + 1, 0, none⟩ = some (.int .i64 0) := hd3.b1.cell 0
  have e4 : wy.cell? ⟨w.heap.size + 1 + 1, 0, none⟩ = some (.int .i64 c) := hd3.b2.cell 0
  have HQ : Hid (ValF val0 0 c w (.returned (.tuple #[.agg #[.int .i64 0, .int .i64 0, .string ⟨#[]⟩], .int .i64 0, .int .i64 c])) wy) := Lib.hid ⟨rfl, hd3.k⟩
  clear hd3
  simp [Leaves, settle, results, Try.results40, go_sem, e0, e1, e2, e3, e4]
  exact HQ.out

set_option maxHeartbeats 4000000 in
theorem valueF_ok (v : Value) (l : List UInt8) (n k : Nat) (x : Val) (w : World) (hb : Bs w v l) (hl : l.length ≤ 1000000) (hn : n ≤ l.length) (hx : valAt l n = .ok (x, k)) :
    Calls Try.prog 40 #[v, .int .i64 n] w (ValF x (n + k) 0 w) := by
  have HB := Lib.hid hb
  obtain ⟨A, cap, rfl, -⟩ := hb
  have hmf : ∀ (fn : Fn) (first cap : Array Value) (w : World), (Instr.makeFunc fn first cap).run Try.prog w = .ok (.func fn first cap) w := fun _ _ _ _ => rfl
  have HX := Lib.hid hx
  clear hx
  go_enter_defers Try.func40, Try.ntmps40
  go_wp2_with fail
  have hd := doorV_new w #[.int .i64 0, .int .i64 0, .string ⟨#[]⟩] (.int .i64 0) (.int .i64 0)
  generalize (((w.alloc (.cells #[.int .i64 0, .int .i64 0, .string ⟨#[]⟩] 41)).alloc (.cells #[.int .i64 0] 3)).alloc (.cells #[.int .i64 0] 37)) = wx at hd ⊢
  have HD := Lib.hid hd
  clear hd
  refine (begin_ok _ l n wx (HB.out.kept0 HD.out.k) hn).mono ?_
  rintro e w1 ⟨rfl, hw1⟩
  have hr1 : Rdr w1 wx.heap.size (.slice A l.length cap) n := by rw [hw1]; exact Blk.new _ _ _
  have hd1 : DoorV w w1 #[.int .i64 0, .int .i64 0, .string ⟨#[]⟩] (.int .i64 0) (.int .i64 0) := by rw [hw1]; exact HD.out.kept ((Kept.refl Kno wx).alloc _) (fun _ _ h => h)
  have hlt : w.heap.size + 1 + 1 < wx.heap.size := HD.out.b2.lt
  have HR1 := Lib.hid hr1
  have HD1 := Lib.hid hd1
  clear hw1 hr1 hd1
  go_wp2_with fail
  refine (value_dec wx.heap.size n _ l w1 HR1.out (HB.out.kept0 HD1.out.k) hl hn).mono ?_
  rw [HX.out]
  rintro e w2 ⟨hk2, rfl, hr2⟩
  clear HX
  obtain ⟨x0, x1, x2⟩ := x
  generalize hnk : n + k = nk at hr2 ⊢
  have HNK := Lib.hid hnk
  clear hnk
  have hd2 := HD1.out.kept hk2 (fun k hk h => by unfold Kone at h; omega)
  have c0 : w2.cell? ⟨w.heap.size, 0, none⟩ = some (.int .i64 0) := hd2.b0.cell 0
  have c00 : w2.cell? ⟨w.heap.size, 1, none⟩ = some (.int .i64 0) := hd2.b0.cell 1
  have c01 : w2.cell? ⟨w.heap.size, 2, none⟩ = some (.string ⟨#[]⟩) := hd2.b0.cell 2
  have c1 : w2.cell? ⟨w.heap.size + 1, 0, none⟩ = some (.int .i64 0) := hd2.b1.cell 0
  have c2 : w2.cell? ⟨w.heap.size + 1 + 1, 0, none⟩ = some (.int .i64 0) := hd2.b2.cell 0
  have c3 : w2.cell? ⟨wx.heap.size, 1, none⟩ = some (.int .i64 (nk : Int)) := Blk.cell hr2 1
  have f0 := hd2.b0.frozen 0
  have f00 := hd2.b0.frozen 1
  have f01 := hd2.b0.frozen 2
  have f1 := hd2.b1.frozen 0
  have f2 := hd2.b2.frozen 0
  have HD2 := Lib.hid hd2
  generalize hD : wx.heap.size = D at hlt c3 HR1 ⊢
  have hD0 : w.heap.size ≠ D := by omega
  have hD1 : w.heap.size + 1 ≠ D := by omega
  have hD2 : w.heap.size + 1 + 1 ≠ D := by omega
  clear hd2 hr2 hk2 hD
  simp only [Val.v]
  go_upto_region 4 with (fail)
  go_region
  all_goals
    go_wp2_with fail
    have hd3 := (((HD2.out.set1 (a0' := .int .i64 x0) (a1' := .int .i64 x1) (a2' := .string x2)).set1 (a0' := .int .i64 x0) (a1' := .int .i64 x1) (a2' := .string x2)).set2 (b' := .int .i64 nk) (c' := .int .i64 0)).kept (Kept.drew (Kept.refl Kno _)) (fun _ _ h => h)
    generalize ((((((((w2.setCell ⟨w.heap.size, 0, none⟩ (.int .i64 x0)).setCell ⟨w.heap.size, 1, none⟩ (.int .i64 x1)).setCell ⟨w.heap.size, 2, none⟩ (.string x2)).setCell ⟨w.heap.size, 0, none⟩ (.int .i64 x0)).setCell ⟨w.heap.size, 1, none⟩ (.int .i64 x1)).setCell ⟨w.heap.size, 2, none⟩ (.string x2)).setCell ⟨w.heap.size + 1, 0, none⟩ (.int .i64 nk)).setCell ⟨w.heap.size + 1 + 1, 0, none⟩ (.int .i64 0)).drew = wy at hd3 ⊢
    refine leaves_cons (f := 65) (args := #[.pointer (some ⟨w.heap.size, 0, none⟩), .pointer (some ⟨w.heap.size + 1, 0, none⟩), .pointer (some ⟨w.heap.size + 1 + 1, 0, none⟩)]) (by simp) (by simp [go_sem]) ?_
    refine (valueD_idle _ _ _ _).mono ?_
    rintro e u' w'' ⟨rfl, rfl, rfl⟩
    have e0 : w''.cell? ⟨w.heap.size, 0, none⟩ = some (.int .i64 x0) := hd3.b0.cell 0
    have e1 : w''.cell? ⟨w.heap.size, 1, none⟩ = some (.int .i64 x1) := hd3.b0.cell 1
    have e2 : w''.cell? ⟨w.heap.size, 2, none⟩ = some (.string x2) := hd3.b0.cell 2
    have e3 : w''.cell? ⟨w.heap.size + 1, 0, none⟩ = some (.int .i64 nk) := hd3.b1.cell 0
    have e4 : w''.cell? ⟨w.heap.size + 1 + 1, 0, none⟩ = some (.int .i64 0) := hd3.b2.cell 0
    have HQ : Hid (ValF ⟨x0, x1, x2⟩ nk 0 w (.returned (.tuple #[.agg #[.int .i64 x0, .int .i64 x1, .string x2], .int .i64 nk, .int .i64 0])) w'') := Lib.hid ⟨rfl, hd3.k⟩
    clear hd3
    simp [Leaves, settle, results, Try.results40, go_sem, e0, e1, e2, e3, e4]
    rw [HNK.out]
    exact HQ.out

/-- What Value returns. -/
def valRes2 (l : List UInt8) (n : Int) : Val × Nat × Int :=
  if n < 0 ∨ (l.length : Int) < n then (val0, 0, 1) else match valAt l n.toNat with
    | .ok (x, k) => (x, n.toNat + k, 0)
    | .error c => (val0, 0, c)
theorem valueF_any (v : Value) (l : List UInt8) (n : Int) (w : World) (hb : Bs w v l) (hl : l.length ≤ 1000000) :
    Calls Try.prog 40 #[v, .int .i64 n] w (ValF (valRes2 l n).1 (valRes2 l n).2.1 (valRes2 l n).2.2 w) := by
  unfold valRes2
  by_cases hn : n < 0 ∨ (l.length : Int) < n
  · rw [if_pos hn]
    exact valueF_bad v l n w hb hn
  · rw [if_neg hn]
    obtain ⟨m, rfl⟩ : ∃ m : Nat, n = (m : Int) := ⟨n.toNat, by omega⟩
    rw [Int.toNat_natCast]
    cases hx : valAt l m with
    | error c => exact valueF_err v l m c w hb hl (by omega) hx
    | ok p => exact valueF_ok v l m p.2 p.1 w hb hl (by omega) hx

/-- What Row returns. -/
def rowRes2 (l : List UInt8) (n : Int) : List Val × Nat × Int :=
  if n < 0 ∨ (l.length : Int) < n then ([], 0, 1) else match rowAt l n.toNat with
    | .ok (x, k) => (x, n.toNat + k, 0)
    | .error c => ([], 0, c)
def RowF (x : List Val) (nk : Nat) (c : Int) (w : World) (e : Ending) (w' : World) : Prop :=
  ∃ A cap, e = .returned (.tuple #[.slice A x.length cap, .int .i64 (nk : Int), .int .i64 c]) ∧ OwnR w' w.heap.size (.slice A x.length cap) x ∧ Kept Kno w w'
theorem RowF.nil (c : Int) (w : World) (e : Ending) (w' : World) (he : e = .returned (.tuple #[.slice none 0 0, .int .i64 0, .int .i64 c])) (hk : Kept Kno w w') : RowF [] 0 c w e w' :=
  ⟨none, 0, he, World.ownsRow_nil _ _ _ _, hk⟩
theorem rowF_any (v : Value) (l : List UInt8) (n : Int) (w : World) (hb : Bs w v l) (hl : l.length ≤ 1000000) :
    Calls Try.prog 39 #[v, .int .i64 n] w (RowF (rowRes2 l n).1 (rowRes2 l n).2.1 (rowRes2 l n).2.2 w) := by
  unfold rowRes2
  by_cases hn : n < 0 ∨ (l.length : Int) < n
  · rw [if_pos hn]
    exact (rowF_bad v l n w hb hn).mono (fun e w' h => RowF.nil _ _ _ _ h.1 h.2)
  · rw [if_neg hn]
    obtain ⟨m, rfl⟩ : ∃ m : Nat, n = (m : Int) := ⟨n.toNat, by omega⟩
    rw [Int.toNat_natCast]
    cases hx : rowAt l m with
    | error c => exact (rowF_err v l m c w hb (by omega) (fun D w1 hr hb1 => (row_dec D m v l w1 hr hb1 hl (by omega)).mono (fun e w2 h => by rw [hx] at h; exact h))).mono (fun e w' h => RowF.nil _ _ _ _ h.1 h.2)
    | ok p =>
      obtain ⟨xs, k⟩ := p
      refine (rowF_ok v l m (m + k) w (fun V w2 => ∃ A cap B, V = .slice A xs.length cap ∧ w.heap.size + 1 + 1 < B ∧ OwnR w2 B V xs) hb (by omega) (fun D w1 hD hD2 hr hb1 => (row_dec D m v l w1 hr hb1 hl (by omega)).mono (fun e w2 h => ?_))).mono ?_
      · rw [hx] at h
        obtain ⟨h1, A, cap, h2, h3, h4⟩ := h
        exact ⟨h1, A, xs.length, cap, h2, h4, A, cap, _, rfl, by omega, h3⟩
      · rintro e w' ⟨V, w2, rfl, ⟨A, cap, B, rfl, hB, hown⟩, h3, h4⟩
        refine ⟨A, cap, rfl, ?_, h4⟩
        refine own_kept (own_rebase hown (fun k hk => ?_)) h3 (fun k hk e => ?_)
        · have := (own_base hown hk).1; omega
        · have := (own_base hown hk).1; unfold Door3 at e; omega

end Go.Proofs.Ytdpbpmokmlnleaa
