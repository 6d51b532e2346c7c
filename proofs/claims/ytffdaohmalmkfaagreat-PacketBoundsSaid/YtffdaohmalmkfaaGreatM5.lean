/-
  Contracts and plain laws that the claim's theorem rests on, some texts in one file.
-/
import Derived.Test.YtffdaohmalmkfaaGreatM4
/-
  Codec: Uint.
-/
namespace Go.Proofs.YtffdaohmalmkfaaGreat
open Go.RowKit
set_option linter.unusedVariables false

/-- What Uint returns. -/
def uintRes (l : List UInt8) (n : Int) : Nat × Nat × Int :=
  if n < 0 ∨ (l.length : Int) < n then (0, 0, 1) else match uintAt l n.toNat with
    | .ok (N, k) => (N, n.toNat + k, 0)
    | .error c => (0, 0, c)

/-- The three named results, in blocks of their own. -/
structure Door (w wx : World) (a b c : Value) : Prop where
  k : Kept Kno w wx
  b0 : Blk wx w.heap.size 210 #[a]
  b1 : Blk wx (w.heap.size + 1) 3 #[b]
  b2 : Blk wx (w.heap.size + 1 + 1) 40 #[c]
theorem door_new (w : World) (a b c : Value) : Door w (((w.alloc (.cells #[a] 210)).alloc (.cells #[b] 3)).alloc (.cells #[c] 40)) a b c := by
  refine ⟨(((Kept.refl _ w).alloc _).alloc _).alloc _, ((Blk.new w _ _).alloc _).alloc _, ?_, ?_⟩
  · have h := (Blk.new (w.alloc (.cells #[a] 210)) 3 #[b]).alloc (.cells #[c] 40)
    have e : (w.alloc (.cells #[a] 210)).heap.size = w.heap.size + 1 := by simp
    rw [e] at h
    exact h
  · have h := Blk.new ((w.alloc (.cells #[a] 210)).alloc (.cells #[b] 3)) 40 #[c]
    have e : ((w.alloc (.cells #[a] 210)).alloc (.cells #[b] 3)).heap.size = w.heap.size + 1 + 1 := by simp
    rw [e] at h
    exact h
theorem Door.kept {w wx wy : World} {a b c : Value} {S : Nat → Prop} (h : Door w wx a b c) (hk : Kept S wx wy) (hS : ∀ k, k ≤ w.heap.size + 2 → ¬ S k) : Door w wy a b c :=
  ⟨h.k.trans hk (fun i hi hs => absurd hs (hS i (by omega))), h.b0.kept hk (hS _ (by omega)), h.b1.kept hk (hS _ (by omega)), h.b2.kept hk (hS _ (by omega))⟩
theorem Door.set {w wx : World} {a b c a' b' c' : Value} (h : Door w wx a b c) : Door w (((wx.setCell ⟨w.heap.size, 0, none⟩ a').setCell ⟨w.heap.size + 1, 0, none⟩ b').setCell ⟨w.heap.size + 1 + 1, 0, none⟩ c') a' b' c' := by
  refine ⟨?_, ?_, ?_, ?_⟩
  · exact ((h.k.setNew (p := ⟨w.heap.size, 0, none⟩) (Nat.le_refl _) _).setNew (p := ⟨w.heap.size + 1, 0, none⟩) (by simp) _).setNew (p := ⟨w.heap.size + 1 + 1, 0, none⟩) (by simp; omega) _
  · exact ((h.b0.set_ 0 a').far (by simp) _).far (by simp; omega) _
  · exact ((h.b1.far (by simp) _).set_ 0 b').far (by simp) _
  · exact ((h.b2.far (by simp; omega) _).far (by simp) _).set_ 0 c'

theorem Door.set1 {w wx : World} {a b c a' : Value} (h : Door w wx a b c) : Door w (wx.setCell ⟨w.heap.size, 0, none⟩ a') a' b c :=
  ⟨h.k.setNew (p := ⟨w.heap.size, 0, none⟩) (Nat.le_refl _) _, h.b0.set_ 0 a', h.b1.far (by simp) _, h.b2.far (by simp; omega) _⟩

set_option maxHeartbeats 1000000 in
theorem uintF_bad (v : Value) (l : List UInt8) (n : Int) (w : World) (hb : Bs w v l) (hn : n < 0 ∨ (l.length : Int) < n) :
    Calls Tryz.prog 273 #[v, .int .i64 n] w fun e w' => e = .returned (.tuple #[.int .u64 0, .int .i64 0, .int .i64 1]) ∧ Kept Kno w w' := by
  have HB := Lib.hid hb
  obtain ⟨A, cap, rfl, -⟩ := hb
  have hmf : ∀ (fn : Fn) (first cap : Array Value) (w : World), (Instr.makeFunc fn first cap).run Tryz.prog w = .ok (.func fn first cap) w := fun _ _ _ _ => rfl
  have HN := Lib.hid hn
  clear hn
  go_enter_defers Tryz.func273, Tryz.ntmps273
  go_wp2_with fail
  have hd := door_new w (.int .u64 0) (.int .i64 0) (.int .i64 0)
  generalize (((w.alloc (.cells #[.int .u64 0] 210)).alloc (.cells #[.int .i64 0] 3)).alloc (.cells #[.int .i64 0] 40)) = wx at hd ⊢
  refine (begin_bad _ l n wx (HB.out.kept0 hd.k) HN.out).mono ?_
  rintro e w1 ⟨rfl, rfl⟩
  refine leaves_cons (f := 296) (args := #[.pointer (some ⟨w.heap.size, 0, none⟩), .pointer (some ⟨w.heap.size + 1, 0, none⟩), .pointer (some ⟨w.heap.size + 1 + 1, 0, none⟩)]) (by simp) (by simp [go_sem]) ?_
  refine (uintD_panicking _ _ _ 0 0 0 1 [] _ (hd.b0.cell 0) (hd.b0.frozen 0) (hd.b1.cell 0) (hd.b1.frozen 0) (hd.b2.cell 0) (hd.b2.frozen 0) (by simp) (by simp; omega) (by simp)).mono ?_
  rintro e u' w'' ⟨rfl, rfl, rfl⟩
  have hd2 := hd.set (a' := .int .u64 0) (b' := .int .i64 0) (c' := .int .i64 1)
  generalize (((wx.setCell ⟨w.heap.size, 0, none⟩ (.int .u64 0)).setCell ⟨w.heap.size + 1, 0, none⟩ (.int .i64 0)).setCell ⟨w.heap.size + 1 + 1, 0, none⟩ (.int .i64 1)) = wy at hd2 ⊢
  have e0 : wy.cell? ⟨w.heap.size, 0, none⟩ = some (.int .u64 0) := hd2.b0.cell 0
  have e1 : wy.cell? ⟨w.heap.size + 1, 0, none⟩ = some (.int .i64 0) := hd2.b1.cell 0
  have e2 : wy.cell? ⟨w.heap.size + 1 + 1, 0, none⟩ = some (.int .i64 1) := hd2.b2.cell 0
  have hk := hd2.k
  clear hd hd2
  simp [Leaves, settle, results, Tryz.results273, go_sem, e0, e1, e2, hk]

set_option maxHeartbeats 2000000 in
theorem uintF_err (v : Value) (l : List UInt8) (n : Nat) (c : Int) (w : World) (hb : Bs w v l) (hl : l.length ≤ 1000000) (hn : n ≤ l.length) (hx : uintAt l n = .error c) :
    Calls Tryz.prog 273 #[v, .int .i64 n] w fun e w' => e = .returned (.tuple #[.int .u64 0, .int .i64 0, .int .i64 c]) ∧ Kept Kno w w' := by
  have HB := Lib.hid hb
  obtain ⟨A, cap, rfl, -⟩ := hb
  have hmf : ∀ (fn : Fn) (first cap : Array Value) (w : World), (Instr.makeFunc fn first cap).run Tryz.prog w = .ok (.func fn first cap) w := fun _ _ _ _ => rfl
  have HX := Lib.hid hx
  clear hx
  go_enter_defers Tryz.func273, Tryz.ntmps273
  go_wp2_with fail
  have hd := door_new w (.int .u64 0) (.int .i64 0) (.int .i64 0)
  generalize (((w.alloc (.cells #[.int .u64 0] 210)).alloc (.cells #[.int .i64 0] 3)).alloc (.cells #[.int .i64 0] 40)) = wx at hd ⊢
  have HD := Lib.hid hd
  clear hd
  refine (begin_ok _ l n wx (HB.out.kept0 HD.out.k) hn).mono ?_
  rintro e w1 ⟨rfl, hw1⟩
  have hr1 : Rdr w1 wx.heap.size (.slice A l.length cap) n := by rw [hw1]; exact Blk.new _ _ _
  have hd1 : Door w w1 (.int .u64 0) (.int .i64 0) (.int .i64 0) := by rw [hw1]; exact HD.out.kept ((Kept.refl Kno wx).alloc _) (fun _ _ h => h)
  have hlt : w.heap.size + 1 + 1 < wx.heap.size := HD.out.b2.lt
  have HR1 := Lib.hid hr1
  have HD1 := Lib.hid hd1
  clear hw1 hr1 hd1
  go_wp2_with fail
  refine (uint_any wx.heap.size n _ l w1 HR1.out (HB.out.kept0 HD1.out.k) hl hn).mono ?_
  rintro e w2 ⟨hk2, hm⟩
  rw [HX.out] at hm
  simp only at hm
  subst hm
  have hd2 := HD1.out.kept hk2 (fun k hk h => by unfold Kone at h; omega)
  refine leaves_cons (f := 296) (args := #[.pointer (some ⟨w.heap.size, 0, none⟩), .pointer (some ⟨w.heap.size + 1, 0, none⟩), .pointer (some ⟨w.heap.size + 1 + 1, 0, none⟩)]) (by simp) (by simp [go_sem]) ?_
  refine (uintD_panicking _ _ _ 0 0 0 c [] _ (hd2.b0.cell 0) (hd2.b0.frozen 0) (hd2.b1.cell 0) (hd2.b1.frozen 0) (hd2.b2.cell 0) (hd2.b2.frozen 0) (by simp) (by simp; omega) (by simp)).mono ?_
  rintro e u' w'' ⟨rfl, rfl, rfl⟩
  have hd3 := hd2.set (a' := .int .u64 0) (b' := .int .i64 0) (c' := .int .i64 c)
  generalize (((w2.setCell ⟨w.heap.size, 0, none⟩ (.int .u64 0)).setCell ⟨w.heap.size + 1, 0, none⟩ (.int .i64 0)).setCell ⟨w.heap.size + 1 + 1, 0, none⟩ (.int .i64 c)) = wy at hd3 ⊢
  have e0 : wy.cell? ⟨w.heap.size, 0, none⟩ = some (.int .u64 0) := hd3.b0.cell 0
  have e1 : wy.cell? ⟨w.heap.size + 1, 0, none⟩ = some (.int .i64 0) := hd3.b1.cell 0
  have e2 : wy.cell? ⟨w.heap.size + 1 + 1, 0, none⟩ = some (.int .i64 c) := hd3.b2.cell 0
  have hk := hd3.k
  clear hd2 hd3
  simp [Leaves, settle, results, Tryz.results273, go_sem, e0, e1, e2, hk]

set_option maxHeartbeats 2000000 in
theorem uintF_ok (v : Value) (l : List UInt8) (n N k : Nat) (w : World) (hb : Bs w v l) (hl : l.length ≤ 1000000) (hn : n ≤ l.length) (hx : uintAt l n = .ok (N, k)) :
    Calls Tryz.prog 273 #[v, .int .i64 n] w fun e w' => e = .returned (.tuple #[.int .u64 N, .int .i64 (n + k : Nat), .int .i64 0]) ∧ Kept Kno w w' := by
  have HB := Lib.hid hb
  obtain ⟨A, cap, rfl, -⟩ := hb
  have hmf : ∀ (fn : Fn) (first cap : Array Value) (w : World), (Instr.makeFunc fn first cap).run Tryz.prog w = .ok (.func fn first cap) w := fun _ _ _ _ => rfl
  have HX := Lib.hid hx
  clear hx
  go_enter_defers Tryz.func273, Tryz.ntmps273
  go_wp2_with fail
  have hd := door_new w (.int .u64 0) (.int .i64 0) (.int .i64 0)
  generalize (((w.alloc (.cells #[.int .u64 0] 210)).alloc (.cells #[.int .i64 0] 3)).alloc (.cells #[.int .i64 0] 40)) = wx at hd ⊢
  have HD := Lib.hid hd
  clear hd
  refine (begin_ok _ l n wx (HB.out.kept0 HD.out.k) hn).mono ?_
  rintro e w1 ⟨rfl, hw1⟩
  have hr1 : Rdr w1 wx.heap.size (.slice A l.length cap) n := by rw [hw1]; exact Blk.new _ _ _
  have hd1 : Door w w1 (.int .u64 0) (.int .i64 0) (.int .i64 0) := by rw [hw1]; exact HD.out.kept ((Kept.refl Kno wx).alloc _) (fun _ _ h => h)
  have hlt : w.heap.size + 1 + 1 < wx.heap.size := HD.out.b2.lt
  have HR1 := Lib.hid hr1
  have HD1 := Lib.hid hd1
  clear hw1 hr1 hd1
  go_wp2_with fail
  refine (uint_any wx.heap.size n _ l w1 HR1.out (HB.out.kept0 HD1.out.k) hl hn).mono ?_
  rintro e w2 ⟨hk2, hm⟩
  rw [HX.out] at hm
  simp only at hm
  obtain ⟨rfl, hr2⟩ := hm
  have hd2 := HD1.out.kept hk2 (fun k hk h => by unfold Kone at h; omega)
  have c0 : w2.cell? ⟨w.heap.size, 0, none⟩ = some (.int .u64 0) := hd2.b0.cell 0
  have c1 : w2.cell? ⟨w.heap.size + 1, 0, none⟩ = some (.int .i64 0) := hd2.b1.cell 0
  have c2 : w2.cell? ⟨w.heap.size + 1 + 1, 0, none⟩ = some (.int .i64 0) := hd2.b2.cell 0
  have c3 : w2.cell? ⟨wx.heap.size, 1, none⟩ = some (.int .i64 ((n + k : Nat) : Int)) := Blk.cell hr2 1
  have f0 := hd2.b0.frozen 0
  have f1 := hd2.b1.frozen 0
  have f2 := hd2.b2.frozen 0
  have HD2 := Lib.hid hd2
  generalize hD : wx.heap.size = D at hlt c3 HR1 ⊢
  have hD0 : w.heap.size ≠ D := by omega
  have hD1 : w.heap.size + 1 ≠ D := by omega
  have hD2 : w.heap.size + 1 + 1 ≠ D := by omega
  generalize hnk : n + k = nk at c3
  clear hd2 hr2 hk2 hD
  go_wp2_with fail
  go_region
  all_goals
    go_wp2_with fail
    have hd3 := ((HD2.out.set1 (a' := .int .u64 N)).set (a' := .int .u64 N) (b' := .int .i64 nk) (c' := .int .i64 0)).kept (Kept.drew (Kept.refl Kno _)) (fun _ _ h => h)
    generalize ((((w2.setCell ⟨w.heap.size, 0, none⟩ (.int .u64 N)).setCell ⟨w.heap.size, 0, none⟩ (.int .u64 N)).setCell ⟨w.heap.size + 1, 0, none⟩ (.int .i64 nk)).setCell ⟨w.heap.size + 1 + 1, 0, none⟩ (.int .i64 0)).drew = wy at hd3 ⊢
    refine leaves_cons (f := 296) (args := #[.pointer (some ⟨w.heap.size, 0, none⟩), .pointer (some ⟨w.heap.size + 1, 0, none⟩), .pointer (some ⟨w.heap.size + 1 + 1, 0, none⟩)]) (by simp) (by simp [go_sem]) ?_
    refine (uintD_idle _ _ _ _).mono ?_
    rintro e u' w'' ⟨rfl, rfl, rfl⟩
    have e0 : w''.cell? ⟨w.heap.size, 0, none⟩ = some (.int .u64 N) := hd3.b0.cell 0
    have e1 : w''.cell? ⟨w.heap.size + 1, 0, none⟩ = some (.int .i64 nk) := hd3.b1.cell 0
    have e2 : w''.cell? ⟨w.heap.size + 1 + 1, 0, none⟩ = some (.int .i64 0) := hd3.b2.cell 0
    have hk := hd3.k
    rw [hnk]
    clear hd3 hnk HX
    simp [Leaves, settle, results, Tryz.results273, go_sem, e0, e1, e2, hk]

theorem uintF_any (v : Value) (l : List UInt8) (n : Int) (w : World) (hb : Bs w v l) (hl : l.length ≤ 1000000) :
    Calls Tryz.prog 273 #[v, .int .i64 n] w fun e w' => e = .returned (.tuple #[.int .u64 (uintRes l n).1, .int .i64 (uintRes l n).2.1, .int .i64 (uintRes l n).2.2]) ∧ Kept Kno w w' := by
  unfold uintRes
  by_cases hn : n < 0 ∨ (l.length : Int) < n
  · rw [if_pos hn]
    exact uintF_bad v l n w hb hn
  · rw [if_neg hn]
    obtain ⟨m, rfl⟩ : ∃ m : Nat, n = (m : Int) := ⟨n.toNat, by omega⟩
    rw [Int.toNat_natCast]
    cases hx : uintAt l m with
    | error c => exact uintF_err v l m c w hb hl (by omega) hx
    | ok p =>
      obtain ⟨N, k⟩ := p
      exact uintF_ok v l m N k w hb hl (by omega) hx

end Go.Proofs.YtffdaohmalmkfaaGreat
