/-
  Codec: the reference's Value. (Printed by gen_refval.py.)
-/
import Derived.Test.YtdpbpmokmlnleaaCodecT
namespace Go.Proofs.Ytdpbpmokmlnleaa
open Go.RowKit
set_option linter.unusedVariables false

/-- One byte of a slice, as a cell. -/
theorem byte_at {w : World} {A : Option Addr} {cap n : Nat} {l : List UInt8} {c : UInt8} (h : Bs w (.slice A l.length cap) l) (hc : l[n]? = some c) : ∃ g o, A = some ⟨g, o, none⟩ ∧ w.cell? ⟨g, o + n, none⟩ = some (.int .u8 c.toNat) := by
  obtain ⟨A', cap', hv, h1, h2, h3, h4⟩ := h
  injection hv with e1 e2 e3
  subst e1 e3
  have hn : n < l.length := (List.getElem?_eq_some_iff.1 hc).1
  rcases A with _ | ad
  · have := (h3 rfl).1; omega
  · have hcc := h4 ad rfl n (bv c) (by rw [List.getElem?_map, hc]; rfl)
    obtain ⟨g, o, spot⟩ := ad
    have hs : spot = none := by
      have h0 := h4 ⟨g, o, spot⟩ rfl 0 (bv (l[0]'(by omega))) (by rw [List.getElem?_map, List.getElem?_eq_getElem (by omega)]; rfl)
      have := World.cell?_spot h0
      simpa [Addr.add] using this
    subst hs
    rw [add_lit0] at hcc
    exact ⟨g, o, rfl, hcc⟩
/-- The results of Value: a struct in memory and two numbers. -/
theorem results_val {w : World} {g : Nat} {a b c : Value} (fn : Func) (p q r : Tmp) (h : fn.results = #[.cell p 41, .tmp q, .tmp r]) (tmps : Array Value) (x y : Value) (hp : tmps.getD p undef = .pointer (some ⟨g, 0, none⟩)) (hq : tmps.getD q undef = x) (hr : tmps.getD r undef = y) (hg : Blk w g 41 #[a, b, c]) :
    (results fn tmps).run Try.prog w = .ok (.tuple #[.agg #[a, b, c], x, y]) w := by
  have hp' : tmps[p]?.getD undef = .pointer (some ⟨g, 0, none⟩) := by simpa using hp
  have hq' : tmps[q]?.getD undef = x := by simpa using hq
  have hr' : tmps[r]?.getD undef = y := by simpa using hr
  have hl := run_loadVar_row (P := Try.prog) w g 41 41 #[a, b, c] (0, 0) _ hg Try.underlying41 rfl (by kernel_rfl)
  simp [results, h, hp', hq', hr', asAddr, hl]

set_option maxRecDepth 100000 in
set_option maxHeartbeats 2000000 in
theorem refValueF_neg (v : Value) (l : List UInt8) (n : Int) (w : World) (hb : Bs w v l) (hl : l.length ≤ 1000000) (hn : n < 0 ∨ (l.length : Int) < n) :
    Calls Try.prog 41 #[v, .int .i64 n] w (ValF val0 0 1 w) := by
  have HB := Lib.hid hb
  obtain ⟨A, cap, rfl, hlc, -⟩ := hb
  by_cases h0 : n < 0
  all_goals
    try (have h1 : (l.length : Int) < n := by omega)
    clear hn
    go_enter Try.func41, Try.ntmps41
    go_wp2
    exact bodyPost_ret (v := .tuple #[.agg #[.int .i64 0, .int .i64 0, .string ⟨#[]⟩], .int .i64 0, .int .i64 1]) (results_val _ 4 5 6 rfl _ _ _ rfl rfl rfl (Blk.new w _ _)) rfl ⟨rfl, ((Kept.refl _ _).alloc _)⟩

set_option maxRecDepth 100000 in
set_option maxHeartbeats 2000000 in
theorem refValueF_end (v : Value) (l : List UInt8) (n : Nat) (w : World) (hb : Bs w v l) (hl : l.length ≤ 1000000) (hn : n = l.length) :
    Calls Try.prog 41 #[v, .int .i64 n] w (ValF val0 0 20 w) := by
  have HB := Lib.hid hb
  obtain ⟨A, cap, rfl, hlc, -⟩ := hb
  subst hn
  have q0 : ¬ (l.length : Int) < 0 := by omega
  go_enter Try.func41, Try.ntmps41
  go_wp2
  exact bodyPost_ret (v := .tuple #[.agg #[.int .i64 0, .int .i64 0, .string ⟨#[]⟩], .int .i64 0, .int .i64 20]) (results_val _ 4 5 6 rfl _ _ _ rfl rfl rfl (Blk.new w _ _)) rfl ⟨rfl, ((Kept.refl _ _).alloc _)⟩

set_option maxRecDepth 100000 in
set_option maxHeartbeats 2000000 in
theorem refValueF_1 (v : Value) (l : List UInt8) (n : Nat) (w : World) (hb : Bs w v l) (hl : l.length ≤ 1000000) (c : UInt8) (hn : l[n]? = some c) (hc : c.toNat = 1) :
    Calls Try.prog 41 #[v, .int .i64 n] w (ValF ⟨1, 0, ⟨#[]⟩⟩ (n + 1) 0 w) := by
  have HB := Lib.hid hb
  obtain ⟨A, cap, rfl, hlc, -⟩ := hb
  have hnl : n < l.length := (List.getElem?_eq_some_iff.1 hn).1
  obtain ⟨g, o, rfl, hcc⟩ := byte_at (Rd.alloc HB.out (.cells #[.int .i64 0, .int .i64 0, .string ⟨#[]⟩] 41)) hn
  have hcc : ((w.alloc (.cells #[.int .i64 0, .int .i64 0, .string ⟨#[]⟩] 41))).cell? ⟨g, o + n, none⟩ = some (.int .u8 1) := by rw [hcc, hc]; rfl
  have q0 : ¬ (n : Int) < 0 := by omega
  have q1 : ¬ (l.length : Int) < (n : Int) := by omega
  have q2 : ((n : Int) == (l.length : Int)) = false := by simp; omega
  have q3 : (n : Int) < (l.length : Int) := by omega
  clear hn
  go_enter Try.func41, Try.ntmps41
  go_wp2
  exact bodyPost_ret (v := .tuple #[.agg #[.int .i64 1, .int .i64 0, .string ⟨#[]⟩], .int .i64 ((n : Int) + 1), .int .i64 0]) (results_val _ 4 5 6 rfl _ _ _ rfl rfl rfl ((Blk.new w _ _).alloc _)) rfl ⟨rfl, (((Kept.refl _ _).alloc _).alloc _)⟩

set_option maxRecDepth 100000 in
set_option maxHeartbeats 2000000 in
theorem refValueF_2 (v : Value) (l : List UInt8) (n : Nat) (w : World) (hb : Bs w v l) (hl : l.length ≤ 1000000) (c : UInt8) (hn : l[n]? = some c) (hc : c.toNat = 2) :
    Calls Try.prog 41 #[v, .int .i64 n] w (ValF ⟨2, 0, ⟨#[]⟩⟩ (n + 1) 0 w) := by
  have HB := Lib.hid hb
  obtain ⟨A, cap, rfl, hlc, -⟩ := hb
  have hnl : n < l.length := (List.getElem?_eq_some_iff.1 hn).1
  obtain ⟨g, o, rfl, hcc⟩ := byte_at (Rd.alloc HB.out (.cells #[.int .i64 0, .int .i64 0, .string ⟨#[]⟩] 41)) hn
  have hcc : ((w.alloc (.cells #[.int .i64 0, .int .i64 0, .string ⟨#[]⟩] 41))).cell? ⟨g, o + n, none⟩ = some (.int .u8 2) := by rw [hcc, hc]; rfl
  have q0 : ¬ (n : Int) < 0 := by omega
  have q1 : ¬ (l.length : Int) < (n : Int) := by omega
  have q2 : ((n : Int) == (l.length : Int)) = false := by simp; omega
  have q3 : (n : Int) < (l.length : Int) := by omega
  clear hn
  go_enter Try.func41, Try.ntmps41
  go_wp2
  exact bodyPost_ret (v := .tuple #[.agg #[.int .i64 2, .int .i64 0, .string ⟨#[]⟩], .int .i64 ((n : Int) + 1), .int .i64 0]) (results_val _ 4 5 6 rfl _ _ _ rfl rfl rfl ((Blk.new w _ _).alloc _)) rfl ⟨rfl, (((Kept.refl _ _).alloc _).alloc _)⟩

set_option maxRecDepth 100000 in
set_option maxHeartbeats 2000000 in
theorem refValueF_0 (v : Value) (l : List UInt8) (n : Nat) (w : World) (hb : Bs w v l) (hl : l.length ≤ 1000000) (c : UInt8) (hn : l[n]? = some c) (hc : c.toNat ≠ 1 ∧ c.toNat ≠ 2 ∧ c.toNat ≠ 3 ∧ c.toNat ≠ 4 ∧ c.toNat ≠ 5) :
    Calls Try.prog 41 #[v, .int .i64 n] w (ValF val0 0 21 w) := by
  have HB := Lib.hid hb
  obtain ⟨A, cap, rfl, hlc, -⟩ := hb
  have hnl : n < l.length := (List.getElem?_eq_some_iff.1 hn).1
  obtain ⟨g, o, rfl, hcc⟩ := byte_at (Rd.alloc HB.out (.cells #[.int .i64 0, .int .i64 0, .string ⟨#[]⟩] 41)) hn
  have c256 : c.toNat < 256 := c.toNat_lt
  have o1 : ((c.toNat : Int) == 1) = false := by simp; omega
  have o2 : ((c.toNat : Int) == 2) = false := by simp; omega
  have o3 : ((c.toNat : Int) == 3) = false := by simp; omega
  have o4 : ((c.toNat : Int) == 4) = false := by simp; omega
  have o5 : ((c.toNat : Int) == 5) = false := by simp; omega
  clear hc
  have q0 : ¬ (n : Int) < 0 := by omega
  have q1 : ¬ (l.length : Int) < (n : Int) := by omega
  have q2 : ((n : Int) == (l.length : Int)) = false := by simp; omega
  have q3 : (n : Int) < (l.length : Int) := by omega
  clear hn
  go_enter Try.func41, Try.ntmps41
  go_wp2
  exact bodyPost_ret (v := .tuple #[.agg #[.int .i64 0, .int .i64 0, .string ⟨#[]⟩], .int .i64 0, .int .i64 21]) (results_val _ 4 5 6 rfl _ _ _ rfl rfl rfl ((Blk.new w _ _).alloc _)) rfl ⟨rfl, (((Kept.refl _ _).alloc _).alloc _)⟩

set_option maxRecDepth 100000 in
set_option maxHeartbeats 2000000 in
theorem refValueF_3e (v : Value) (l : List UInt8) (n : Nat) (w : World) (hb : Bs w v l) (hl : l.length ≤ 1000000) (c : UInt8) (hn : l[n]? = some c) (hc : c.toNat = 3) (hb2 : l[n + 1]? = none) :
    Calls Try.prog 41 #[v, .int .i64 n] w (ValF val0 0 20 w) := by
  have HB := Lib.hid hb
  obtain ⟨A, cap, rfl, hlc, -⟩ := hb
  have hnl : n < l.length := (List.getElem?_eq_some_iff.1 hn).1
  obtain ⟨g, o, rfl, hcc⟩ := byte_at (Rd.alloc HB.out (.cells #[.int .i64 0, .int .i64 0, .string ⟨#[]⟩] 41)) hn
  have hcc : ((w.alloc (.cells #[.int .i64 0, .int .i64 0, .string ⟨#[]⟩] 41))).cell? ⟨g, o + n, none⟩ = some (.int .u8 3) := by rw [hcc, hc]; rfl
  have q0 : ¬ (n : Int) < 0 := by omega
  have q1 : ¬ (l.length : Int) < (n : Int) := by omega
  have q2 : ((n : Int) == (l.length : Int)) = false := by simp; omega
  have q3 : (n : Int) < (l.length : Int) := by omega
  clear hn
  have q4 : ((n : Int) + 1 == (l.length : Int)) = true := by have := List.getElem?_eq_none_iff.1 hb2; simp; omega
  clear hb2
  go_enter Try.func41, Try.ntmps41
  go_wp2
  exact bodyPost_ret (v := .tuple #[.agg #[.int .i64 0, .int .i64 0, .string ⟨#[]⟩], .int .i64 0, .int .i64 20]) (results_val _ 4 5 6 rfl _ _ _ rfl rfl rfl ((Blk.new w _ _).alloc _)) rfl ⟨rfl, (((Kept.refl _ _).alloc _).alloc _)⟩

set_option maxRecDepth 100000 in
set_option maxHeartbeats 2000000 in
theorem refValueF_3b (v : Value) (l : List UInt8) (n : Nat) (w : World) (hb : Bs w v l) (hl : l.length ≤ 1000000) (c : UInt8) (hn : l[n]? = some c) (hc : c.toNat = 3) (b : UInt8) (hb2 : l[n + 1]? = some b) (hb3 : 1 < b.toNat) :
    Calls Try.prog 41 #[v, .int .i64 n] w (ValF val0 0 21 w) := by
  have HB := Lib.hid hb
  obtain ⟨A, cap, rfl, hlc, -⟩ := hb
  have hnl : n < l.length := (List.getElem?_eq_some_iff.1 hn).1
  obtain ⟨g, o, rfl, hcc⟩ := byte_at (Rd.alloc HB.out (.cells #[.int .i64 0, .int .i64 0, .string ⟨#[]⟩] 41)) hn
  have hcc : ((w.alloc (.cells #[.int .i64 0, .int .i64 0, .string ⟨#[]⟩] 41))).cell? ⟨g, o + n, none⟩ = some (.int .u8 3) := by rw [hcc, hc]; rfl
  have q0 : ¬ (n : Int) < 0 := by omega
  have q1 : ¬ (l.length : Int) < (n : Int) := by omega
  have q2 : ((n : Int) == (l.length : Int)) = false := by simp; omega
  have q3 : (n : Int) < (l.length : Int) := by omega
  clear hn
  have hn2 : n + 1 < l.length := (List.getElem?_eq_some_iff.1 hb2).1
  have hcd : ((w.alloc (.cells #[.int .i64 0, .int .i64 0, .string ⟨#[]⟩] 41)).alloc (.cells #[.int .i64 3, .int .i64 0, .string ⟨#[]⟩] 41)).cell? ⟨g, o + (n + 1), none⟩ = some (.int .u8 b.toNat) := by
    obtain ⟨g', o', e1, h9⟩ := byte_at (Rd.alloc (Rd.alloc HB.out (.cells #[.int .i64 0, .int .i64 0, .string ⟨#[]⟩] 41)) (.cells #[.int .i64 3, .int .i64 0, .string ⟨#[]⟩] 41)) hb2
    cases e1
    exact h9
  have q4 : ((n : Int) + 1 == (l.length : Int)) = false := by simp; omega
  have q5 : (n : Int) + 1 < (l.length : Int) := by omega
  have b256 : b.toNat < 256 := b.toNat_lt
  clear hb2
  have q6 : (1 : Int) < (b.toNat : Int) := by omega
  go_enter Try.func41, Try.ntmps41
  go_wp2
  exact bodyPost_ret (v := .tuple #[.agg #[.int .i64 0, .int .i64 0, .string ⟨#[]⟩], .int .i64 0, .int .i64 21]) (results_val _ 4 5 6 rfl _ _ _ rfl rfl rfl ((Blk.new w _ _).alloc _)) rfl ⟨rfl, (((Kept.refl _ _).alloc _).alloc _)⟩

set_option maxRecDepth 100000 in
set_option maxHeartbeats 2000000 in
theorem refValueF_3 (v : Value) (l : List UInt8) (n : Nat) (w : World) (hb : Bs w v l) (hl : l.length ≤ 1000000) (c : UInt8) (hn : l[n]? = some c) (hc : c.toNat = 3) (b : UInt8) (hb2 : l[n + 1]? = some b) (hb3 : ¬ 1 < b.toNat) :
    Calls Try.prog 41 #[v, .int .i64 n] w (ValF ⟨3, b.toNat, ⟨#[]⟩⟩ (n + 2) 0 w) := by
  have HB := Lib.hid hb
  obtain ⟨A, cap, rfl, hlc, -⟩ := hb
  have hnl : n < l.length := (List.getElem?_eq_some_iff.1 hn).1
  obtain ⟨g, o, rfl, hcc⟩ := byte_at (Rd.alloc HB.out (.cells #[.int .i64 0, .int .i64 0, .string ⟨#[]⟩] 41)) hn
  have hcc : ((w.alloc (.cells #[.int .i64 0, .int .i64 0, .string ⟨#[]⟩] 41))).cell? ⟨g, o + n, none⟩ = some (.int .u8 3) := by rw [hcc, hc]; rfl
  have q0 : ¬ (n : Int) < 0 := by omega
  have q1 : ¬ (l.length : Int) < (n : Int) := by omega
  have q2 : ((n : Int) == (l.length : Int)) = false := by simp; omega
  have q3 : (n : Int) < (l.length : Int) := by omega
  clear hn
  have hn2 : n + 1 < l.length := (List.getElem?_eq_some_iff.1 hb2).1
  have hcd : ((w.alloc (.cells #[.int .i64 0, .int .i64 0, .string ⟨#[]⟩] 41)).alloc (.cells #[.int .i64 3, .int .i64 0, .string ⟨#[]⟩] 41)).cell? ⟨g, o + (n + 1), none⟩ = some (.int .u8 b.toNat) := by
    obtain ⟨g', o', e1, h9⟩ := byte_at (Rd.alloc (Rd.alloc HB.out (.cells #[.int .i64 0, .int .i64 0, .string ⟨#[]⟩] 41)) (.cells #[.int .i64 3, .int .i64 0, .string ⟨#[]⟩] 41)) hb2
    cases e1
    exact h9
  have q4 : ((n : Int) + 1 == (l.length : Int)) = false := by simp; omega
  have q5 : (n : Int) + 1 < (l.length : Int) := by omega
  have b256 : b.toNat < 256 := b.toNat_lt
  clear hb2
  have q6 : ¬ (1 : Int) < (b.toNat : Int) := by omega
  go_enter Try.func41, Try.ntmps41
  go_wp2
  exact bodyPost_ret (v := .tuple #[.agg #[.int .i64 3, .int .i64 (b.toNat : Int), .string ⟨#[]⟩], .int .i64 ((n : Int) + 1 + 1), .int .i64 0]) (results_val _ 4 5 6 rfl _ _ _ rfl rfl rfl ((Blk.new w _ _).alloc _)) rfl ⟨rfl, (((Kept.refl _ _).alloc _).alloc _)⟩

set_option maxRecDepth 100000 in
set_option maxHeartbeats 2000000 in
theorem refValueF_4e (v : Value) (l : List UInt8) (n : Nat) (w : World) (hb : Bs w v l) (hl : l.length ≤ 1000000) (c : UInt8) (hn : l[n]? = some c) (hc : c.toNat = 4) (e0 : Int) (hi : intRes l ((n : Int) + 1) = (0, 0, e0)) (he : e0 ≠ 0) :
    Calls Try.prog 41 #[v, .int .i64 n] w (ValF val0 0 e0 w) := by
  have HB := Lib.hid hb
  obtain ⟨A, cap, rfl, hlc, -⟩ := hb
  have hnl : n < l.length := (List.getElem?_eq_some_iff.1 hn).1
  obtain ⟨g, o, rfl, hcc⟩ := byte_at (Rd.alloc HB.out (.cells #[.int .i64 0, .int .i64 0, .string ⟨#[]⟩] 41)) hn
  have hcc : ((w.alloc (.cells #[.int .i64 0, .int .i64 0, .string ⟨#[]⟩] 41))).cell? ⟨g, o + n, none⟩ = some (.int .u8 4) := by rw [hcc, hc]; rfl
  have q0 : ¬ (n : Int) < 0 := by omega
  have q1 : ¬ (l.length : Int) < (n : Int) := by omega
  have q2 : ((n : Int) == (l.length : Int)) = false := by simp; omega
  have q3 : (n : Int) < (l.length : Int) := by omega
  clear hn
  have HI := Lib.hid hi
  have he2 : (e0 != 0) = true := by simp; omega
  clear hi he
  go_enter Try.func41, Try.ntmps41
  go_wp2_with fail
  refine (refIntF_any _ l ((n : Int) + 1) _ (Rd.alloc (Rd.alloc HB.out _) _) hl).mono ?_
  rw [HI.out]
  rintro e w1 ⟨rfl, hw1⟩
  subst hw1
  go_wp2
  exact bodyPost_ret (v := .tuple #[.agg #[.int .i64 0, .int .i64 0, .string ⟨#[]⟩], .int .i64 0, .int .i64 e0]) (results_val _ 4 5 6 rfl _ _ _ rfl rfl rfl ((Blk.new w _ _).alloc _)) rfl ⟨rfl, (((Kept.refl _ _).alloc _).alloc _)⟩

set_option maxRecDepth 100000 in
set_option maxHeartbeats 2000000 in
theorem refValueF_4 (v : Value) (l : List UInt8) (n : Nat) (w : World) (hb : Bs w v l) (hl : l.length ≤ 1000000) (c : UInt8) (hn : l[n]? = some c) (hc : c.toNat = 4) (Z : Int) (nk : Nat) (hi : intRes l ((n : Int) + 1) = (Z, nk, 0)) :
    Calls Try.prog 41 #[v, .int .i64 n] w (ValF ⟨4, Z, ⟨#[]⟩⟩ nk 0 w) := by
  have HB := Lib.hid hb
  obtain ⟨A, cap, rfl, hlc, -⟩ := hb
  have hnl : n < l.length := (List.getElem?_eq_some_iff.1 hn).1
  obtain ⟨g, o, rfl, hcc⟩ := byte_at (Rd.alloc HB.out (.cells #[.int .i64 0, .int .i64 0, .string ⟨#[]⟩] 41)) hn
  have hcc : ((w.alloc (.cells #[.int .i64 0, .int .i64 0, .string ⟨#[]⟩] 41))).cell? ⟨g, o + n, none⟩ = some (.int .u8 4) := by rw [hcc, hc]; rfl
  have q0 : ¬ (n : Int) < 0 := by omega
  have q1 : ¬ (l.length : Int) < (n : Int) := by omega
  have q2 : ((n : Int) == (l.length : Int)) = false := by simp; omega
  have q3 : (n : Int) < (l.length : Int) := by omega
  clear hn
  have HI := Lib.hid hi
  clear hi
  go_enter Try.func41, Try.ntmps41
  go_wp2_with fail
  refine (refIntF_any _ l ((n : Int) + 1) _ (Rd.alloc (Rd.alloc HB.out _) _) hl).mono ?_
  rw [HI.out]
  rintro e w1 ⟨rfl, hw1⟩
  subst hw1
  go_wp2
  exact bodyPost_ret (v := .tuple #[.agg #[.int .i64 4, .int .i64 Z, .string ⟨#[]⟩], .int .i64 nk, .int .i64 0]) (results_val _ 4 5 6 rfl _ _ _ rfl rfl rfl ((Blk.new w _ _).alloc _)) rfl ⟨rfl, (((Kept.refl _ _).alloc _).alloc _)⟩

set_option maxRecDepth 100000 in
set_option maxHeartbeats 2000000 in
theorem refValueF_5e (v : Value) (l : List UInt8) (n : Nat) (w : World) (hb : Bs w v l) (hl : l.length ≤ 1000000) (c : UInt8) (hn : l[n]? = some c) (hc : c.toNat = 5) (e0 : Int) (hi : textRes l ((n : Int) + 1) 64 = ([], 0, e0)) (he : e0 ≠ 0) :
    Calls Try.prog 41 #[v, .int .i64 n] w (ValF val0 0 e0 w) := by
  have HB := Lib.hid hb
  obtain ⟨A, cap, rfl, hlc, -⟩ := hb
  have hnl : n < l.length := (List.getElem?_eq_some_iff.1 hn).1
  obtain ⟨g, o, rfl, hcc⟩ := byte_at (Rd.alloc HB.out (.cells #[.int .i64 0, .int .i64 0, .string ⟨#[]⟩] 41)) hn
  have hcc : ((w.alloc (.cells #[.int .i64 0, .int .i64 0, .string ⟨#[]⟩] 41))).cell? ⟨g, o + n, none⟩ = some (.int .u8 5) := by rw [hcc, hc]; rfl
  have q0 : ¬ (n : Int) < 0 := by omega
  have q1 : ¬ (l.length : Int) < (n : Int) := by omega
  have q2 : ((n : Int) == (l.length : Int)) = false := by simp; omega
  have q3 : (n : Int) < (l.length : Int) := by omega
  clear hn
  have HI := Lib.hid hi
  have he2 : (e0 != 0) = true := by simp; omega
  clear hi he
  go_enter Try.func41, Try.ntmps41
  go_wp2_with fail
  refine (refTextF_any _ l ((n : Int) + 1) 64 _ (Rd.alloc (Rd.alloc HB.out _) _) hl (by omega)).mono ?_
  rw [HI.out]
  rintro e w1 ⟨rfl, hw1⟩
  subst hw1
  simp only [strOf]
  go_wp2
  exact bodyPost_ret (v := .tuple #[.agg #[.int .i64 0, .int .i64 0, .string ⟨#[]⟩], .int .i64 0, .int .i64 e0]) (results_val _ 4 5 6 rfl _ _ _ rfl rfl rfl ((Blk.new w _ _).alloc _)) rfl ⟨rfl, (((Kept.refl _ _).alloc _).alloc _)⟩

set_option maxRecDepth 100000 in
set_option maxHeartbeats 2000000 in
theorem refValueF_5 (v : Value) (l : List UInt8) (n : Nat) (w : World) (hb : Bs w v l) (hl : l.length ≤ 1000000) (c : UInt8) (hn : l[n]? = some c) (hc : c.toNat = 5) (t : List UInt8) (nk : Nat) (hi : textRes l ((n : Int) + 1) 64 = (t, nk, 0)) :
    Calls Try.prog 41 #[v, .int .i64 n] w (ValF ⟨5, 0, ⟨t.toArray⟩⟩ nk 0 w) := by
  have HB := Lib.hid hb
  obtain ⟨A, cap, rfl, hlc, -⟩ := hb
  have hnl : n < l.length := (List.getElem?_eq_some_iff.1 hn).1
  obtain ⟨g, o, rfl, hcc⟩ := byte_at (Rd.alloc HB.out (.cells #[.int .i64 0, .int .i64 0, .string ⟨#[]⟩] 41)) hn
  have hcc : ((w.alloc (.cells #[.int .i64 0, .int .i64 0, .string ⟨#[]⟩] 41))).cell? ⟨g, o + n, none⟩ = some (.int .u8 5) := by rw [hcc, hc]; rfl
  have q0 : ¬ (n : Int) < 0 := by omega
  have q1 : ¬ (l.length : Int) < (n : Int) := by omega
  have q2 : ((n : Int) == (l.length : Int)) = false := by simp; omega
  have q3 : (n : Int) < (l.length : Int) := by omega
  clear hn
  have HI := Lib.hid hi
  clear hi
  go_enter Try.func41, Try.ntmps41
  go_wp2_with fail
  refine (refTextF_any _ l ((n : Int) + 1) 64 _ (Rd.alloc (Rd.alloc HB.out _) _) hl (by omega)).mono ?_
  rw [HI.out]
  rintro e w1 ⟨rfl, hw1⟩
  subst hw1
  simp only [strOf]
  go_wp2
  exact bodyPost_ret (v := .tuple #[.agg #[.int .i64 5, .int .i64 0, .string ⟨t.toArray⟩], .int .i64 nk, .int .i64 0]) (results_val _ 4 5 6 rfl _ _ _ rfl rfl rfl ((Blk.new w _ _).alloc _)) rfl ⟨rfl, (((Kept.refl _ _).alloc _).alloc _)⟩

end Go.Proofs.Ytdpbpmokmlnleaa
