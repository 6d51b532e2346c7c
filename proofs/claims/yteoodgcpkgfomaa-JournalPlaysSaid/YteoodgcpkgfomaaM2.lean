/-
  Contracts and plain laws that the claim's theorem rests on, some texts in one file.
-/
import Derived.Test.YteoodgcpkgfomaaM1
import Derived.Defers
import Derived.Recover
import Derived.Laws.Pointers
import Derived.Deep.QuietTactic
import Derived.BigQuiet
import Derived.Laws.Slices
import Derived.WalkSpells
/-
  Codec: putInt, putText, AppendUint, AppendInt, AppendText, and those of the reference.
-/
namespace Go.Proofs.Yteoodgcpkgfomaa
open Go.RowKit
set_option linter.unusedVariables false

/-- Zigzag. -/
def zz (m : Int) : Nat := if 0 ≤ m then (2 * m).toNat else (-2 * m - 1).toNat
theorem zz_lt (m : Int) (h1 : -9223372036854775808 ≤ m) (h2 : m ≤ 9223372036854775807) : zz m < 18446744073709551616 := by unfold zz; split <;> omega

theorem xor_ones (a : Nat) (h : a < 18446744073709551616) : a ^^^ 18446744073709551615 = 18446744073709551615 - a := by
  have h1 := BitVec.xor_allOnes (x := BitVec.ofNat 64 a)
  have h2 := congrArg BitVec.toNat h1
  rw [BitVec.toNat_xor, BitVec.toNat_not, BitVec.toNat_ofNat, BitVec.toNat_allOnes] at h2
  rw [Nat.mod_eq_of_lt (by omega)] at h2
  exact h2
theorem zig (x m : Int) (h1 : -9223372036854775808 ≤ m) (h2 : m ≤ 9223372036854775807) (hx : x % 18446744073709551616 = (2 * m) % 18446744073709551616) :
    bits BinOp.xor IntKind.u64 (IntKind.u64.wrap x) (IntKind.u64.wrap (m / 9223372036854775808)) = (zz m : Int) := by
  rw [IntKind.wrap_u64, IntKind.wrap_u64, hx]
  by_cases hm : 0 ≤ m
  · have e1 : (2 * m) % 18446744073709551616 = (((2 * m).toNat : Nat) : Int) := by omega
    have e2 : (m / 9223372036854775808) % 18446744073709551616 = ((0 : Nat) : Int) := by omega
    rw [e1, e2, bits_xor_u64_nat _ _ (by omega) (by decide), Nat.xor_zero]
    simp [zz, hm]
  · have e1 : (2 * m) % 18446744073709551616 = (((2 * m + 18446744073709551616).toNat : Nat) : Int) := by omega
    have e2 : (m / 9223372036854775808) % 18446744073709551616 = ((18446744073709551615 : Nat) : Int) := by omega
    rw [e1, e2, bits_xor_u64_nat _ _ (by omega) (by decide), xor_ones _ (by omega)]
    simp only [zz, if_neg hm]
    omega
theorem zig1 (m : Int) (h1 : -9223372036854775808 ≤ m) (h2 : m ≤ 9223372036854775807) : bits BinOp.xor IntKind.u64 (IntKind.u64.wrap (wrap64 (m * 2))) (IntKind.u64.wrap (m / 9223372036854775808)) = (zz m : Int) := by
  refine zig _ m h1 h2 ?_
  unfold wrap64
  omega
theorem zig2 (m : Int) (h1 : -9223372036854775808 ≤ m) (h2 : m ≤ 9223372036854775807) : bits BinOp.xor IntKind.u64 (IntKind.u64.wrap (IntKind.u64.wrap m * 2)) (IntKind.u64.wrap (m / 9223372036854775808)) = (zz m : Int) := by
  refine zig _ m h1 h2 ?_
  rw [IntKind.wrap_u64]
  omega

/-- The bytes of a string. -/
def sbytes (s : ByteArray) : List UInt8 := s.data.toList
theorem strCells_bytes (s : ByteArray) : Lib.strCells s = (sbytes s).map bv := rfl
theorem sbytes_length (s : ByteArray) : (sbytes s).length = s.size := by simp [sbytes]

set_option maxHeartbeats 800000 in
theorem putText_any (base : Nat) (b : Value) (l : List UInt8) (s : ByteArray) (w : World) (h : OwnB w base 5 b l) (hs : s.size ≤ 16777000) (hl : l.length ≤ 140737000000000) (hb : base ≤ w.heap.size) :
    Calls Try.prog 66 #[b, .string s] w (PutB base (l ++ (leb s.size ++ sbytes s)) w) := by
  obtain ⟨M, hM⟩ : ∃ M, M = l ++ leb s.size := ⟨_, rfl⟩
  have hML : M.length ≤ l.length + 11 := by rw [hM, List.length_append]; have := (leb_length s.size).2; omega
  rw [← List.append_assoc, ← hM]
  have HM := Lib.hid hM
  clear hM
  obtain ⟨i0, hi, hz0, hz1, hz2⟩ := info_parts info_byte
  have H := Lib.hid h
  obtain ⟨A0, cap0, rfl⟩ := own_form h
  clear h
  go_enter Try.func66, Try.ntmps66
  go_wp2_with fail
  refine (putUint_any base _ l s.size w H.out (by omega) (by omega) hb).mono ?_
  rw [← HM.out]
  rintro e w1 ⟨A1, cap1, rfl, hown, hk1, hat⟩
  have m1 : M.length + s.size ≤ maxLen := by simp only [maxLen]; omega
  have m2 : M.length + s.size ≤ 140737488355328 := by omega
  have HO := Lib.hid hown
  have hb1 : base ≤ w1.heap.size := Nat.le_trans hb hk1.size
  clear hown
  go_wp2_with (at_builtin; go_must (refine Lib.wpList_append_own_string _ rfl _ _ 30 9 rfl base 5 i0 Try.underlying30 Try.underlying9 hi hz0 hz1 hz2 (.slice A1 M.length cap1) M.length (M.map bv) rfl HO.out s rfl m1 m2 hb1 ?_); intro v2 w2 hown2 hg2 hat2)
  obtain ⟨A2, cap2, hv2⟩ := own_form hown2
  subst hv2
  have e : (M ++ sbytes s).length = M.length + s.size := by simp [sbytes_length]
  have hx : PutB base (M ++ sbytes s) w (.returned (.slice A2 (M.length + s.size) cap2)) w2 := by
    refine ⟨A2, cap2, by rw [e], ?_, ?_⟩
    · unfold OwnB
      rw [e]
      have h9 := hown2
      rw [strCells_bytes, ← List.map_append] at h9
      exact h9
    · exact (hk1.mono (T := From base) (fun k _ h => (own_base H.out h).1)).grown hg2 (fun k _ h => (own_base HO.out h).1)
  have HX := Lib.hid hx
  clear hx hown2 hg2 hat2 e
  go_ret
  exact HX.out

theorem RetB.ofPut {m : List UInt8} {w w1 w2 : World} {e : Ending} (hk : Kept Kno w w1) (h : PutB w.heap.size m w1 e w2) : RetB m w e w2 := by
  obtain ⟨A, cap, h1, h2, h3⟩ := h
  exact ⟨A, cap, h1, h2, kept_from hk h3 (Nat.le_refl _)⟩

set_option maxHeartbeats 800000 in
theorem appendText_any (v : Value) (l : List UInt8) (s : ByteArray) (w : World) (h : Bs w v l) (hl : l.length + s.size ≤ 16000000) :
    Calls Try.prog 32 #[v, .string s] w (RetB (l ++ (leb s.size ++ sbytes s)) w) := by
  obtain ⟨M, hM⟩ : ∃ M, M = l ++ (leb s.size ++ sbytes s) := ⟨_, rfl⟩
  rw [← hM]
  have HM := Lib.hid hM
  clear hM
  have H := Lib.hid h
  obtain ⟨A, cap, rfl, -⟩ := h
  go_enter Try.func32, Try.ntmps32
  go_wp2_with fail
  have e10 : (10 : Int) + (s.size : Int) = ((10 + s.size : Nat) : Int) := by omega
  rw [e10]
  clear e10
  refine (grown_any _ l (10 + s.size) w H.out (by omega)).mono ?_
  rintro e w1 ⟨A1, cap1, rfl, hown, hk1⟩
  have HO := Lib.hid hown
  clear hown
  go_wp2_with fail
  refine (putText_any w.heap.size _ l s w1 HO.out (by omega) (by omega) hk1.size).mono ?_
  rw [← HM.out]
  rintro e w2 hp
  obtain ⟨A2, cap2, he, hown2, hk2⟩ := RetB.ofPut hk1 hp
  subst he
  have HX : Hid (RetB M w (.returned (.slice A2 M.length cap2)) w2) := Lib.hid ⟨A2, cap2, rfl, hown2, hk2⟩
  clear hp hown2
  go_wp2
  go_ret
  exact HX.out

set_option maxHeartbeats 800000 in
theorem refAppendText_any (v : Value) (l : List UInt8) (s : ByteArray) (w : World) (h : Bs w v l) (hl : l.length + s.size ≤ 16000000) :
    Calls Try.prog 74 #[v, .string s] w (RetB (l ++ (leb s.size ++ sbytes s)) w) := by
  obtain ⟨M, hM⟩ : ∃ M, M = l ++ leb s.size := ⟨_, rfl⟩
  have hML : M.length ≤ l.length + 11 := by rw [hM, List.length_append]; have := (leb_length s.size).2; omega
  rw [← List.append_assoc, ← hM]
  have HM := Lib.hid hM
  clear hM
  obtain ⟨i0, hi, hz0, hz1, hz2⟩ := info_parts info_byte
  have H := Lib.hid h
  obtain ⟨A, cap, rfl, -⟩ := h
  go_enter Try.func74, Try.ntmps74
  go_wp2_with fail
  refine (fresh_any _ l w H.out (by omega)).mono ?_
  rintro e w0 ⟨A0, cap0, rfl, hown0, hk0⟩
  have H0 := Lib.hid hown0
  clear hown0
  go_wp2_with fail
  refine (refUint_any w.heap.size _ l s.size w0 H0.out (by omega) (by omega) hk0.size).mono ?_
  rw [← HM.out]
  rintro e w1 ⟨A1, cap1, rfl, hown, hk1, hat⟩
  have m1 : M.length + s.size ≤ maxLen := by simp only [maxLen]; omega
  have m2 : M.length + s.size ≤ 140737488355328 := by omega
  have HO := Lib.hid hown
  have hb1 : w.heap.size ≤ w1.heap.size := Nat.le_trans hk0.size hk1.size
  clear hown
  go_wp2_with (at_builtin; go_must (refine Lib.wpList_append_own_string _ rfl _ _ 30 9 rfl w.heap.size 5 i0 Try.underlying30 Try.underlying9 hi hz0 hz1 hz2 (.slice A1 M.length cap1) M.length (M.map bv) rfl HO.out s rfl m1 m2 hb1 ?_); intro v2 w2 hown2 hg2 hat2)
  obtain ⟨A2, cap2, hv2⟩ := own_form hown2
  subst hv2
  have e : (M ++ sbytes s).length = M.length + s.size := by simp [sbytes_length]
  have hx : RetB (M ++ sbytes s) w (.returned (.slice A2 (M.length + s.size) cap2)) w2 := by
    refine ⟨A2, cap2, by rw [e], ?_, ?_⟩
    · unfold OwnB
      rw [e]
      have h9 := hown2
      rw [strCells_bytes, ← List.map_append] at h9
      exact h9
    · exact kept_from hk0 ((hk1.mono (T := From w.heap.size) (fun k _ h => (own_base H0.out h).1)).grown hg2 (fun k _ h => (own_base HO.out h).1)) (Nat.le_refl _)
  have HX := Lib.hid hx
  clear hx hown2 hg2 hat2 e
  go_ret
  exact HX.out

end Go.Proofs.Yteoodgcpkgfomaa
/-
  Codec: the reader of bytes: next, begin, uint.
-/
namespace Go.Proofs.Yteoodgcpkgfomaa
open Go.RowKit
set_option linter.unusedVariables false

/-- A panic with a code. -/
def Pan (c : Int) : Ending := .panicked [{ v := .iface 27 (.int .i64 c), recovered := false }]

/-- Block D is a reader of v at the index n. -/
def Rdr (w : World) (D : Nat) (v : Value) (n : Nat) : Prop := Blk w D 121 #[v, .int .i64 (n : Int)]

theorem rdr_no_byte {w : World} {D n : Nat} {A : Option Addr} {m cap : Nat} (h : Rdr w D (.slice A m cap) n) {p : Addr} {x : Int} (hc : w.cell? p = some (.int .u8 x)) : p.block ≠ D := by
  obtain ⟨g, o, spot⟩ := p
  rintro rfl
  have hs := World.cell?_spot hc
  simp only at hs
  subst hs
  rw [Blk.cell h] at hc
  rcases o with _ | _ | o
  · simp at hc
  · simp at hc
  · simp at hc
theorem Rdr.bs {w w1 : World} {D n : Nat} {v : Value} {l m : List UInt8} {u : Value} (h : Rdr w D v n) (hv : Bs w v l) (hb : Bs w u m) (hk : Kept (Kone D) w w1) : Bs w1 u m := by
  obtain ⟨A0, cap0, rfl, -⟩ := hv
  obtain ⟨A, cap, rfl, h1, h2, h3, h4⟩ := hb
  refine ⟨A, cap, rfl, h1, h2, h3, fun ad hA j x hj => ?_⟩
  have hc := h4 ad hA j x hj
  rw [List.getElem?_map] at hj
  cases hq : m[j]? with
  | none => rw [hq] at hj; cases hj
  | some c =>
    rw [hq] at hj
    simp only [Option.map_some, Option.some.injEq] at hj
    subst hj
    exact hk.cell_some hc (fun e => rdr_no_byte h hc e)

set_option maxHeartbeats 800000 in
theorem next_end (D : Nat) (v : Value) (l : List UInt8) (w : World) (h : Rdr w D v l.length) (hb : Bs w v l) :
    Calls Try.prog 95 #[.pointer (some ⟨D, 0, none⟩)] w fun e w' => e = Pan 20 ∧ Kept Kno w w' := by
  have c0 : w.cell? ⟨D, 0, none⟩ = some v := h.cell 0
  have c1 : w.cell? ⟨D, 1, none⟩ = some (.int .i64 (l.length : Int)) := h.cell 1
  obtain ⟨A, cap, rfl, -⟩ := hb
  clear h
  go_enter Try.func95, Try.ntmps95
  go_wp2_with fail
  go_quiet (fail)
  go_wp2
  exact ⟨rfl, rfl, (Kept.refl _ _).drewN _⟩

set_option maxHeartbeats 800000 in
theorem next_byte (D n : Nat) (v : Value) (l : List UInt8) (c : UInt8) (w : World) (h : Rdr w D v n) (hb : Bs w v l) (hl : l.length ≤ maxLen) (hn : l[n]? = some c) :
    Calls Try.prog 95 #[.pointer (some ⟨D, 0, none⟩)] w fun e w' => e = .returned (.int .u8 c.toNat) ∧ Rdr w' D v (n + 1) ∧ Kept (Kone D) w w' := by
  have H := Lib.hid h
  have c0 : w.cell? ⟨D, 0, none⟩ = some v := h.cell 0
  have c1 : w.cell? ⟨D, 1, none⟩ = some (.int .i64 (n : Int)) := h.cell 1
  have f1 := h.frozen 1
  have hnl : n < l.length := (List.getElem?_eq_some_iff.1 hn).1
  obtain ⟨A, cap, rfl, hlc, h2, h3, h4⟩ := hb
  have hml : l.length ≤ 9223372036854775807 := by simp only [maxLen] at hl; omega
  rcases A with _ | ad
  · have := (h3 rfl).1; omega
  · have hcc := h4 ad rfl n (bv c) (by rw [List.getElem?_map, hn]; rfl)
    obtain ⟨g, o, spot⟩ := ad
    have hs : spot = none := by
      have h0 := h4 ⟨g, o, spot⟩ rfl 0 (bv (l[0]'(by omega))) (by rw [List.getElem?_map, List.getElem?_eq_getElem (by omega)]; rfl)
      have := World.cell?_spot h0
      simpa [Addr.add] using this
    subst hs
    rw [add_lit0] at hcc
    have hcc' : w.cell? ⟨g, o + n, none⟩ = some (.int .u8 c.toNat) := hcc
    have hgD : g ≠ D := rdr_no_byte H.out hcc'
    have hne : ((n : Int) == (l.length : Int)) = false := by simp; omega
    have hn0 : (0 : Int) ≤ (n : Int) := by omega
    have hn1 : (n : Int) < (l.length : Int) := by omega
    clear h h4 hcc h2 h3
    go_enter Try.func95, Try.ntmps95
    go_wp2_with fail
    go_quiet (fail)
    have hq : Kept Kno w (w.drewN nq) := (Kept.refl _ _).drewN nq
    have d0 : (w.drewN nq).cell? ⟨D, 0, none⟩ = some (.slice (some ⟨g, o, none⟩) l.length cap) := c0
    have d1 : (w.drewN nq).cell? ⟨D, 1, none⟩ = some (.int .i64 (n : Int)) := c1
    have d2 : (w.drewN nq).cell? ⟨g, o + n, none⟩ = some (.int .u8 c.toNat) := hcc'
    have d3 : (w.drewN nq).frozen? ⟨D, 1, none⟩ = false := f1
    have HR : Hid (Rdr (w.drewN nq) D (.slice (some ⟨g, o, none⟩) l.length cap) n) := Lib.hid H.out
    generalize w.drewN nq = wq at hq d0 d1 d2 d3 HR ⊢
    clear c0 c1 hcc' f1
    go_wp2_with fail
    go_quiet (fail)
    have hlt9 : (n : Int) + 1 ≤ 9223372036854775807 := by omega
    go_wp2
    go_ret
    refine ⟨rfl, ?_, ?_⟩
    · have := (Blk.drewN HR.out nq).set_ 1 (.int .i64 ((n : Int) + 1))
      exact this
    · exact ((hq.mono (T := Kone D) (fun _ _ e => e.elim)).drewN _).setIn (p := ⟨D, 1, none⟩) (Eq.refl D) _


/-- What a number's bytes say: f bytes are still let in, i have been read and make N. -/
def rdF : Nat → Nat → Nat → List UInt8 → Except Int (Nat × Nat)
  | 0, _, _, _ => .error 21
  | _ + 1, _, _, [] => .error 20
  | f + 1, i, N, c :: r => if 128 ≤ c.toNat then rdF f (i + 1) (N + (c.toNat - 128) * 2 ^ (7 * i)) r else if (c.toNat = 0 ∧ 0 < i) ∨ (1 < c.toNat ∧ i = 9) then .error 21 else .ok (N + c.toNat * 2 ^ (7 * i), i + 1)
def uintAt (l : List UInt8) (n : Nat) : Except Int (Nat × Nat) := rdF 10 0 0 (l.drop n)

theorem and_low (c : UInt8) : bits BinOp.and IntKind.u8 ((c.toNat : Nat) : Int) 127 = ((c.toNat % 128 : Nat) : Int) := by
  have h1 : ∀ x : Fin 256, bits BinOp.and IntKind.u8 ((x.val : Nat) : Int) 127 = ((x.val % 128 : Nat) : Int) := by decide +kernel
  exact h1 ⟨c.toNat, c.toNat_lt⟩
theorem shl_val (N k : Nat) (c : UInt8) (hN : N < 2 ^ (7 * k)) (hk : k ≤ 9) : ∃ M : Nat, bits BinOp.or IntKind.u64 (N : Int) (IntKind.u64.wrap (IntKind.u64.wrap (bits BinOp.and IntKind.u8 ((c.toNat : Nat) : Int) 127) * 2 ^ (7 * k))) = (M : Int) ∧ M < 18446744073709551616 ∧ ((k ≤ 8 ∨ c.toNat % 128 ≤ 1) → M = N + (c.toNat % 128) * 2 ^ (7 * k)) := by
  have hN64 : N < 18446744073709551616 := by
    have : 2 ^ (7 * k) ≤ 2 ^ 63 := Nat.pow_le_pow_right (by decide) (by omega)
    omega
  have e0 : IntKind.u64.wrap (bits BinOp.and IntKind.u8 ((c.toNat : Nat) : Int) 127) = ((c.toNat % 128 : Nat) : Int) := by
    rw [and_low, IntKind.wrap_u64]
    omega
  have e1 : IntKind.u64.wrap (((c.toNat % 128 : Nat) : Int) * 2 ^ (7 * k)) = (((c.toNat % 128) * 2 ^ (7 * k) % 18446744073709551616 : Nat) : Int) := by
    rw [IntKind.wrap_u64]
    have : (((c.toNat % 128 : Nat) : Int) * 2 ^ (7 * k)) = (((c.toNat % 128) * 2 ^ (7 * k) : Nat) : Int) := by
      rw [Int.natCast_mul, Int.natCast_pow]
      rfl
    rw [this, Int.natCast_emod]
    rfl
  have hX : (c.toNat % 128) * 2 ^ (7 * k) % 18446744073709551616 < 18446744073709551616 := Nat.mod_lt _ (by decide)
  refine ⟨N ||| ((c.toNat % 128) * 2 ^ (7 * k) % 18446744073709551616), ?_, ?_, fun hs => ?_⟩
  · rw [e0, e1, bits_or_u64_nat _ _ hN64 hX]
  · exact Nat.or_lt_two_pow (n := 64) hN64 hX
  · have hlt : (c.toNat % 128) * 2 ^ (7 * k) < 18446744073709551616 := by
      rcases hs with hs | hs
      · have h1 : 2 ^ (7 * k) ≤ 2 ^ 56 := Nat.pow_le_pow_right (by decide) (by omega)
        have h2 : (c.toNat % 128) * 2 ^ (7 * k) ≤ 127 * 2 ^ 56 := Nat.mul_le_mul (by omega) h1
        omega
      · have h1 : 2 ^ (7 * k) ≤ 2 ^ 63 := Nat.pow_le_pow_right (by decide) (by omega)
        have h2 : (c.toNat % 128) * 2 ^ (7 * k) ≤ 1 * 2 ^ 63 := Nat.mul_le_mul hs h1
        omega
    rw [Nat.mod_eq_of_lt hlt]
    have h3 := Nat.two_pow_add_eq_or_of_lt hN (c.toNat % 128)
    rw [Nat.or_comm, Nat.mul_comm, ← h3]
    omega

def UintOk (D : Nat) (v : Value) (n : Nat) (x : Except Int (Nat × Nat)) (w : World) (e : Ending) (w' : World) : Prop :=
  Kept (Kone D) w w' ∧ match x with
    | .ok (N, k) => e = .returned (.int .u64 N) ∧ Rdr w' D v (n + k)
    | .error c => e = Pan c

def UintRel (D : Nat) (v : Value) (n : Nat) (l : List UInt8) (w : World) (nv i : Value) (wr : World) : Prop :=
  ∃ k N : Nat, k ≤ 10 ∧ i = .int .i64 k ∧ nv = .int .u64 N ∧ N < 2 ^ (7 * k) ∧ Rdr wr D v (n + k) ∧ Kept (Kone D) w wr ∧ n + k ≤ l.length ∧ rdF (10 - k) k N (l.drop (n + k)) = uintAt l n

set_option maxRecDepth 100000 in
set_option maxHeartbeats 4000000 in
theorem uint_any (D n : Nat) (v : Value) (l : List UInt8) (w : World) (h : Rdr w D v n) (hb : Bs w v l) (hl : l.length ≤ 1000000) (hn : n ≤ l.length) :
    Calls Try.prog 93 #[.pointer (some ⟨D, 0, none⟩)] w (UintOk D v n (uintAt l n) w) := by
  have H := Lib.hid h
  have HB := Lib.hid hb
  clear h hb
  go_enter Try.func93, Try.ntmps93
  go_wp2_with fail
  go_loopw [3, 6] (fun nv i wr => UintRel D v n l w nv i wr) (fun _ i _ => 10 - (intOf i).toNat)
  case atStart => exact ⟨0, 0, by omega, rfl, rfl, by decide, H.out, Kept.refl _ _, hn, rfl⟩
  case round =>
    obtain ⟨k, N, hk, rfl, rfl, hN, hr, hkk, hnk, heq⟩ := hrel
    have HR := Lib.hid hr
    have HE := Lib.hid heq
    have HN := Lib.hid hN
    clear hr heq hN
    by_cases hlt : k < 10
    · have hk0 : (0 : Int) ≤ (k : Int) := by omega
      have hk9 : (k : Int) < 10 := by omega
      have hbr : Bs wr v l := H.out.bs HB.out HB.out hkk
      have HBR := Lib.hid hbr
      clear hbr
      by_cases hend : n + k = l.length
      · have hx : uintAt l n = .error 20 := by
          rw [← HE.out, hend, List.drop_length, show 10 - k = (9 - k) + 1 by omega]
          rfl
        have HX := Lib.hid hx
        clear hx
        go_wp2_with fail
        refine (next_end D v l wr (by have := HR.out; rw [hend] at this; exact this) HBR.out).mono ?_
        rintro e w1 ⟨rfl, hk1⟩
        refine ⟨rfl, ?_⟩
        rw [HX.out]
        exact ⟨hkk.then0 hk1, rfl⟩
      · have hcl : n + k < l.length := by omega
        obtain ⟨c, hc⟩ : ∃ c, l[n + k]? = some c := ⟨_, List.getElem?_eq_getElem hcl⟩
        have hdr : l.drop (n + k) = c :: l.drop (n + k + 1) := by
          obtain ⟨h1, h2⟩ := List.getElem?_eq_some_iff.1 hc
          rw [List.drop_eq_getElem_cons h1, h2]
        have hfe := HE.out
        rw [hdr, show 10 - k = (9 - k) + 1 by omega] at hfe
        simp only [rdF] at hfe
        have HFE := Lib.hid hfe
        have HC := Lib.hid hc
        have c256 : c.toNat < 256 := c.toNat_lt
        obtain ⟨M, hM1, hM2, hM3⟩ := shl_val N k c HN.out (by omega)
        have HM3 := Lib.hid hM3
        have HM2 := Lib.hid hM2
        clear hdr hfe hc hM3 hM2
        go_wp2_with fail
        refine (next_byte D (n + k) v l c wr HR.out HBR.out (by simp only [maxLen]; omega) HC.out).mono ?_
        rintro e w1 ⟨rfl, hr1, hk1⟩
        have HR1 := Lib.hid hr1
        have hkk1 : Kept (Kone D) w w1 := hkk.trans hk1 (fun _ _ e => e)
        clear hr1 hk1
        by_cases hge : 128 ≤ c.toNat
        · have hge2 : (128 : Int) ≤ (c.toNat : Int) := by omega
          go_wp2_with fail
          have hfe := HFE.out
          rw [if_pos hge] at hfe
          refine ⟨⟨k + 1, M, by omega, by go_num, rfl, ?_, HR1.out, hkk1, by omega, ?_⟩, by simp [intOf]; omega⟩
          · by_cases hk8 : k ≤ 8
            · have h1 := HM3.out (.inl hk8)
              have h2 := HN.out
              have h3 : c.toNat % 128 ≤ 127 := by omega
              have h4 : (c.toNat % 128) * 2 ^ (7 * k) ≤ 127 * 2 ^ (7 * k) := Nat.mul_le_mul_right _ h3
              have h5 : 2 ^ (7 * (k + 1)) = 128 * 2 ^ (7 * k) := by rw [show 7 * (k + 1) = 7 * k + 7 by omega, Nat.pow_add]; omega
              omega
            · have h5 : 2 ^ 70 ≤ 2 ^ (7 * (k + 1)) := Nat.pow_le_pow_right (by decide) (by omega)
              have := HM2.out
              omega
          · by_cases hk8 : k ≤ 8
            · rw [← hfe, HM3.out (.inl hk8), show c.toNat % 128 = c.toNat - 128 by omega, show 10 - (k + 1) = 9 - k by omega]
              rfl
            · obtain rfl : k = 9 := by omega
              rw [← hfe]
              have e1 : 10 - (9 + 1) = 0 := rfl
              rw [e1]
              simp only [rdF]
        · have hge2 : ¬ (128 : Int) ≤ (c.toNat : Int) := by omega
          have hfe := HFE.out
          rw [if_neg hge] at hfe
          by_cases hbad : (c.toNat = 0 ∧ 0 < k) ∨ (1 < c.toNat ∧ k = 9)
          · rw [if_pos hbad] at hfe
            have HX := Lib.hid hfe
            clear hfe
            rcases hbad with ⟨hb1, hb2⟩ | ⟨hb1, hb2⟩
            · have hb3 : ((c.toNat : Int) == 0) = true := by simp [hb1]
              have hb4 : (0 : Int) < (k : Int) := by omega
              clear hb1
              go_wp2
              refine ⟨rfl, ?_⟩
              rw [← HX.out]
              exact ⟨hkk1, rfl⟩
            · subst hb2
              have hb3 : ((c.toNat : Int) == 0) = false := by simp; omega
              have hb4 : (1 : Int) < (c.toNat : Int) := by omega
              go_wp2
              refine ⟨rfl, ?_⟩
              rw [← HX.out]
              exact ⟨hkk1, rfl⟩
          · rw [if_neg hbad] at hfe
            have hm : M = N + c.toNat * 2 ^ (7 * k) := by
              rw [HM3.out (by omega), show c.toNat % 128 = c.toNat by omega]
            rw [← hm] at hfe
            have HX := Lib.hid hfe
            clear hfe hm
            have hx : UintOk D v n (uintAt l n) w (.returned (.int .u64 M)) w1 := by
              rw [← HX.out]
              exact ⟨hkk1, rfl, by have := HR1.out; rw [Nat.add_assoc] at this; exact this⟩
            have HXX := Lib.hid hx
            clear hx
            by_cases hz : c.toNat = 0
            · have hk00 : k = 0 := by omega
              have hb2 : ¬ (0 : Int) < (k : Int) := by omega
              clear hk00
              have hb3 : ((c.toNat : Int) == 0) = true := by simp [hz]
              have hb4 : ¬ (1 : Int) < (c.toNat : Int) := by omega
              clear hz
              go_wp2
              go_ret
              exact HXX.out
            · have hb3 : ((c.toNat : Int) == 0) = false := by simpa using hz
              by_cases h1 : 1 < c.toNat
              · have hb4 : (1 : Int) < (c.toNat : Int) := by omega
                have hb5 : ((k : Int) == 9) = false := by simp; omega
                go_wp2
                go_ret
                exact HXX.out
              · have hb4 : ¬ (1 : Int) < (c.toNat : Int) := by omega
                go_wp2
                go_ret
                exact HXX.out
    · have hk9 : ¬ (k : Int) < 10 := by omega
      obtain rfl : k = 10 := by omega
      have hx : uintAt l n = .error 21 := by rw [← HE.out]; rfl
      have HX := Lib.hid hx
      clear hx
      go_wp2
      refine ⟨rfl, ?_⟩
      rw [HX.out]
      exact ⟨hkk, rfl⟩

end Go.Proofs.Yteoodgcpkgfomaa
/-
  Codec: begin; Uint with its deferred closure.
-/
namespace Go.Proofs.Yteoodgcpkgfomaa
open Go.RowKit
set_option linter.unusedVariables false

set_option maxHeartbeats 400000 in
theorem begin_bad (v : Value) (l : List UInt8) (n : Int) (w : World) (hb : Bs w v l) (hn : n < 0 ∨ (l.length : Int) < n) :
    Calls Try.prog 90 #[v, .int .i64 n] w fun e w' => e = Pan 1 ∧ w = w' := by
  obtain ⟨A, cap, rfl, -⟩ := hb
  by_cases h0 : n < 0
  · go_enter Try.func90, Try.ntmps90
    go_wp2
    exact ⟨rfl, rfl, rfl⟩
  · have h1 : (l.length : Int) < n := by omega
    go_enter Try.func90, Try.ntmps90
    go_wp2
    exact ⟨rfl, rfl, rfl⟩

set_option maxHeartbeats 400000 in
theorem begin_ok (v : Value) (l : List UInt8) (n : Nat) (w : World) (hb : Bs w v l) (hn : n ≤ l.length) :
    Calls Try.prog 90 #[v, .int .i64 n] w fun e w' => e = .returned (.pointer (some ⟨w.heap.size, 0, none⟩)) ∧ w' = w.alloc (.cells #[v, .int .i64 n] 121) := by
  obtain ⟨A, cap, rfl, -⟩ := hb
  have h0 : ¬ (n : Int) < 0 := by omega
  have h1 : ¬ (l.length : Int) < (n : Int) := by omega
  go_enter Try.func90, Try.ntmps90
  go_wp2
  go_ret
  exact ⟨rfl, rfl⟩

theorem errno_zero (w : World) : (zeroValue 27).run Try.prog w = .ok (.int .i64 0) w := by
  have h : (Try.prog.info? 27).map (·.zero) = some (some (.int .i64 0)) := by kernel_rfl
  obtain ⟨i, hi, hz⟩ := Option.map_eq_some_iff.1 h
  simp [zeroValue, typeInfo, hi, hz]
theorem assert_is (c : Int) (w : World) : (Instr.typeAssert (.iface 27 (.int .i64 c)) 20 27 true).run Try.prog w = .ok (.tuple #[.int .i64 c, .bool true]) w := by
  simp [Instr.typeAssert, run_underlying Try.underlying27, go_sem, Result.andThen]
theorem assert_nil (w : World) : (Instr.typeAssert .nilIface 20 27 true).run Try.prog w = .ok (.tuple #[.int .i64 0, .bool false]) w := by
  simp [Instr.typeAssert, run_underlying Try.underlying27, errno_zero, go_sem, Result.andThen]

set_option maxHeartbeats 1000000 in
theorem uintD_panicking (p q r : Addr) (x y z c : Int) (older : List PanicEntry) (w : World) (h1 : w.cell? p = some (.int .u64 x)) (f1 : w.frozen? p = false) (h2 : w.cell? q = some (.int .i64 y)) (f2 : w.frozen? q = false) (h3 : w.cell? r = some (.int .i64 z)) (f3 : w.frozen? r = false) (hpq : p.block ≠ q.block) (hpr : p.block ≠ r.block) (hqr : q.block ≠ r.block) :
    CallsD Try.prog 94 #[.pointer (some p), .pointer (some q), .pointer (some r)] (.panicking ({ v := .iface 27 (.int .i64 c), recovered := false } :: older)) w fun e u' w' =>
      e = .returned (.tuple #[]) ∧ u' = .panicking ({ v := .iface 27 (.int .i64 c), recovered := true } :: older) ∧ w' = ((w.setCell p (.int .u64 0)).setCell q (.int .i64 0)).setCell r (.int .i64 c) := by
  have g2 : (w.setCell p (.int .u64 0)).cell? q = some (.int .i64 y) := (World.cell?_setCell_far _ _ _ _ hpq).trans h2
  have g3 : ((w.setCell p (.int .u64 0)).setCell q (.int .i64 0)).cell? r = some (.int .i64 z) := (World.cell?_setCell_far _ _ _ _ hqr).trans ((World.cell?_setCell_far _ _ _ _ hpr).trans h3)
  have k2 : (w.setCell p (.int .u64 0)).frozen? q = false := (World.frozen?_setCell _ _ _ _).trans f2
  have k3 : ((w.setCell p (.int .u64 0)).setCell q (.int .i64 0)).frozen? r = false := (World.frozen?_setCell _ _ _ _).trans ((World.frozen?_setCell _ _ _ _).trans f3)
  refine callsD_of_wpS Try.func94 rfl fun c₀ cs hu => ?_
  apply wpS_seq
  apply wpS_region
  simp [wpOpsS, go_sem, recoverD, hu, Try.ntmps94, Exit.thenS, assert_is]
  apply wpS_seq
  apply wpS_region
  simp [wpOpsS, go_sem, Exit.thenS]
  refine wpS_cond (t := true) (by simp [Act.eval, Array.replicate]) ?_
  simp only [if_true]
  apply wpS_region
  simp [wpOpsS, go_sem, h1, f1, g2, g3, k2, k3, bodyPostS, results, Try.results94]

set_option maxHeartbeats 1000000 in
theorem uintD_idle (p q r : Addr) (w : World) :
    CallsD Try.prog 94 #[.pointer (some p), .pointer (some q), .pointer (some r)] .returning w fun e u' w' => e = .returned (.tuple #[]) ∧ u' = .returning ∧ w' = w := by
  refine callsD_of_wpS Try.func94 rfl fun c₀ cs hu => ?_
  apply wpS_seq
  apply wpS_region
  simp [wpOpsS, go_sem, recoverD, hu, Try.ntmps94, Exit.thenS, assert_nil]
  apply wpS_seq
  apply wpS_region
  simp [wpOpsS, go_sem, Exit.thenS]
  refine wpS_cond (t := false) (by simp [Act.eval, Array.replicate]) ?_
  simp only [Bool.false_eq_true, if_false]
  refine wpS_of_wp (wp_skip ?_)
  cases c₀
  simp_all [bodyPostS, results, Try.results94]

end Go.Proofs.Yteoodgcpkgfomaa
/-
  Codec: Uint.
-/
namespace Go.Proofs.Yteoodgcpkgfomaa
open Go.RowKit
set_option linter.unusedVariables false

/-- What Uint returns. -/
def uintRes (l : List UInt8) (n : Int) : Nat × Nat × Int :=
  if n < 0 ∨ (l.length : Int) < n then (0, 0, 1) else match uintAt l n.toNat with
    | .ok (N, k) => (N, n.toNat + k, 0)
    | .error c => (0, 0, c)

/-- The three named results, in blocks of their own. -/
structure Door (w wx : World) (a b c : Value) : Prop where
  k : Kept Kno w wx
  b0 : Blk wx w.heap.size 108 #[a]
  b1 : Blk wx (w.heap.size + 1) 3 #[b]
  b2 : Blk wx (w.heap.size + 1 + 1) 27 #[c]
theorem door_new (w : World) (a b c : Value) : Door w (((w.alloc (.cells #[a] 108)).alloc (.cells #[b] 3)).alloc (.cells #[c] 27)) a b c := by
  refine ⟨(((Kept.refl _ w).alloc _).alloc _).alloc _, ((Blk.new w _ _).alloc _).alloc _, ?_, ?_⟩
  · have h := (Blk.new (w.alloc (.cells #[a] 108)) 3 #[b]).alloc (.cells #[c] 27)
    have e : (w.alloc (.cells #[a] 108)).heap.size = w.heap.size + 1 := by simp
    rw [e] at h
    exact h
  · have h := Blk.new ((w.alloc (.cells #[a] 108)).alloc (.cells #[b] 3)) 27 #[c]
    have e : ((w.alloc (.cells #[a] 108)).alloc (.cells #[b] 3)).heap.size = w.heap.size + 1 + 1 := by simp
    rw [e] at h
    exact h
theorem Door.kept {w wx wy : World} {a b c : Value} {S : Nat → Prop} (h : Door w wx a b c) (hk : Kept S wx wy) (hS : ∀ k, k ≤ w.heap.size + 2 → ¬ S k) : Door w wy a b c :=
  ⟨h.k.trans hk (fun i hi hs => absurd hs (hS i (by omega))), h.b0.kept hk (hS _ (by omega)), h.b1.kept hk (hS _ (by omega)), h.b2.kept hk (hS _ (by omega))⟩
theorem Door.set {w wx : World} {a b c a' b' c' : Value} (h : Door w wx a b c) : Door w (((wx.setCell ⟨w.heap.size, 0, none⟩ a').setCell ⟨w.heap.size + 1, 0, none⟩ b').setCell ⟨w.heap.size + 1 + 1, 0, none⟩ c') a' b' c' := by
  refine ⟨?_, ?_, ?_, ?_⟩
  · exact ((h.k.setNew (p := ⟨w.heap.size, 0, none⟩) (Nat.le_refl _) _).setNew (p := ⟨w.heap.size + 1, 0, none⟩) (by simp) _).setNew (p := ⟨w.heap.size + 1 + 1, 0, none⟩) (by simp; omega) _
  · exact ((h.b0.set_ 0 a').far (by simp) _).far (by simp; omega) _
  · exact ((h.b1.far (by simp) _).set_ 0 b').far (by simp) _
  · exact ((h.b2.far (by simp; omega) _).far (by simp) _).set_ 0 c'

theorem Door.set1 {w wx : World} {a b c a' : Value} (h : Door w wx a b c) : Door w (wx.setCell ⟨w.heap.size, 0, none⟩ a') a' b c :=
  ⟨h.k.setNew (p := ⟨w.heap.size, 0, none⟩) (Nat.le_refl _) _, h.b0.set_ 0 a', h.b1.far (by simp) _, h.b2.far (by simp; omega) _⟩

set_option maxHeartbeats 1000000 in
theorem uintF_bad (v : Value) (l : List UInt8) (n : Int) (w : World) (hb : Bs w v l) (hn : n < 0 ∨ (l.length : Int) < n) :
    Calls Try.prog 92 #[v, .int .i64 n] w fun e w' => e = .returned (.tuple #[.int .u64 0, .int .i64 0, .int .i64 1]) ∧ Kept Kno w w' := by
  have HB := Lib.hid hb
  obtain ⟨A, cap, rfl, -⟩ := hb
  have hmf : ∀ (fn : Fn) (first cap : Array Value) (w : World), (Instr.makeFunc fn first cap).run Try.prog w = .ok (.func fn first cap) w := fun _ _ _ _ => rfl
  have HN := Lib.hid hn
  clear hn
  go_enter_defers Try.func92, Try.ntmps92
  go_wp2_with fail
  have hd := door_new w (.int .u64 0) (.int .i64 0) (.int .i64 0)
  generalize (((w.alloc (.cells #[.int .u64 0] 108)).alloc (.cells #[.int .i64 0] 3)).alloc (.cells #[.int .i64 0] 27)) = wx at hd ⊢
  refine (begin_bad _ l n wx (HB.out.kept0 hd.k) HN.out).mono ?_
  rintro e w1 ⟨rfl, rfl⟩
  refine leaves_cons (f := 94) (args := #[.pointer (some ⟨w.heap.size, 0, none⟩), .pointer (some ⟨w.heap.size + 1, 0, none⟩), .pointer (some ⟨w.heap.size + 1 + 1, 0, none⟩)]) (by simp) (by simp [go_sem]) ?_
  refine (uintD_panicking _ _ _ 0 0 0 1 [] _ (hd.b0.cell 0) (hd.b0.frozen 0) (hd.b1.cell 0) (hd.b1.frozen 0) (hd.b2.cell 0) (hd.b2.frozen 0) (by simp) (by simp; omega) (by simp)).mono ?_
  rintro e u' w'' ⟨rfl, rfl, rfl⟩
  have hd2 := hd.set (a' := .int .u64 0) (b' := .int .i64 0) (c' := .int .i64 1)
  generalize (((wx.setCell ⟨w.heap.size, 0, none⟩ (.int .u64 0)).setCell ⟨w.heap.size + 1, 0, none⟩ (.int .i64 0)).setCell ⟨w.heap.size + 1 + 1, 0, none⟩ (.int .i64 1)) = wy at hd2 ⊢
  have e0 : wy.cell? ⟨w.heap.size, 0, none⟩ = some (.int .u64 0) := hd2.b0.cell 0
  have e1 : wy.cell? ⟨w.heap.size + 1, 0, none⟩ = some (.int .i64 0) := hd2.b1.cell 0
  have e2 : wy.cell? ⟨w.heap.size + 1 + 1, 0, none⟩ = some (.int .i64 1) := hd2.b2.cell 0
  have hk := hd2.k
  clear hd hd2
  simp [Leaves, settle, results, Try.results92, go_sem, e0, e1, e2, hk]

set_option maxHeartbeats 2000000 in
theorem uintF_err (v : Value) (l : List UInt8) (n : Nat) (c : Int) (w : World) (hb : Bs w v l) (hl : l.length ≤ 1000000) (hn : n ≤ l.length) (hx : uintAt l n = .error c) :
    Calls Try.prog 92 #[v, .int .i64 n] w fun e w' => e = .returned (.tuple #[.int .u64 0, .int .i64 0, .int .i64 c]) ∧ Kept Kno w w' := by
  have HB := Lib.hid hb
  obtain ⟨A, cap, rfl, -⟩ := hb
  have hmf : ∀ (fn : Fn) (first cap : Array Value) (w : World), (Instr.makeFunc fn first cap).run Try.prog w = .ok (.func fn first cap) w := fun _ _ _ _ => rfl
  have HX := Lib.hid hx
  clear hx
  go_enter_defers Try.func92, Try.ntmps92
  go_wp2_with fail
  have hd := door_new w (.int .u64 0) (.int .i64 0) (.int .i64 0)
  generalize (((w.alloc (.cells #[.int .u64 0] 108)).alloc (.cells #[.int .i64 0] 3)).alloc (.cells #[.int .i64 0] 27)) = wx at hd ⊢
  have HD := Lib.hid hd
  clear hd
  refine (begin_ok _ l n wx (HB.out.kept0 HD.out.k) hn).mono ?_
  rintro e w1 ⟨rfl, hw1⟩
  have hr1 : Rdr w1 wx.heap.size (.slice A l.length cap) n := by rw [hw1]; exact Blk.new _ _ _
  have hd1 : Door w w1 (.int .u64 0) (.int .i64 0) (.int .i64 0) := by rw [hw1]; exact HD.out.kept ((Kept.refl Kno wx).alloc _) (fun _ _ h => h)
  have hlt : w.heap.size + 1 + 1 < wx.heap.size := HD.out.b2.lt
  have HR1 := Lib.hid hr1
  have HD1 := Lib.hid hd1
  clear hw1 hr1 hd1
  go_wp2_with fail
  refine (uint_any wx.heap.size n _ l w1 HR1.out (HB.out.kept0 HD1.out.k) hl hn).mono ?_
  rintro e w2 ⟨hk2, hm⟩
  rw [HX.out] at hm
  simp only at hm
  subst hm
  have hd2 := HD1.out.kept hk2 (fun k hk h => by unfold Kone at h; omega)
  refine leaves_cons (f := 94) (args := #[.pointer (some ⟨w.heap.size, 0, none⟩), .pointer (some ⟨w.heap.size + 1, 0, none⟩), .pointer (some ⟨w.heap.size + 1 + 1, 0, none⟩)]) (by simp) (by simp [go_sem]) ?_
  refine (uintD_panicking _ _ _ 0 0 0 c [] _ (hd2.b0.cell 0) (hd2.b0.frozen 0) (hd2.b1.cell 0) (hd2.b1.frozen 0) (hd2.b2.cell 0) (hd2.b2.frozen 0) (by simp) (by simp; omega) (by simp)).mono ?_
  rintro e u' w'' ⟨rfl, rfl, rfl⟩
  have hd3 := hd2.set (a' := .int .u64 0) (b' := .int .i64 0) (c' := .int .i64 c)
  generalize (((w2.setCell ⟨w.heap.size, 0, none⟩ (.int .u64 0)).setCell ⟨w.heap.size + 1, 0, none⟩ (.int .i64 0)).setCell ⟨w.heap.size + 1 + 1, 0, none⟩ (.int .i64 c)) = wy at hd3 ⊢
  have e0 : wy.cell? ⟨w.heap.size, 0, none⟩ = some (.int .u64 0) := hd3.b0.cell 0
  have e1 : wy.cell? ⟨w.heap.size + 1, 0, none⟩ = some (.int .i64 0) := hd3.b1.cell 0
  have e2 : wy.cell? ⟨w.heap.size + 1 + 1, 0, none⟩ = some (.int .i64 c) := hd3.b2.cell 0
  have hk := hd3.k
  clear hd2 hd3
  simp [Leaves, settle, results, Try.results92, go_sem, e0, e1, e2, hk]

set_option maxHeartbeats 2000000 in
theorem uintF_ok (v : Value) (l : List UInt8) (n N k : Nat) (w : World) (hb : Bs w v l) (hl : l.length ≤ 1000000) (hn : n ≤ l.length) (hx : uintAt l n = .ok (N, k)) :
    Calls Try.prog 92 #[v, .int .i64 n] w fun e w' => e = .returned (.tuple #[.int .u64 N, .int .i64 (n + k : Nat), .int .i64 0]) ∧ Kept Kno w w' := by
  have HB := Lib.hid hb
  obtain ⟨A, cap, rfl, -⟩ := hb
  have hmf : ∀ (fn : Fn) (first cap : Array Value) (w : World), (Instr.makeFunc fn first cap).run Try.prog w = .ok (.func fn first cap) w := fun _ _ _ _ => rfl
  have HX := Lib.hid hx
  clear hx
  go_enter_defers Try.func92, Try.ntmps92
  go_wp2_with fail
  have hd := door_new w (.int .u64 0) (.int .i64 0) (.int .i64 0)
  generalize (((w.alloc (.cells #[.int .u64 0] 108)).alloc (.cells #[.int .i64 0] 3)).alloc (.cells #[.int .i64 0] 27)) = wx at hd ⊢
  have HD := Lib.hid hd
  clear hd
  refine (begin_ok _ l n wx (HB.out.kept0 HD.out.k) hn).mono ?_
  rintro e w1 ⟨rfl, hw1⟩
  have hr1 : Rdr w1 wx.heap.size (.slice A l.length cap) n := by rw [hw1]; exact Blk.new _ _ _
  have hd1 : Door w w1 (.int .u64 0) (.int .i64 0) (.int .i64 0) := by rw [hw1]; exact HD.out.kept ((Kept.refl Kno wx).alloc _) (fun _ _ h => h)
  have hlt : w.heap.size + 1 + 1 < wx.heap.size := HD.out.b2.lt
  have HR1 := Lib.hid hr1
  have HD1 := Lib.hid hd1
  clear hw1 hr1 hd1
  go_wp2_with fail
  refine (uint_any wx.heap.size n _ l w1 HR1.out (HB.out.kept0 HD1.out.k) hl hn).mono ?_
  rintro e w2 ⟨hk2, hm⟩
  rw [HX.out] at hm
  simp only at hm
  obtain ⟨rfl, hr2⟩ := hm
  have hd2 := HD1.out.kept hk2 (fun k hk h => by unfold Kone at h; omega)
  have c0 : w2.cell? ⟨w.heap.size, 0, none⟩ = some (.int .u64 0) := hd2.b0.cell 0
  have c1 : w2.cell? ⟨w.heap.size + 1, 0, none⟩ = some (.int .i64 0) := hd2.b1.cell 0
  have c2 : w2.cell? ⟨w.heap.size + 1 + 1, 0, none⟩ = some (.int .i64 0) := hd2.b2.cell 0
  have c3 : w2.cell? ⟨wx.heap.size, 1, none⟩ = some (.int .i64 ((n + k : Nat) : Int)) := Blk.cell hr2 1
  have f0 := hd2.b0.frozen 0
  have f1 := hd2.b1.frozen 0
  have f2 := hd2.b2.frozen 0
  have HD2 := Lib.hid hd2
  generalize hD : wx.heap.size = D at hlt c3 HR1 ⊢
  have hD0 : w.heap.size ≠ D := by omega
  have hD1 : w.heap.size + 1 ≠ D := by omega
  have hD2 : w.heap.size + 1 + 1 ≠ D := by omega
  generalize hnk : n + k = nk at c3
  clear hd2 hr2 hk2 hD
  go_wp2_with fail
  go_region
  all_goals
    go_wp2_with fail
    have hd3 := ((HD2.out.set1 (a' := .int .u64 N)).set (a' := .int .u64 N) (b' := .int .i64 nk) (c' := .int .i64 0)).kept (Kept.drew (Kept.refl Kno _)) (fun _ _ h => h)
    generalize ((((w2.setCell ⟨w.heap.size, 0, none⟩ (.int .u64 N)).setCell ⟨w.heap.size, 0, none⟩ (.int .u64 N)).setCell ⟨w.heap.size + 1, 0, none⟩ (.int .i64 nk)).setCell ⟨w.heap.size + 1 + 1, 0, none⟩ (.int .i64 0)).drew = wy at hd3 ⊢
    refine leaves_cons (f := 94) (args := #[.pointer (some ⟨w.heap.size, 0, none⟩), .pointer (some ⟨w.heap.size + 1, 0, none⟩), .pointer (some ⟨w.heap.size + 1 + 1, 0, none⟩)]) (by simp) (by simp [go_sem]) ?_
    refine (uintD_idle _ _ _ _).mono ?_
    rintro e u' w'' ⟨rfl, rfl, rfl⟩
    have e0 : w''.cell? ⟨w.heap.size, 0, none⟩ = some (.int .u64 N) := hd3.b0.cell 0
    have e1 : w''.cell? ⟨w.heap.size + 1, 0, none⟩ = some (.int .i64 nk) := hd3.b1.cell 0
    have e2 : w''.cell? ⟨w.heap.size + 1 + 1, 0, none⟩ = some (.int .i64 0) := hd3.b2.cell 0
    have hk := hd3.k
    rw [hnk]
    clear hd3 hnk HX
    simp [Leaves, settle, results, Try.results92, go_sem, e0, e1, e2, hk]

theorem uintF_any (v : Value) (l : List UInt8) (n : Int) (w : World) (hb : Bs w v l) (hl : l.length ≤ 1000000) :
    Calls Try.prog 92 #[v, .int .i64 n] w fun e w' => e = .returned (.tuple #[.int .u64 (uintRes l n).1, .int .i64 (uintRes l n).2.1, .int .i64 (uintRes l n).2.2]) ∧ Kept Kno w w' := by
  unfold uintRes
  by_cases hn : n < 0 ∨ (l.length : Int) < n
  · rw [if_pos hn]
    exact uintF_bad v l n w hb hn
  · rw [if_neg hn]
    obtain ⟨m, rfl⟩ : ∃ m : Nat, n = (m : Int) := ⟨n.toNat, by omega⟩
    rw [Int.toNat_natCast]
    cases hx : uintAt l m with
    | error c => exact uintF_err v l m c w hb hl (by omega) hx
    | ok p =>
      obtain ⟨N, k⟩ := p
      exact uintF_ok v l m N k w hb hl (by omega) hx

end Go.Proofs.Yteoodgcpkgfomaa
/-
  Codec: the reader's int; the reference's Uint and Int.
-/
namespace Go.Proofs.Yteoodgcpkgfomaa
open Go.RowKit
set_option linter.unusedVariables false

/-- Zigzag, back. -/
def unzz (N : Nat) : Int := if N % 2 = 0 then ((N / 2 : Nat) : Int) else -((N / 2 : Nat) : Int) - 1
theorem unzz_range (N : Nat) (h : N < 18446744073709551616) : -9223372036854775808 ≤ unzz N ∧ unzz N ≤ 9223372036854775807 := by unfold unzz; split <;> omega
theorem zz_unzz (N : Nat) : zz (unzz N) = N := by
  unfold zz unzz
  split <;> split <;> omega
theorem unzz_zz (m : Int) : unzz (zz m) = m := by
  unfold zz unzz
  split <;> split <;> omega

theorem xor_i64_0 (a : Nat) (h : a < 9223372036854775808) : bits .xor .i64 (a : Int) 0 = (a : Int) := by
  have h1 : (BitVec.ofInt 64 (a : Int)).toNat = a := by
    rw [BitVec.ofInt_natCast, BitVec.toNat_ofNat]; exact Nat.mod_eq_of_lt (by omega)
  show IntKind.i64.wrap ((BitVec.ofInt 64 (a : Int) ^^^ BitVec.ofInt 64 0).toNat : Int) = _
  have h0 : (BitVec.ofInt 64 0).toNat = 0 := by decide
  rw [BitVec.toNat_xor, h1, h0, Nat.xor_zero, IntKind.wrap_i64]
  omega
theorem xor_i64_1 (a : Nat) (h : a < 9223372036854775808) : bits .xor .i64 (a : Int) (-1) = -(a : Int) - 1 := by
  have h1 : (BitVec.ofInt 64 (a : Int)).toNat = a := by
    rw [BitVec.ofInt_natCast, BitVec.toNat_ofNat]; exact Nat.mod_eq_of_lt (by omega)
  show IntKind.i64.wrap ((BitVec.ofInt 64 (a : Int) ^^^ BitVec.ofInt 64 (-1)).toNat : Int) = _
  have h0 : (BitVec.ofInt 64 (-1)).toNat = 18446744073709551615 := by decide
  rw [BitVec.toNat_xor, h1, h0, xor_ones a (by omega), IntKind.wrap_i64]
  omega

theorem rdF_ok : ∀ (f i N : Nat) (l : List UInt8) (M k : Nat), f + i = 10 → N < 2 ^ (7 * i) → rdF f i N l = .ok (M, k) → M < 18446744073709551616 ∧ i < k ∧ k ≤ 10 ∧ k ≤ i + l.length
  | 0, i, N, l, M, k, _, _, h => by simp [rdF] at h
  | f + 1, i, N, [], M, k, _, _, h => by simp [rdF] at h
  | f + 1, i, N, c :: r, M, k, hf, hN, h => by
    have h5 : 2 ^ (7 * (i + 1)) = 128 * 2 ^ (7 * i) := by rw [show 7 * (i + 1) = 7 * i + 7 by omega, Nat.pow_add]; omega
    have c256 : c.toNat < 256 := c.toNat_lt
    simp only [rdF] at h
    split at h
    · rename_i h1
      have h4 : (c.toNat - 128) * 2 ^ (7 * i) ≤ 127 * 2 ^ (7 * i) := Nat.mul_le_mul_right _ (by omega)
      obtain ⟨q1, q2, q3, q4⟩ := rdF_ok f (i + 1) _ r M k (by omega) (by omega) h
      exact ⟨q1, by omega, q3, by simp only [List.length_cons]; omega⟩
    · rename_i h1
      split at h
      · cases h
      · rename_i h2
        simp only [Except.ok.injEq, Prod.mk.injEq] at h
        obtain ⟨rfl, rfl⟩ := h
        refine ⟨?_, by omega, by omega, by simp only [List.length_cons]; omega⟩
        by_cases hi : i ≤ 8
        · have h4 : c.toNat * 2 ^ (7 * i) ≤ 127 * 2 ^ (7 * i) := Nat.mul_le_mul_right _ (by omega)
          have h6 : 2 ^ (7 * (i + 1)) ≤ 2 ^ 63 := Nat.pow_le_pow_right (by decide) (by omega)
          omega
        · obtain rfl : i = 9 := by omega
          have h4 : c.toNat * 2 ^ (7 * 9) ≤ 1 * 2 ^ (7 * 9) := Nat.mul_le_mul_right _ (by omega)
          omega
theorem uintAt_ok {l : List UInt8} {n N k : Nat} (h : uintAt l n = .ok (N, k)) : N < 18446744073709551616 ∧ 0 < k ∧ k ≤ 10 ∧ k ≤ l.length - n := by
  obtain ⟨h1, h2, h3, h4⟩ := rdF_ok 10 0 0 (l.drop n) N k rfl (by decide) h
  refine ⟨h1, h2, h3, ?_⟩
  rw [List.length_drop] at h4
  omega

theorem and_one (N : Nat) (h : N < 18446744073709551616) : bits BinOp.and IntKind.u64 (N : Int) 1 = ((N % 2 : Nat) : Int) := by
  have e1 := bits_and_u64_nat N 1 h (by decide)
  have e2 : N &&& 1 = N % 2 := Nat.and_two_pow_sub_one_eq_mod N 1
  rw [e2] at e1
  exact e1
theorem zigback (N : Nat) (h : N < 18446744073709551616) : bits BinOp.xor IntKind.i64 (wrap64 ((N : Int) / 2)) (wrap64 (-wrap64 (bits BinOp.and IntKind.u64 (N : Int) 1))) = unzz N := by
  rw [and_one N h]
  have e1 : wrap64 ((N : Int) / 2) = ((N / 2 : Nat) : Int) := by unfold wrap64; omega
  rw [e1]
  by_cases h2 : N % 2 = 0
  · have e2 : wrap64 (-wrap64 ((N % 2 : Nat) : Int)) = 0 := by rw [h2]; unfold wrap64; omega
    rw [e2, xor_i64_0 _ (by omega), unzz, if_pos h2]
  · have h3 : N % 2 = 1 := by omega
    have e2 : wrap64 (-wrap64 ((N % 2 : Nat) : Int)) = -1 := by rw [h3]; unfold wrap64; omega
    rw [e2, xor_i64_1 _ (by omega), unzz, if_neg h2]

def IntOkD (D : Nat) (v : Value) (n : Nat) (x : Except Int (Nat × Nat)) (w : World) (e : Ending) (w' : World) : Prop :=
  Kept (Kone D) w w' ∧ match x with
    | .ok (N, k) => e = .returned (.int .i64 (unzz N)) ∧ Rdr w' D v (n + k)
    | .error c => e = Pan c

end Go.Proofs.Yteoodgcpkgfomaa
/-
  Steps of a region that only reads, laid by hand where the walk's own step is slow: a slice expression, a conversion. No program in sight.
-/
namespace Go.Proofs.Yteoodgcpkgfomaa
open Go.RowKit
set_option linter.unusedVariables false

section
variable {P : Program} {ops : Array Oper} {C : World → Prop} {Q : Act → Prop} {a : Act} {o : Oper} {rest : List Oper}
theorem quiet_run (v : Value) (hw : Region.wanted o (yielded ops a.tmps) = true) (h : ∀ w, C w → (execOp a.eval o).run P w = .ok (.value v) w) (hk : wpQuiet P ops C Q rest (a.put o.dst v)) : wpQuiet P ops C Q (o :: rest) a :=
  BigFrame.wpQuiet_want hw fun K hK => ⟨v, fun w hC => by unfold Oper.quietAt; rw [h w hC]; exact ⟨rfl, rfl⟩, hK _ hk⟩
theorem quiet_slice (v : Value) (t : TypeId) (x : Operand) (lo hi : Option Operand) (ho : o.op = .slice t x lo hi none) (ht : P.underlying t = some (.slice (P.elem t))) (hw : Region.wanted o (yielded ops a.tmps) = true)
    (x0 : Value) (l0 h0 : Option Value) (hx : a.eval x = x0) (hl : lo.map a.eval = l0) (hh : hi.map a.eval = h0)
    (h : ∀ w, C w → (Instr.slice t x0 l0 h0 none).run P w = .ok v w) (hk : wpQuiet P ops C Q rest (a.put o.dst v)) : wpQuiet P ops C Q (o :: rest) a :=
  quiet_run v hw (fun w hC => by
    unfold execOp
    simp only [ho, Sem.run_bind, Option.map_none]
    rw [hx, hl, hh, run_sliceAt_slice w t x0 l0 h0 none ht, h w hC]
    rfl) hk
theorem quiet_convert (v : Value) (s t : TypeId) (x : Operand) (ho : o.op = .convert s t x) (hw : Region.wanted o (yielded ops a.tmps) = true)
    (x0 : Value) (hx : a.eval x = x0) (h : ∀ w, C w → (convert s t x0).run P w = .ok v w) (hk : wpQuiet P ops C Q rest (a.put o.dst v)) : wpQuiet P ops C Q (o :: rest) a :=
  quiet_run v hw (fun w hC => by
    unfold execOp
    simp only [ho, Sem.run_bind]
    rw [hx, h w hC]
    rfl) hk
end

/-- 's[lo:hi]' of a slice of bytes: the run. -/
theorem run_slice_nat {P : Program} (w : World) (t : TypeId) (ht : P.underlying t = some (.slice (P.elem t))) (hsz : ∀ w, (sizeOf (P.elem t)).run P w = .ok 1 w) (A : Option Addr) (n cap lo hi : Nat) (h1 : lo ≤ hi) (h2 : hi ≤ cap) :
    (Instr.slice t (.slice A n cap) (some (.int .i64 (lo : Int))) (some (.int .i64 (hi : Int))) none).run P w = .ok (sliced A lo hi cap 1) w := by
  rw [run_slice_lh w t _ _ _ ht .i64 .i64 (lo : Int) (hi : Int) (Int.natCast_nonneg lo) (by omega) (by omega), hsz]
  simp only [Result.andThen, Int.toNat_natCast]
end Go.Proofs.Yteoodgcpkgfomaa
/-
  Codec: the reader's text.
-/
namespace Go.Proofs.Yteoodgcpkgfomaa
open Go.RowKit
set_option linter.unusedVariables false

def textAt (l : List UInt8) (n most : Nat) : Except Int (List UInt8 × Nat) := match uintAt l n with
  | .error c => .error c
  | .ok (N, k) => if most < N then .error 2 else if l.length - (n + k) < N then .error 20 else .ok ((l.drop (n + k)).take N, k + N)
def TextOkD (D : Nat) (v : Value) (n : Nat) (x : Except Int (List UInt8 × Nat)) (w : World) (e : Ending) (w' : World) : Prop :=
  Kept (Kone D) w w' ∧ match x with
    | .ok (b, k) => e = .returned (.string ⟨b.toArray⟩) ∧ Rdr w' D v (n + k)
    | .error c => e = Pan c

/-- A part of a slice of bytes. -/
theorem bs_part {w : World} {g o cap : Nat} {l : List UInt8} (h : Bs w (.slice (some ⟨g, o, none⟩) l.length cap) l) (a N : Nat) (ha : a + N ≤ l.length) : Bs w (.slice (some ⟨g, o + a, none⟩) N (cap - a)) ((l.drop a).take N) := by
  obtain ⟨A', cap', hv, h1, h2, h3, h4⟩ := h
  injection hv with e1 e2 e3
  subst e1 e3
  have hlen : ((l.drop a).take N).length = N := by rw [List.length_take, List.length_drop]; omega
  refine ⟨_, _, by rw [hlen], by rw [hlen]; omega, by simp, (fun h => by cases h), fun ad hA j u hj => ?_⟩
  cases hA
  have hj2 : j < N := by
    have := (List.getElem?_eq_some_iff.1 hj).1
    rw [List.length_map, hlen] at this
    exact this
  rw [add_lit0]
  have h5 := h4 ⟨g, o, none⟩ rfl (a + j) u (by
    rw [← hj, List.getElem?_map, List.getElem?_map, List.getElem?_take, if_pos hj2, List.getElem?_drop])
  rw [add_lit0] at h5
  rw [Nat.add_assoc]
  exact h5
theorem bs_part0 {w : World} {A : Option Addr} {cap : Nat} {l : List UInt8} (h : Bs w (.slice A l.length cap) l) : Bs w (.slice A 0 0) [] :=
  ⟨A, 0, rfl, Nat.le_refl _, rfl, fun _ => ⟨rfl, rfl⟩, fun ad hA j u hj => by simp at hj⟩

theorem part_nums (a N L cap : Nat) (h : a + N ≤ L) (hL : L ≤ 1000000) (hc : L ≤ cap) : (a : Int) + (N : Int) ≤ (cap : Int) ∧ IntKind.i64.wrap (N : Int) = (N : Int) ∧ IntKind.i64.wrap ((a : Int) + (N : Int)) = (a : Int) + (N : Int) ∧ ((a : Int) + (N : Int)).toNat = a + N ∧ (a : Int) ≤ (a : Int) + (N : Int) :=
  ⟨by omega, by rw [IntKind.wrap_i64]; omega, by rw [IntKind.wrap_i64]; omega, by omega, by omega⟩

set_option maxRecDepth 100000 in
set_option maxHeartbeats 2000000 in
theorem text_dec (D n most : Nat) (v : Value) (l : List UInt8) (w : World) (h : Rdr w D v n) (hb : Bs w v l) (hl : l.length ≤ 1000000) (hn : n ≤ l.length) (hm : most ≤ 9223372036854775807) :
    Calls Try.prog 91 #[.pointer (some ⟨D, 0, none⟩), .int .i64 most] w (TextOkD D v n (textAt l n most) w) := by
  have H := Lib.hid h
  have HB := Lib.hid hb
  clear h hb
  cases hx : uintAt l n with
  | error c =>
    have hy : textAt l n most = .error c := by unfold textAt; rw [hx]
    rw [hy]
    have HX := Lib.hid hx
    clear hx hy
    go_enter Try.func91, Try.ntmps91
    go_wp2_with fail
    refine (uint_any D n v l w H.out HB.out hl hn).mono ?_
    rintro e w1 ⟨hk1, hm⟩
    rw [HX.out] at hm
    simp only at hm
    subst hm
    exact ⟨rfl, hk1, rfl⟩
  | ok q =>
    obtain ⟨N, k⟩ := q
    obtain ⟨hN, hk0, hk10, hkl⟩ := uintAt_ok hx
    have HX := Lib.hid hx
    obtain ⟨R, hR⟩ : ∃ R, R = textAt l n most := ⟨_, rfl⟩
    rw [← hR]
    have hR2 : R = if most < N then .error 2 else if l.length - (n + k) < N then .error 20 else .ok ((l.drop (n + k)).take N, k + N) := by rw [hR]; unfold textAt; rw [hx]
    have HR := Lib.hid hR2
    clear hx hR hR2
    have hwm : IntKind.u64.wrap (most : Int) = (most : Int) := by rw [IntKind.wrap_u64]; omega
    go_enter Try.func91, Try.ntmps91
    go_wp2_with fail
    refine (uint_any D n v l w H.out HB.out hl hn).mono ?_
    rintro e w1 ⟨hk1, hm⟩
    rw [HX.out] at hm
    simp only at hm
    obtain ⟨rfl, hr1⟩ := hm
    have HB1 := Lib.hid (H.out.bs HB.out HB.out hk1)
    have HR1 := Lib.hid hr1
    obtain ⟨A, cap, rfl, hlc, -⟩ := HB.out
    by_cases h1 : most < N
    · have h1' : (most : Int) < (N : Int) := by omega
      have HXX : Hid (R = .error 2) := Lib.hid (by rw [HR.out, if_pos h1])
      clear hr1
      go_wp2
      rw [HXX.out]
      exact ⟨rfl, hk1, rfl⟩
    · have h1' : ¬ (most : Int) < (N : Int) := by omega
      have c0 : w1.cell? ⟨D, 0, none⟩ = some (.slice A l.length cap) := hr1.cell 0
      have c1 : w1.cell? ⟨D, 1, none⟩ = some (.int .i64 ((n + k : Nat) : Int)) := hr1.cell 1
      have f1 := hr1.frozen 1
      have hak : n + k ≤ l.length := by omega
      have ha0 : 0 < n + k := by omega
      have hRR := HR.out
      rw [if_neg h1] at hRR
      have HR2 := Lib.hid hRR
      clear hr1 hRR
      generalize hnk : n + k = a at c1 hak ha0 HR1 HR2 ⊢
      have HNK := Lib.hid hnk
      clear hnk
      by_cases h2 : l.length - a < N
      · rw [if_pos h2] at HR2
        have d1 : IntKind.u64.wrap (IntKind.i64.wrap ((l.length : Int) - (a : Int))) = ((l.length - a : Nat) : Int) := by rw [IntKind.wrap_u64, IntKind.wrap_i64]; omega
        have d2 : decide (l.length - a < N) = true := by simpa using h2
        go_wp2_with fail
        go_quiet (fail)
        have d3 : (l.length : Int) - (a : Int) < (N : Int) := by omega
        have hk2 : Kept (Kone D) w (w1.drewN nq) := hk1.drewN nq
        go_wp2
        rw [HR2.out]
        exact ⟨rfl, hk2, rfl⟩
      · rw [if_neg h2] at HR2
        have hla : a + N ≤ l.length := by omega
        have HA : ∃ g o, A = some ⟨g, o, none⟩ := by
          have hbb := HB1.out
          obtain ⟨A', cap', hv, h5, h6, h7, h8⟩ := hbb
          injection hv with e1 e2 e3
          subst e1 e3
          have hl0 : 0 < l.length := by omega
          rcases A with _ | ad
          · have := (h7 rfl).1; omega
          · have h0 := h8 ad rfl 0 (bv (l[0]'(by omega))) (by rw [List.getElem?_map, List.getElem?_eq_getElem (by omega)]; rfl)
            obtain ⟨g, o, spot⟩ := ad
            have := World.cell?_spot h0
            have hs : spot = none := by simpa [Addr.add] using this
            subst hs
            exact ⟨g, o, rfl⟩
        obtain ⟨g, o, rfl⟩ := HA
        have HP : Hid (∀ w', Kept Kno w1 w' → ∀ V, V = sliced (some ⟨g, o, none⟩) a (a + N) cap 1 → (convert 30 9 V).run Try.prog w' = .ok (.string ⟨((l.drop a).take N).toArray⟩) w') := Lib.hid (fun w' hk V hV => by
          subst hV
          have hbb : Bs w' (sliced (some ⟨g, o, none⟩) a (a + N) cap 1) ((l.drop a).take N) := by
            unfold sliced
            by_cases hca : cap = a
            · have hN0 : N = 0 := by omega
              subst hN0
              rw [if_pos hca, List.take_zero, hca, Nat.add_zero, Nat.sub_self]
              exact bs_part0 (HB1.out.kept0 hk)
            · rw [if_neg hca, Nat.mul_one, Nat.add_sub_cancel_left]
              have h9 := bs_part (HB1.out.kept0 hk) a N hla
              rw [← add_lit0] at h9
              exact h9
          exact run_string_bs (P := Try.prog) 30 9 5 hbb Try.underlying30 Try.underlying5 Try.underlying9)
        go_wp2_with fail
        go_quiet (fail)
        have c0' : (w1.drewN nq).cell? ⟨D, 0, none⟩ = some (.slice (some ⟨g, o, none⟩) l.length cap) := c0
        have c1' : (w1.drewN nq).cell? ⟨D, 1, none⟩ = some (.int .i64 (a : Int)) := c1
        have f1' : (w1.drewN nq).frozen? ⟨D, 1, none⟩ = false := f1
        have hk2 : Kept (Kone D) w (w1.drewN nq) := hk1.drewN nq
        have hkq : Kept Kno w1 (w1.drewN nq) := (Kept.refl _ w1).drewN nq
        have HR3 : Hid (Rdr (w1.drewN nq) D (.slice (some ⟨g, o, none⟩) l.length cap) a) := Lib.hid (Blk.drewN HR1.out nq)
        generalize w1.drewN nq = wq at c0' c1' f1' hk2 HR3 hkq ⊢
        clear c0 c1 f1 HR1 HB HB1 H HX
        have d3 : ¬ (l.length : Int) - (a : Int) < (N : Int) := by omega
        go_wp2_with fail
        obtain ⟨b1, b5, b6, b7, b9⟩ := part_nums a N l.length cap hla hl hlc
        generalize hS : sliced (some ⟨g, o, none⟩) a (a + N) cap 1 = V at HP
        have b8 : ∀ w', (Instr.slice 30 (.slice (some ⟨g, o, none⟩) l.length cap) (some (.int .i64 (a : Int))) (some (.int .i64 ((a : Int) + (N : Int)))) none).run Try.prog w' = .ok V w' := fun w' => by
          rw [run_slice_lh w' 30 _ _ _ Try.underlying30 .i64 .i64 (a : Int) ((a : Int) + (N : Int)) (Int.natCast_nonneg a) b9 b1]
          have hsz : (sizeOf (Try.prog.elem 30)).run Try.prog w' = .ok 1 w' := by
            have hel : Try.prog.elem 30 = 5 := by kernel_rfl
            obtain ⟨i0, hi, hz0, hz1, hz2⟩ := info_parts info_byte
            rw [hel]
            simp [sizeOf, typeInfo, hi, hz1]
          rw [hsz]
          simp only [Result.andThen, Int.toNat_natCast, b7, hS]
        have t1 : ∀ nq, (convert 30 9 V).run Try.prog (wq.drewN nq) = .ok (.string ⟨((l.drop a).take N).toArray⟩) (wq.drewN nq) := fun nq => HP.out (wq.drewN nq) (hkq.drewN nq) V rfl
        have T1 := Lib.hid t1
        have B8 := Lib.hid b8
        have HS := Lib.hid hS
        have hNs : N ≤ 1000000 := Nat.le_trans (Nat.le_add_left N a) (Nat.le_trans hla hl)
        clear t1 b8 hS HP hN hwm hk0 hk10 hkl h1' h1 d3 h2 b7 b9 b1 hlc hak ha0 hn HR
        refine wp_region_quiet_lit (by kernel_rfl) (by kernel_rfl) ?_
        iterate 15 (go_big_quiet_step (fail))
        refine quiet_slice V 30 _ _ _ rfl Try.underlying30 rfl _ _ _ rfl rfl rfl (fun w' _ => B8.out w') ?_
        refine quiet_convert (.string ⟨((l.drop a).take N).toArray⟩) 30 9 _ rfl rfl V rfl (fun w' ⟨nn, hw'⟩ => by rw [hw']; exact T1.out nn) ?_
        simp only [Act.put, List.setIfInBounds_toArray, List.set_cons_succ, List.set_cons_zero]
        go_big_quiet_step (fail)
        refine wpQuiet_nil ?_
        intro _ hw'
        obtain ⟨n2, hw''⟩ := hw'
        subst hw''
        have c1'' : (wq.drewN n2).cell? ⟨D, 1, none⟩ = some (.int .i64 (a : Int)) := c1'
        have f1'' : (wq.drewN n2).frozen? ⟨D, 1, none⟩ = false := f1'
        have hk3 : Kept (Kone D) w (wq.drewN n2) := hk2.drewN n2
        have HR4 : Hid (Rdr (wq.drewN n2) D (.slice (some ⟨g, o, none⟩) l.length cap) a) := Lib.hid (Blk.drewN HR3.out n2)
        generalize wq.drewN n2 = wz at c1'' f1'' hk3 HR4 ⊢
        clear c0' c1' f1' hk2 HR3 hkq T1 B8 HS b5 b6
        have hs1 : (a : Int) + (N : Int) ≤ 1000000 := by omega
        go_wp2
        go_ret
        rw [HR2.out]
        refine ⟨hk3.setIn (p := ⟨D, 1, none⟩) (Eq.refl D) _, rfl, ?_⟩
        have h9 := HR4.out.set_ 1 (.int .i64 ((a : Int) + (N : Int)))
        rw [← Nat.add_assoc, HNK.out]
        exact h9

end Go.Proofs.Yteoodgcpkgfomaa
