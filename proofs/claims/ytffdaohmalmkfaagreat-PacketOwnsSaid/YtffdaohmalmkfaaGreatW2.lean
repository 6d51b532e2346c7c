/-
  Contracts and plain laws that the claim's theorem rests on.
-/
import Derived.Test.YtffdaohmalmkfaaGreatW1
import Derived.Defers
import Derived.Recover
import Derived.Laws.Pointers
set_option linter.unusedSimpArgs false
set_option linter.unusedVariables false
/-
  Codec: the reader of bytes: next, begin, uint.
-/
namespace Go.Proofs.YtffdaohmalmkfaaGreat
open Go.RowKit
set_option linter.unusedVariables false

/-- A panic with a code. -/
def Pan (c : Int) : Ending := .panicked [{ v := .iface 40 (.int .i64 c), recovered := false }]

/-- Block D is a reader of v at the index n. -/
def Rdr (w : World) (D : Nat) (v : Value) (n : Nat) : Prop := Blk w D 269 #[v, .int .i64 (n : Int)]

theorem rdr_no_byte {w : World} {D n : Nat} {A : Option Addr} {m cap : Nat} (h : Rdr w D (.slice A m cap) n) {p : Addr} {x : Int} (hc : w.cell? p = some (.int .u8 x)) : p.block ≠ D := by
  obtain ⟨g, o, spot⟩ := p
  rintro rfl
  have hs := World.cell?_spot hc
  simp only at hs
  subst hs
  rw [Blk.cell h] at hc
  rcases o with _ | _ | o
  · simp at hc
  · simp at hc
  · simp at hc
theorem Rdr.bs {w w1 : World} {D n : Nat} {v : Value} {l m : List UInt8} {u : Value} (h : Rdr w D v n) (hv : Bs w v l) (hb : Bs w u m) (hk : Kept (Kone D) w w1) : Bs w1 u m := by
  obtain ⟨A0, cap0, rfl, -⟩ := hv
  obtain ⟨A, cap, rfl, h1, h2, h3, h4⟩ := hb
  refine ⟨A, cap, rfl, h1, h2, h3, fun ad hA j x hj => ?_⟩
  have hc := h4 ad hA j x hj
  rw [List.getElem?_map] at hj
  cases hq : m[j]? with
  | none => rw [hq] at hj; cases hj
  | some c =>
    rw [hq] at hj
    simp only [Option.map_some, Option.some.injEq] at hj
    subst hj
    exact hk.cell_some hc (fun e => rdr_no_byte h hc e)

set_option maxHeartbeats 800000 in
theorem next_end (D : Nat) (v : Value) (l : List UInt8) (w : World) (h : Rdr w D v l.length) (hb : Bs w v l) :
    Calls Tryz.prog 278 #[.pointer (some ⟨D, 0, none⟩)] w fun e w' => e = Pan 20 ∧ Kept Kno w w' := by
  have c0 : w.cell? ⟨D, 0, none⟩ = some v := h.cell 0
  have c1 : w.cell? ⟨D, 1, none⟩ = some (.int .i64 (l.length : Int)) := h.cell 1
  obtain ⟨A, cap, rfl, -⟩ := hb
  clear h
  go_enter Tryz.func278, Tryz.ntmps278
  go_wp2_with fail
  go_quiet (fail)
  go_wp2
  exact ⟨rfl, rfl, (Kept.refl _ _).drewN _⟩

set_option maxHeartbeats 800000 in
theorem next_byte (D n : Nat) (v : Value) (l : List UInt8) (c : UInt8) (w : World) (h : Rdr w D v n) (hb : Bs w v l) (hl : l.length ≤ maxLen) (hn : l[n]? = some c) :
    Calls Tryz.prog 278 #[.pointer (some ⟨D, 0, none⟩)] w fun e w' => e = .returned (.int .u8 c.toNat) ∧ Rdr w' D v (n + 1) ∧ Kept (Kone D) w w' := by
  have H := Lib.hid h
  have c0 : w.cell? ⟨D, 0, none⟩ = some v := h.cell 0
  have c1 : w.cell? ⟨D, 1, none⟩ = some (.int .i64 (n : Int)) := h.cell 1
  have f1 := h.frozen 1
  have hnl : n < l.length := (List.getElem?_eq_some_iff.1 hn).1
  obtain ⟨A, cap, rfl, hlc, h2, h3, h4⟩ := hb
  have hml : l.length ≤ 9223372036854775807 := by simp only [maxLen] at hl; omega
  rcases A with _ | ad
  · have := (h3 rfl).1; omega
  · have hcc := h4 ad rfl n (bv c) (by rw [List.getElem?_map, hn]; rfl)
    obtain ⟨g, o, spot⟩ := ad
    have hs : spot = none := by
      have h0 := h4 ⟨g, o, spot⟩ rfl 0 (bv (l[0]'(by omega))) (by rw [List.getElem?_map, List.getElem?_eq_getElem (by omega)]; rfl)
      have := World.cell?_spot h0
      simpa [Addr.add] using this
    subst hs
    rw [add_lit0] at hcc
    have hcc' : w.cell? ⟨g, o + n, none⟩ = some (.int .u8 c.toNat) := hcc
    have hgD : g ≠ D := rdr_no_byte H.out hcc'
    have hne : ((n : Int) == (l.length : Int)) = false := by simp; omega
    have hn0 : (0 : Int) ≤ (n : Int) := by omega
    have hn1 : (n : Int) < (l.length : Int) := by omega
    clear h h4 hcc h2 h3
    go_enter Tryz.func278, Tryz.ntmps278
    go_wp2_with fail
    go_quiet (fail)
    have hq : Kept Kno w (w.drewN nq) := (Kept.refl _ _).drewN nq
    have d0 : (w.drewN nq).cell? ⟨D, 0, none⟩ = some (.slice (some ⟨g, o, none⟩) l.length cap) := c0
    have d1 : (w.drewN nq).cell? ⟨D, 1, none⟩ = some (.int .i64 (n : Int)) := c1
    have d2 : (w.drewN nq).cell? ⟨g, o + n, none⟩ = some (.int .u8 c.toNat) := hcc'
    have d3 : (w.drewN nq).frozen? ⟨D, 1, none⟩ = false := f1
    have HR : Hid (Rdr (w.drewN nq) D (.slice (some ⟨g, o, none⟩) l.length cap) n) := Lib.hid H.out
    generalize w.drewN nq = wq at hq d0 d1 d2 d3 HR ⊢
    clear c0 c1 hcc' f1
    go_wp2_with fail
    go_quiet (fail)
    have hlt9 : (n : Int) + 1 ≤ 9223372036854775807 := by omega
    go_wp2
    go_ret
    refine ⟨rfl, ?_, ?_⟩
    · have := (Blk.drewN HR.out nq).set_ 1 (.int .i64 ((n : Int) + 1))
      exact this
    · exact ((hq.mono (T := Kone D) (fun _ _ e => e.elim)).drewN _).setIn (p := ⟨D, 1, none⟩) (Eq.refl D) _

/-- What a number's bytes say: f bytes are still let in, i have been read and make N. -/
def rdF : Nat → Nat → Nat → List UInt8 → Except Int (Nat × Nat)
  | 0, _, _, _ => .error 21
  | _ + 1, _, _, [] => .error 20
  | f + 1, i, N, c :: r => if 128 ≤ c.toNat then rdF f (i + 1) (N + (c.toNat - 128) * 2 ^ (7 * i)) r else if (c.toNat = 0 ∧ 0 < i) ∨ (1 < c.toNat ∧ i = 9) then .error 21 else .ok (N + c.toNat * 2 ^ (7 * i), i + 1)
def uintAt (l : List UInt8) (n : Nat) : Except Int (Nat × Nat) := rdF 10 0 0 (l.drop n)

theorem and_low (c : UInt8) : bits BinOp.and IntKind.u8 ((c.toNat : Nat) : Int) 127 = ((c.toNat % 128 : Nat) : Int) := by
  have h1 : ∀ x : Fin 256, bits BinOp.and IntKind.u8 ((x.val : Nat) : Int) 127 = ((x.val % 128 : Nat) : Int) := by decide +kernel
  exact h1 ⟨c.toNat, c.toNat_lt⟩
theorem shl_val (N k : Nat) (c : UInt8) (hN : N < 2 ^ (7 * k)) (hk : k ≤ 9) : ∃ M : Nat, bits BinOp.or IntKind.u64 (N : Int) (IntKind.u64.wrap (IntKind.u64.wrap (bits BinOp.and IntKind.u8 ((c.toNat : Nat) : Int) 127) * 2 ^ (7 * k))) = (M : Int) ∧ M < 18446744073709551616 ∧ ((k ≤ 8 ∨ c.toNat % 128 ≤ 1) → M = N + (c.toNat % 128) * 2 ^ (7 * k)) := by
  have hN64 : N < 18446744073709551616 := by
    have : 2 ^ (7 * k) ≤ 2 ^ 63 := Nat.pow_le_pow_right (by decide) (by omega)
    omega
  have e0 : IntKind.u64.wrap (bits BinOp.and IntKind.u8 ((c.toNat : Nat) : Int) 127) = ((c.toNat % 128 : Nat) : Int) := by
    rw [and_low, IntKind.wrap_u64]
    omega
  have e1 : IntKind.u64.wrap (((c.toNat % 128 : Nat) : Int) * 2 ^ (7 * k)) = (((c.toNat % 128) * 2 ^ (7 * k) % 18446744073709551616 : Nat) : Int) := by
    rw [IntKind.wrap_u64]
    have : (((c.toNat % 128 : Nat) : Int) * 2 ^ (7 * k)) = (((c.toNat % 128) * 2 ^ (7 * k) : Nat) : Int) := by
      rw [Int.natCast_mul, Int.natCast_pow]
      rfl
    rw [this, Int.natCast_emod]
    rfl
  have hX : (c.toNat % 128) * 2 ^ (7 * k) % 18446744073709551616 < 18446744073709551616 := Nat.mod_lt _ (by decide)
  refine ⟨N ||| ((c.toNat % 128) * 2 ^ (7 * k) % 18446744073709551616), ?_, ?_, fun hs => ?_⟩
  · rw [e0, e1, bits_or_u64_nat _ _ hN64 hX]
  · exact Nat.or_lt_two_pow (n := 64) hN64 hX
  · have hlt : (c.toNat % 128) * 2 ^ (7 * k) < 18446744073709551616 := by
      rcases hs with hs | hs
      · have h1 : 2 ^ (7 * k) ≤ 2 ^ 56 := Nat.pow_le_pow_right (by decide) (by omega)
        have h2 : (c.toNat % 128) * 2 ^ (7 * k) ≤ 127 * 2 ^ 56 := Nat.mul_le_mul (by omega) h1
        omega
      · have h1 : 2 ^ (7 * k) ≤ 2 ^ 63 := Nat.pow_le_pow_right (by decide) (by omega)
        have h2 : (c.toNat % 128) * 2 ^ (7 * k) ≤ 1 * 2 ^ 63 := Nat.mul_le_mul hs h1
        omega
    rw [Nat.mod_eq_of_lt hlt]
    have h3 := Nat.two_pow_add_eq_or_of_lt hN (c.toNat % 128)
    rw [Nat.or_comm, Nat.mul_comm, ← h3]
    omega

def UintOk (D : Nat) (v : Value) (n : Nat) (x : Except Int (Nat × Nat)) (w : World) (e : Ending) (w' : World) : Prop :=
  Kept (Kone D) w w' ∧ match x with
    | .ok (N, k) => e = .returned (.int .u64 N) ∧ Rdr w' D v (n + k)
    | .error c => e = Pan c

def UintRel (D : Nat) (v : Value) (n : Nat) (l : List UInt8) (w : World) (nv i : Value) (wr : World) : Prop :=
  ∃ k N : Nat, k ≤ 10 ∧ i = .int .i64 k ∧ nv = .int .u64 N ∧ N < 2 ^ (7 * k) ∧ Rdr wr D v (n + k) ∧ Kept (Kone D) w wr ∧ n + k ≤ l.length ∧ rdF (10 - k) k N (l.drop (n + k)) = uintAt l n

set_option maxRecDepth 100000 in
set_option maxHeartbeats 4000000 in
theorem uint_any (D n : Nat) (v : Value) (l : List UInt8) (w : World) (h : Rdr w D v n) (hb : Bs w v l) (hl : l.length ≤ 1000000) (hn : n ≤ l.length) :
    Calls Tryz.prog 246 #[.pointer (some ⟨D, 0, none⟩)] w (UintOk D v n (uintAt l n) w) := by
  have H := Lib.hid h
  have HB := Lib.hid hb
  clear h hb
  go_enter Tryz.func246, Tryz.ntmps246
  go_wp2_with fail
  go_loopw [3, 6] (fun nv i wr => UintRel D v n l w nv i wr) (fun _ i _ => 10 - (intOf i).toNat)
  case atStart => exact ⟨0, 0, by omega, rfl, rfl, by decide, H.out, Kept.refl _ _, hn, rfl⟩
  case round =>
    obtain ⟨k, N, hk, rfl, rfl, hN, hr, hkk, hnk, heq⟩ := hrel
    have HR := Lib.hid hr
    have HE := Lib.hid heq
    have HN := Lib.hid hN
    clear hr heq hN
    by_cases hlt : k < 10
    · have hk0 : (0 : Int) ≤ (k : Int) := by omega
      have hk9 : (k : Int) < 10 := by omega
      have hbr : Bs wr v l := H.out.bs HB.out HB.out hkk
      have HBR := Lib.hid hbr
      clear hbr
      by_cases hend : n + k = l.length
      · have hx : uintAt l n = .error 20 := by
          rw [← HE.out, hend, List.drop_length, show 10 - k = (9 - k) + 1 by omega]
          rfl
        have HX := Lib.hid hx
        clear hx
        go_wp2_with fail
        refine (next_end D v l wr (by have := HR.out; rw [hend] at this; exact this) HBR.out).mono ?_
        rintro e w1 ⟨rfl, hk1⟩
        refine ⟨rfl, ?_⟩
        rw [HX.out]
        exact ⟨hkk.then0 hk1, rfl⟩
      · have hcl : n + k < l.length := by omega
        obtain ⟨c, hc⟩ : ∃ c, l[n + k]? = some c := ⟨_, List.getElem?_eq_getElem hcl⟩
        have hdr : l.drop (n + k) = c :: l.drop (n + k + 1) := by
          obtain ⟨h1, h2⟩ := List.getElem?_eq_some_iff.1 hc
          rw [List.drop_eq_getElem_cons h1, h2]
        have hfe := HE.out
        rw [hdr, show 10 - k = (9 - k) + 1 by omega] at hfe
        simp only [rdF] at hfe
        have HFE := Lib.hid hfe
        have HC := Lib.hid hc
        have c256 : c.toNat < 256 := c.toNat_lt
        obtain ⟨M, hM1, hM2, hM3⟩ := shl_val N k c HN.out (by omega)
        have HM3 := Lib.hid hM3
        have HM2 := Lib.hid hM2
        clear hdr hfe hc hM3 hM2
        go_wp2_with fail
        refine (next_byte D (n + k) v l c wr HR.out HBR.out (by simp only [maxLen]; omega) HC.out).mono ?_
        rintro e w1 ⟨rfl, hr1, hk1⟩
        have HR1 := Lib.hid hr1
        have hkk1 : Kept (Kone D) w w1 := hkk.trans hk1 (fun _ _ e => e)
        clear hr1 hk1
        by_cases hge : 128 ≤ c.toNat
        · have hge2 : (128 : Int) ≤ (c.toNat : Int) := by omega
          go_wp2_with fail
          have hfe := HFE.out
          rw [if_pos hge] at hfe
          refine ⟨⟨k + 1, M, by omega, by go_num, rfl, ?_, HR1.out, hkk1, by omega, ?_⟩, by simp [intOf]; omega⟩
          · by_cases hk8 : k ≤ 8
            · have h1 := HM3.out (.inl hk8)
              have h2 := HN.out
              have h3 : c.toNat % 128 ≤ 127 := by omega
              have h4 : (c.toNat % 128) * 2 ^ (7 * k) ≤ 127 * 2 ^ (7 * k) := Nat.mul_le_mul_right _ h3
              have h5 : 2 ^ (7 * (k + 1)) = 128 * 2 ^ (7 * k) := by rw [show 7 * (k + 1) = 7 * k + 7 by omega, Nat.pow_add]; omega
              omega
            · have h5 : 2 ^ 70 ≤ 2 ^ (7 * (k + 1)) := Nat.pow_le_pow_right (by decide) (by omega)
              have := HM2.out
              omega
          · by_cases hk8 : k ≤ 8
            · rw [← hfe, HM3.out (.inl hk8), show c.toNat % 128 = c.toNat - 128 by omega, show 10 - (k + 1) = 9 - k by omega]
              rfl
            · obtain rfl : k = 9 := by omega
              rw [← hfe]
              have e1 : 10 - (9 + 1) = 0 := rfl
              rw [e1]
              simp only [rdF]
        · have hge2 : ¬ (128 : Int) ≤ (c.toNat : Int) := by omega
          have hfe := HFE.out
          rw [if_neg hge] at hfe
          by_cases hbad : (c.toNat = 0 ∧ 0 < k) ∨ (1 < c.toNat ∧ k = 9)
          · rw [if_pos hbad] at hfe
            have HX := Lib.hid hfe
            clear hfe
            rcases hbad with ⟨hb1, hb2⟩ | ⟨hb1, hb2⟩
            · have hb3 : ((c.toNat : Int) == 0) = true := by simp [hb1]
              have hb4 : (0 : Int) < (k : Int) := by omega
              clear hb1
              go_wp2
              refine ⟨rfl, ?_⟩
              rw [← HX.out]
              exact ⟨hkk1, rfl⟩
            · subst hb2
              have hb3 : ((c.toNat : Int) == 0) = false := by simp; omega
              have hb4 : (1 : Int) < (c.toNat : Int) := by omega
              go_wp2
              refine ⟨rfl, ?_⟩
              rw [← HX.out]
              exact ⟨hkk1, rfl⟩
          · rw [if_neg hbad] at hfe
            have hm : M = N + c.toNat * 2 ^ (7 * k) := by
              rw [HM3.out (by omega), show c.toNat % 128 = c.toNat by omega]
            rw [← hm] at hfe
            have HX := Lib.hid hfe
            clear hfe hm
            have hx : UintOk D v n (uintAt l n) w (.returned (.int .u64 M)) w1 := by
              rw [← HX.out]
              exact ⟨hkk1, rfl, by have := HR1.out; rw [Nat.add_assoc] at this; exact this⟩
            have HXX := Lib.hid hx
            clear hx
            by_cases hz : c.toNat = 0
            · have hk00 : k = 0 := by omega
              have hb2 : ¬ (0 : Int) < (k : Int) := by omega
              clear hk00
              have hb3 : ((c.toNat : Int) == 0) = true := by simp [hz]
              have hb4 : ¬ (1 : Int) < (c.toNat : Int) := by omega
              clear hz
              go_wp2
              go_ret
              exact HXX.out
            · have hb3 : ((c.toNat : Int) == 0) = false := by simpa using hz
              by_cases h1 : 1 < c.toNat
              · have hb4 : (1 : Int) < (c.toNat : Int) := by omega
                have hb5 : ((k : Int) == 9) = false := by simp; omega
                go_wp2
                go_ret
                exact HXX.out
              · have hb4 : ¬ (1 : Int) < (c.toNat : Int) := by omega
                go_wp2
                go_ret
                exact HXX.out
    · have hk9 : ¬ (k : Int) < 10 := by omega
      obtain rfl : k = 10 := by omega
      have hx : uintAt l n = .error 21 := by rw [← HE.out]; rfl
      have HX := Lib.hid hx
      clear hx
      go_wp2
      refine ⟨rfl, ?_⟩
      rw [HX.out]
      exact ⟨hkk, rfl⟩

end Go.Proofs.YtffdaohmalmkfaaGreat
/-
  Codec: begin; Uint with its deferred closure.
-/
namespace Go.Proofs.YtffdaohmalmkfaaGreat
open Go.RowKit
set_option linter.unusedVariables false

set_option maxHeartbeats 400000 in
theorem begin_bad (v : Value) (l : List UInt8) (n : Int) (w : World) (hb : Bs w v l) (hn : n < 0 ∨ (l.length : Int) < n) :
    Calls Tryz.prog 189 #[v, .int .i64 n] w fun e w' => e = Pan 1 ∧ w = w' := by
  obtain ⟨A, cap, rfl, -⟩ := hb
  by_cases h0 : n < 0
  · go_enter Tryz.func189, Tryz.ntmps189
    go_wp2
    exact ⟨rfl, rfl, rfl⟩
  · have h1 : (l.length : Int) < n := by omega
    go_enter Tryz.func189, Tryz.ntmps189
    go_wp2
    exact ⟨rfl, rfl, rfl⟩

set_option maxHeartbeats 400000 in
theorem begin_ok (v : Value) (l : List UInt8) (n : Nat) (w : World) (hb : Bs w v l) (hn : n ≤ l.length) :
    Calls Tryz.prog 189 #[v, .int .i64 n] w fun e w' => e = .returned (.pointer (some ⟨w.heap.size, 0, none⟩)) ∧ w' = w.alloc (.cells #[v, .int .i64 n] 269) := by
  obtain ⟨A, cap, rfl, -⟩ := hb
  have h0 : ¬ (n : Int) < 0 := by omega
  have h1 : ¬ (l.length : Int) < (n : Int) := by omega
  go_enter Tryz.func189, Tryz.ntmps189
  go_wp2
  go_ret
  exact ⟨rfl, rfl⟩

theorem errno_zero (w : World) : (zeroValue 40).run Tryz.prog w = .ok (.int .i64 0) w := by
  have h : (Tryz.prog.info? 40).map (·.zero) = some (some (.int .i64 0)) := by kernel_rfl
  obtain ⟨i, hi, hz⟩ := Option.map_eq_some_iff.1 h
  simp [zeroValue, typeInfo, hi, hz]
theorem assert_is (c : Int) (w : World) : (Instr.typeAssert (.iface 40 (.int .i64 c)) 20 40 true).run Tryz.prog w = .ok (.tuple #[.int .i64 c, .bool true]) w := by
  simp [Instr.typeAssert, run_underlying Tryz.underlying40, go_sem, Result.andThen]
theorem assert_nil (w : World) : (Instr.typeAssert .nilIface 20 40 true).run Tryz.prog w = .ok (.tuple #[.int .i64 0, .bool false]) w := by
  simp [Instr.typeAssert, run_underlying Tryz.underlying40, errno_zero, go_sem, Result.andThen]

set_option maxHeartbeats 1000000 in
theorem uintD_panicking (p q r : Addr) (x y z c : Int) (older : List PanicEntry) (w : World) (h1 : w.cell? p = some (.int .u64 x)) (f1 : w.frozen? p = false) (h2 : w.cell? q = some (.int .i64 y)) (f2 : w.frozen? q = false) (h3 : w.cell? r = some (.int .i64 z)) (f3 : w.frozen? r = false) (hpq : p.block ≠ q.block) (hpr : p.block ≠ r.block) (hqr : q.block ≠ r.block) :
    CallsD Tryz.prog 296 #[.pointer (some p), .pointer (some q), .pointer (some r)] (.panicking ({ v := .iface 40 (.int .i64 c), recovered := false } :: older)) w fun e u' w' =>
      e = .returned (.tuple #[]) ∧ u' = .panicking ({ v := .iface 40 (.int .i64 c), recovered := true } :: older) ∧ w' = ((w.setCell p (.int .u64 0)).setCell q (.int .i64 0)).setCell r (.int .i64 c) := by
  have g2 : (w.setCell p (.int .u64 0)).cell? q = some (.int .i64 y) := (World.cell?_setCell_far _ _ _ _ hpq).trans h2
  have g3 : ((w.setCell p (.int .u64 0)).setCell q (.int .i64 0)).cell? r = some (.int .i64 z) := (World.cell?_setCell_far _ _ _ _ hqr).trans ((World.cell?_setCell_far _ _ _ _ hpr).trans h3)
  have k2 : (w.setCell p (.int .u64 0)).frozen? q = false := (World.frozen?_setCell _ _ _ _).trans f2
  have k3 : ((w.setCell p (.int .u64 0)).setCell q (.int .i64 0)).frozen? r = false := (World.frozen?_setCell _ _ _ _).trans ((World.frozen?_setCell _ _ _ _).trans f3)
  refine callsD_of_wpS Tryz.func296 rfl fun c₀ cs hu => ?_
  apply wpS_seq
  apply wpS_region
  simp [wpOpsS, go_sem, recoverD, hu, Tryz.ntmps296, Exit.thenS, assert_is]
  apply wpS_seq
  apply wpS_region
  simp [wpOpsS, go_sem, Exit.thenS]
  refine wpS_cond (t := true) (by simp [Act.eval, Array.replicate]) ?_
  simp only [if_true]
  apply wpS_region
  simp [wpOpsS, go_sem, h1, f1, g2, g3, k2, k3, bodyPostS, results, Tryz.results296]

set_option maxHeartbeats 1000000 in
theorem uintD_idle (p q r : Addr) (w : World) :
    CallsD Tryz.prog 296 #[.pointer (some p), .pointer (some q), .pointer (some r)] .returning w fun e u' w' => e = .returned (.tuple #[]) ∧ u' = .returning ∧ w' = w := by
  refine callsD_of_wpS Tryz.func296 rfl fun c₀ cs hu => ?_
  apply wpS_seq
  apply wpS_region
  simp [wpOpsS, go_sem, recoverD, hu, Tryz.ntmps296, Exit.thenS, assert_nil]
  apply wpS_seq
  apply wpS_region
  simp [wpOpsS, go_sem, Exit.thenS]
  refine wpS_cond (t := false) (by simp [Act.eval, Array.replicate]) ?_
  simp only [Bool.false_eq_true, if_false]
  refine wpS_of_wp (wp_skip ?_)
  cases c₀
  simp_all [bodyPostS, results, Tryz.results296]

end Go.Proofs.YtffdaohmalmkfaaGreat
/-
  Codec: Uint.
-/
namespace Go.Proofs.YtffdaohmalmkfaaGreat
open Go.RowKit
set_option linter.unusedVariables false

/-- What Uint returns. -/
def uintRes (l : List UInt8) (n : Int) : Nat × Nat × Int :=
  if n < 0 ∨ (l.length : Int) < n then (0, 0, 1) else match uintAt l n.toNat with
    | .ok (N, k) => (N, n.toNat + k, 0)
    | .error c => (0, 0, c)

/-- The three named results, in blocks of their own. -/
structure Door (w wx : World) (a b c : Value) : Prop where
  k : Kept Kno w wx
  b0 : Blk wx w.heap.size 210 #[a]
  b1 : Blk wx (w.heap.size + 1) 3 #[b]
  b2 : Blk wx (w.heap.size + 1 + 1) 40 #[c]
theorem door_new (w : World) (a b c : Value) : Door w (((w.alloc (.cells #[a] 210)).alloc (.cells #[b] 3)).alloc (.cells #[c] 40)) a b c := by
  refine ⟨(((Kept.refl _ w).alloc _).alloc _).alloc _, ((Blk.new w _ _).alloc _).alloc _, ?_, ?_⟩
  · have h := (Blk.new (w.alloc (.cells #[a] 210)) 3 #[b]).alloc (.cells #[c] 40)
    have e : (w.alloc (.cells #[a] 210)).heap.size = w.heap.size + 1 := by simp
    rw [e] at h
    exact h
  · have h := Blk.new ((w.alloc (.cells #[a] 210)).alloc (.cells #[b] 3)) 40 #[c]
    have e : ((w.alloc (.cells #[a] 210)).alloc (.cells #[b] 3)).heap.size = w.heap.size + 1 + 1 := by simp
    rw [e] at h
    exact h
theorem Door.kept {w wx wy : World} {a b c : Value} {S : Nat → Prop} (h : Door w wx a b c) (hk : Kept S wx wy) (hS : ∀ k, k ≤ w.heap.size + 2 → ¬ S k) : Door w wy a b c :=
  ⟨h.k.trans hk (fun i hi hs => absurd hs (hS i (by omega))), h.b0.kept hk (hS _ (by omega)), h.b1.kept hk (hS _ (by omega)), h.b2.kept hk (hS _ (by omega))⟩
theorem Door.set {w wx : World} {a b c a' b' c' : Value} (h : Door w wx a b c) : Door w (((wx.setCell ⟨w.heap.size, 0, none⟩ a').setCell ⟨w.heap.size + 1, 0, none⟩ b').setCell ⟨w.heap.size + 1 + 1, 0, none⟩ c') a' b' c' := by
  refine ⟨?_, ?_, ?_, ?_⟩
  · exact ((h.k.setNew (p := ⟨w.heap.size, 0, none⟩) (Nat.le_refl _) _).setNew (p := ⟨w.heap.size + 1, 0, none⟩) (by simp) _).setNew (p := ⟨w.heap.size + 1 + 1, 0, none⟩) (by simp; omega) _
  · exact ((h.b0.set_ 0 a').far (by simp) _).far (by simp; omega) _
  · exact ((h.b1.far (by simp) _).set_ 0 b').far (by simp) _
  · exact ((h.b2.far (by simp; omega) _).far (by simp) _).set_ 0 c'

theorem Door.set1 {w wx : World} {a b c a' : Value} (h : Door w wx a b c) : Door w (wx.setCell ⟨w.heap.size, 0, none⟩ a') a' b c :=
  ⟨h.k.setNew (p := ⟨w.heap.size, 0, none⟩) (Nat.le_refl _) _, h.b0.set_ 0 a', h.b1.far (by simp) _, h.b2.far (by simp; omega) _⟩

set_option maxHeartbeats 1000000 in
theorem uintF_bad (v : Value) (l : List UInt8) (n : Int) (w : World) (hb : Bs w v l) (hn : n < 0 ∨ (l.length : Int) < n) :
    Calls Tryz.prog 273 #[v, .int .i64 n] w fun e w' => e = .returned (.tuple #[.int .u64 0, .int .i64 0, .int .i64 1]) ∧ Kept Kno w w' := by
  have HB := Lib.hid hb
  obtain ⟨A, cap, rfl, -⟩ := hb
  have hmf : ∀ (fn : Fn) (first cap : Array Value) (w : World), (Instr.makeFunc fn first cap).run Tryz.prog w = .ok (.func fn first cap) w := fun _ _ _ _ => rfl
  have HN := Lib.hid hn
  clear hn
  go_enter_defers Tryz.func273, Tryz.ntmps273
  go_wp2_with fail
  have hd := door_new w (.int .u64 0) (.int .i64 0) (.int .i64 0)
  generalize (((w.alloc (.cells #[.int .u64 0] 210)).alloc (.cells #[.int .i64 0] 3)).alloc (.cells #[.int .i64 0] 40)) = wx at hd ⊢
  refine (begin_bad _ l n wx (HB.out.kept0 hd.k) HN.out).mono ?_
  rintro e w1 ⟨rfl, rfl⟩
  refine leaves_cons (f := 296) (args := #[.pointer (some ⟨w.heap.size, 0, none⟩), .pointer (some ⟨w.heap.size + 1, 0, none⟩), .pointer (some ⟨w.heap.size + 1 + 1, 0, none⟩)]) (by simp) (by simp [go_sem]) ?_
  refine (uintD_panicking _ _ _ 0 0 0 1 [] _ (hd.b0.cell 0) (hd.b0.frozen 0) (hd.b1.cell 0) (hd.b1.frozen 0) (hd.b2.cell 0) (hd.b2.frozen 0) (by simp) (by simp; omega) (by simp)).mono ?_
  rintro e u' w'' ⟨rfl, rfl, rfl⟩
  have hd2 := hd.set (a' := .int .u64 0) (b' := .int .i64 0) (c' := .int .i64 1)
  generalize (((wx.setCell ⟨w.heap.size, 0, none⟩ (.int .u64 0)).setCell ⟨w.heap.size + 1, 0, none⟩ (.int .i64 0)).setCell ⟨w.heap.size + 1 + 1, 0, none⟩ (.int .i64 1)) = wy at hd2 ⊢
  have e0 : wy.cell? ⟨w.heap.size, 0, none⟩ = some (.int .u64 0) := hd2.b0.cell 0
  have e1 : wy.cell? ⟨w.heap.size + 1, 0, none⟩ = some (.int .i64 0) := hd2.b1.cell 0
  have e2 : wy.cell? ⟨w.heap.size + 1 + 1, 0, none⟩ = some (.int .i64 1) := hd2.b2.cell 0
  have hk := hd2.k
  clear hd hd2
  simp [Leaves, settle, results, Tryz.results273, go_sem, e0, e1, e2, hk]

set_option maxHeartbeats 2000000 in
theorem uintF_err (v : Value) (l : List UInt8) (n : Nat) (c : Int) (w : World) (hb : Bs w v l) (hl : l.length ≤ 1000000) (hn : n ≤ l.length) (hx : uintAt l n = .error c) :
    Calls Tryz.prog 273 #[v, .int .i64 n] w fun e w' => e = .returned (.tuple #[.int .u64 0, .int .i64 0, .int .i64 c]) ∧ Kept Kno w w' := by
  have HB := Lib.hid hb
  obtain ⟨A, cap, rfl, -⟩ := hb
  have hmf : ∀ (fn : Fn) (first cap : Array Value) (w : World), (Instr.makeFunc fn first cap).run Tryz.prog w = .ok (.func fn first cap) w := fun _ _ _ _ => rfl
  have HX := Lib.hid hx
  clear hx
  go_enter_defers Tryz.func273, Tryz.ntmps273
  go_wp2_with fail
  have hd := door_new w (.int .u64 0) (.int .i64 0) (.int .i64 0)
  generalize (((w.alloc (.cells #[.int .u64 0] 210)).alloc (.cells #[.int .i64 0] 3)).alloc (.cells #[.int .i64 0] 40)) = wx at hd ⊢
  have HD := Lib.hid hd
  clear hd
  refine (begin_ok _ l n wx (HB.out.kept0 HD.out.k) hn).mono ?_
  rintro e w1 ⟨rfl, hw1⟩
  have hr1 : Rdr w1 wx.heap.size (.slice A l.length cap) n := by rw [hw1]; exact Blk.new _ _ _
  have hd1 : Door w w1 (.int .u64 0) (.int .i64 0) (.int .i64 0) := by rw [hw1]; exact HD.out.kept ((Kept.refl Kno wx).alloc _) (fun _ _ h => h)
  have hlt : w.heap.size + 1 + 1 < wx.heap.size := HD.out.b2.lt
  have HR1 := Lib.hid hr1
  have HD1 := Lib.hid hd1
  clear hw1 hr1 hd1
  go_wp2_with fail
  refine (uint_any wx.heap.size n _ l w1 HR1.out (HB.out.kept0 HD1.out.k) hl hn).mono ?_
  rintro e w2 ⟨hk2, hm⟩
  rw [HX.out] at hm
  simp only at hm
  subst hm
  have hd2 := HD1.out.kept hk2 (fun k hk h => by unfold Kone at h; omega)
  refine leaves_cons (f := 296) (args := #[.pointer (some ⟨w.heap.size, 0, none⟩), .pointer (some ⟨w.heap.size + 1, 0, none⟩), .pointer (some ⟨w.heap.size + 1 + 1, 0, none⟩)]) (by simp) (by simp [go_sem]) ?_
  refine (uintD_panicking _ _ _ 0 0 0 c [] _ (hd2.b0.cell 0) (hd2.b0.frozen 0) (hd2.b1.cell 0) (hd2.b1.frozen 0) (hd2.b2.cell 0) (hd2.b2.frozen 0) (by simp) (by simp; omega) (by simp)).mono ?_
  rintro e u' w'' ⟨rfl, rfl, rfl⟩
  have hd3 := hd2.set (a' := .int .u64 0) (b' := .int .i64 0) (c' := .int .i64 c)
  generalize (((w2.setCell ⟨w.heap.size, 0, none⟩ (.int .u64 0)).setCell ⟨w.heap.size + 1, 0, none⟩ (.int .i64 0)).setCell ⟨w.heap.size + 1 + 1, 0, none⟩ (.int .i64 c)) = wy at hd3 ⊢
  have e0 : wy.cell? ⟨w.heap.size, 0, none⟩ = some (.int .u64 0) := hd3.b0.cell 0
  have e1 : wy.cell? ⟨w.heap.size + 1, 0, none⟩ = some (.int .i64 0) := hd3.b1.cell 0
  have e2 : wy.cell? ⟨w.heap.size + 1 + 1, 0, none⟩ = some (.int .i64 c) := hd3.b2.cell 0
  have hk := hd3.k
  clear hd2 hd3
  simp [Leaves, settle, results, Tryz.results273, go_sem, e0, e1, e2, hk]

set_option maxHeartbeats 2000000 in
theorem uintF_ok (v : Value) (l : List UInt8) (n N k : Nat) (w : World) (hb : Bs w v l) (hl : l.length ≤ 1000000) (hn : n ≤ l.length) (hx : uintAt l n = .ok (N, k)) :
    Calls Tryz.prog 273 #[v, .int .i64 n] w fun e w' => e = .returned (.tuple #[.int .u64 N, .int .i64 (n + k : Nat), .int .i64 0]) ∧ Kept Kno w w' := by
  have HB := Lib.hid hb
  obtain ⟨A, cap, rfl, -⟩ := hb
  have hmf : ∀ (fn : Fn) (first cap : Array Value) (w : World), (Instr.makeFunc fn first cap).run Tryz.prog w = .ok (.func fn first cap) w := fun _ _ _ _ => rfl
  have HX := Lib.hid hx
  clear hx
  go_enter_defers Tryz.func273, Tryz.ntmps273
  go_wp2_with fail
  have hd := door_new w (.int .u64 0) (.int .i64 0) (.int .i64 0)
  generalize (((w.alloc (.cells #[.int .u64 0] 210)).alloc (.cells #[.int .i64 0] 3)).alloc (.cells #[.int .i64 0] 40)) = wx at hd ⊢
  have HD := Lib.hid hd
  clear hd
  refine (begin_ok _ l n wx (HB.out.kept0 HD.out.k) hn).mono ?_
  rintro e w1 ⟨rfl, hw1⟩
  have hr1 : Rdr w1 wx.heap.size (.slice A l.length cap) n := by rw [hw1]; exact Blk.new _ _ _
  have hd1 : Door w w1 (.int .u64 0) (.int .i64 0) (.int .i64 0) := by rw [hw1]; exact HD.out.kept ((Kept.refl Kno wx).alloc _) (fun _ _ h => h)
  have hlt : w.heap.size + 1 + 1 < wx.heap.size := HD.out.b2.lt
  have HR1 := Lib.hid hr1
  have HD1 := Lib.hid hd1
  clear hw1 hr1 hd1
  go_wp2_with fail
  refine (uint_any wx.heap.size n _ l w1 HR1.out (HB.out.kept0 HD1.out.k) hl hn).mono ?_
  rintro e w2 ⟨hk2, hm⟩
  rw [HX.out] at hm
  simp only at hm
  obtain ⟨rfl, hr2⟩ := hm
  have hd2 := HD1.out.kept hk2 (fun k hk h => by unfold Kone at h; omega)
  have c0 : w2.cell? ⟨w.heap.size, 0, none⟩ = some (.int .u64 0) := hd2.b0.cell 0
  have c1 : w2.cell? ⟨w.heap.size + 1, 0, none⟩ = some (.int .i64 0) := hd2.b1.cell 0
  have c2 : w2.cell? ⟨w.heap.size + 1 + 1, 0, none⟩ = some (.int .i64 0) := hd2.b2.cell 0
  have c3 : w2.cell? ⟨wx.heap.size, 1, none⟩ = some (.int .i64 ((n + k : Nat) : Int)) := Blk.cell hr2 1
  have f0 := hd2.b0.frozen 0
  have f1 := hd2.b1.frozen 0
  have f2 := hd2.b2.frozen 0
  have HD2 := Lib.hid hd2
  generalize hD : wx.heap.size = D at hlt c3 HR1 ⊢
  have hD0 : w.heap.size ≠ D := by omega
  have hD1 : w.heap.size + 1 ≠ D := by omega
  have hD2 : w.heap.size + 1 + 1 ≠ D := by omega
  generalize hnk : n + k = nk at c3
  clear hd2 hr2 hk2 hD
  go_wp2_with fail
  go_region
  all_goals
    go_wp2_with fail
    have hd3 := ((HD2.out.set1 (a' := .int .u64 N)).set (a' := .int .u64 N) (b' := .int .i64 nk) (c' := .int .i64 0)).kept (Kept.drew (Kept.refl Kno _)) (fun _ _ h => h)
    generalize ((((w2.setCell ⟨w.heap.size, 0, none⟩ (.int .u64 N)).setCell ⟨w.heap.size, 0, none⟩ (.int .u64 N)).setCell ⟨w.heap.size + 1, 0, none⟩ (.int .i64 nk)).setCell ⟨w.heap.size + 1 + 1, 0, none⟩ (.int .i64 0)).drew = wy at hd3 ⊢
    refine leaves_cons (f := 296) (args := #[.pointer (some ⟨w.heap.size, 0, none⟩), .pointer (some ⟨w.heap.size + 1, 0, none⟩), .pointer (some ⟨w.heap.size + 1 + 1, 0, none⟩)]) (by simp) (by simp [go_sem]) ?_
    refine (uintD_idle _ _ _ _).mono ?_
    rintro e u' w'' ⟨rfl, rfl, rfl⟩
    have e0 : w''.cell? ⟨w.heap.size, 0, none⟩ = some (.int .u64 N) := hd3.b0.cell 0
    have e1 : w''.cell? ⟨w.heap.size + 1, 0, none⟩ = some (.int .i64 nk) := hd3.b1.cell 0
    have e2 : w''.cell? ⟨w.heap.size + 1 + 1, 0, none⟩ = some (.int .i64 0) := hd3.b2.cell 0
    have hk := hd3.k
    rw [hnk]
    clear hd3 hnk HX
    simp [Leaves, settle, results, Tryz.results273, go_sem, e0, e1, e2, hk]

theorem uintF_any (v : Value) (l : List UInt8) (n : Int) (w : World) (hb : Bs w v l) (hl : l.length ≤ 1000000) :
    Calls Tryz.prog 273 #[v, .int .i64 n] w fun e w' => e = .returned (.tuple #[.int .u64 (uintRes l n).1, .int .i64 (uintRes l n).2.1, .int .i64 (uintRes l n).2.2]) ∧ Kept Kno w w' := by
  unfold uintRes
  by_cases hn : n < 0 ∨ (l.length : Int) < n
  · rw [if_pos hn]
    exact uintF_bad v l n w hb hn
  · rw [if_neg hn]
    obtain ⟨m, rfl⟩ : ∃ m : Nat, n = (m : Int) := ⟨n.toNat, by omega⟩
    rw [Int.toNat_natCast]
    cases hx : uintAt l m with
    | error c => exact uintF_err v l m c w hb hl (by omega) hx
    | ok p =>
      obtain ⟨N, k⟩ := p
      exact uintF_ok v l m N k w hb hl (by omega) hx

end Go.Proofs.YtffdaohmalmkfaaGreat
