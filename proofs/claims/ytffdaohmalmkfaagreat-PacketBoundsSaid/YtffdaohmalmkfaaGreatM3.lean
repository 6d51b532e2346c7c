/-
  Contracts and plain laws that the claim's theorem rests on, some texts in one file.
-/
import Derived.Test.YtffdaohmalmkfaaGreatM2
import Derived.Laws.Bits64b
import Derived.Laws.CopyOwn
import Derived.Lib.AppendStr
/-
  Codec: the writers of numbers and texts, and those of the reference.
-/
namespace Go.Proofs.YtffdaohmalmkfaaGreat
open Go.RowKit
set_option linter.unusedVariables false

/-- The blocks from base on. -/
def From (base : Nat) : Nat → Prop := fun k => base ≤ k
/-- A row of bytes in memory from base on, of which alone something may have changed. -/
def PutB (base : Nat) (m : List UInt8) (w : World) (e : Ending) (w' : World) : Prop :=
  ∃ A cap, e = .returned (.slice A m.length cap) ∧ OwnB w' base 5 (.slice A m.length cap) m ∧ Kept (From base) w w'
theorem PutOk.b {base : Nat} {b : Value} {m l : List UInt8} {w w' : World} {e : Ending} (h : PutOk base b m w e w') (hb : OwnB w base 5 b l) : PutB base m w e w' := by
  obtain ⟨A, cap, h1, h2, h3, _⟩ := h
  exact ⟨A, cap, h1, h2, h3.mono (fun k _ hk => (own_base hb hk).1)⟩
theorem kept_from {base : Nat} {w w1 w2 : World} (h : Kept Kno w w1) (h2 : Kept (From base) w1 w2) (hb : w.heap.size ≤ base) : Kept Kno w w2 :=
  h.trans h2 (fun k hk h => by unfold From at h; omega)

theorem ref_low (n : Nat) (h : n < 18446744073709551616) : bits BinOp.or IntKind.u64 (bits BinOp.and IntKind.u64 (n : Int) 127) 128 = ((n % 128 + 128 : Nat) : Int) := by
  have e1 := bits_and_u64_nat n 127 h (by decide)
  have e2 : n &&& 127 = n % 128 := Nat.and_two_pow_sub_one_eq_mod n 7
  rw [e2] at e1
  have e1' : bits BinOp.and IntKind.u64 (n : Int) 127 = ((n % 128 : Nat) : Int) := e1
  rw [e1']
  have e3 := bits_or_u64_nat (n % 128) 128 (by omega) (by decide)
  have e4 : n % 128 ||| 128 = n % 128 + 128 := by
    have h1 : ∀ x : Fin 128, x.val ||| 128 = x.val + 128 := by decide +kernel
    exact h1 ⟨n % 128, Nat.mod_lt _ (by decide)⟩
  rw [e4] at e3
  exact e3

set_option maxHeartbeats 1000000 in
theorem refUint_any (base : Nat) (b : Value) (l : List UInt8) (n : Nat) (w : World) (h : OwnB w base 5 b l) (hn : n < 18446744073709551616) (hl : l.length ≤ 140737488355000) (hb : base ≤ w.heap.size) :
    Calls Tryz.prog 249 #[b, .int .u64 n] w (PutOk base b (l ++ leb n) w) := by
  obtain ⟨i0, hi, hz0, hz1, hz2⟩ := info_parts info_byte
  have H := Lib.hid h
  obtain ⟨A0, cap0, rfl⟩ := own_form h
  clear h
  go_enter Tryz.func249, Tryz.ntmps249
  go_wp2_with fail
  go_loopw [0, 1] (fun b nv wr => PutRel base (.slice A0 l.length cap0) l n w b nv wr) (fun _ nv _ => (intOf nv).toNat)
  case atStart => exact ⟨A0, cap0, l, n, rfl, rfl, hn, H.out, rfl, Kept.refl _ _, fun k hk => .inl hk⟩
  case round =>
    obtain ⟨A, cap, l', n', rfl, rfl, hn', hown, heq, hk, hat⟩ := hrel
    have HO := Lib.hid hown
    have HE := Lib.hid heq
    have HAT := Lib.hid hat
    have hll : l'.length + 1 ≤ l.length + 11 := by
      have h1 := congrArg List.length heq
      have h2 := (leb_length n).2
      have h3 := (leb_length n').1
      simp only [List.length_append] at h1
      omega
    clear hown heq hat
    by_cases hge : 128 ≤ n'
    · have hge2 : (128 : Int) ≤ (n' : Int) := by omega
      have hst := leb_step n' hge hn'
      obtain ⟨c, hc1, hc2⟩ : ∃ c : UInt8, c = UInt8.ofNat (n' % 128 + 128) ∧ c.toNat = n' % 128 + 128 := ⟨_, rfl, by rw [UInt8.toNat_ofNat']; omega⟩
      rw [← hc1] at hst
      have hor := ref_low n' hn'
      rw [← hc2] at hor
      have hc3 : (c.toNat : Int) % 256 = (c.toNat : Int) := by omega
      have HST := Lib.hid hst
      have m1 : l'.length + 1 ≤ maxLen := by simp only [maxLen]; omega
      have hbw : base ≤ wr.heap.size := Nat.le_trans hb hk.size
      have hc4 : c.toNat < 256 := by omega
      clear hst hc1 hc2 hc3
      go_wp2_with (at_builtin; go_must (refine wpList_append_rd _ rfl _ _ 22 rfl base 5 i0 _ 1 1 Tryz.underlying22 hi hz0 hz1 hz2 rfl (by decide) (.slice A l'.length cap) l'.length (l'.map bv) rfl (World.ownsRow.alloc HO.out _) _ 1 [bv c] rfl (Rd.one _ _ _ rfl) (by simp [Value.oneCell', bv]) m1 (by omega) (by simp; omega) ?_); intro A2 cap2 w2 hown2 hg2 hat2)
      refine ⟨?_, by simp only [intOf]; omega⟩
      obtain ⟨p1, p2, p3⟩ := grow_put (news := [c]) hk HAT.out ((Kept.refl _ _).alloc _) rfl hown2 hg2 hat2
      refine ⟨A2, cap2, l' ++ [c], n' / 128, by simp, by go_num, by omega, p1, ?_, p2, p3⟩
      rw [← HE.out, HST.out]
      simp
    · have hge2 : ¬ (128 : Int) ≤ (n' : Int) := by omega
      obtain ⟨c, rfl⟩ : ∃ c : UInt8, n' = c.toNat := ⟨UInt8.ofNat n', by rw [UInt8.toNat_ofNat']; omega⟩
      have hst : leb c.toNat = [c] := by rw [leb_small c.toNat (by omega), UInt8.ofNat_toNat]
      have HST := Lib.hid hst
      have m1 : l'.length + 1 ≤ maxLen := by simp only [maxLen]; omega
      have hbw : base ≤ wr.heap.size := Nat.le_trans hb hk.size
      clear hst
      go_wp2_with (at_builtin; go_must (refine wpList_append_rd _ rfl _ _ 22 rfl base 5 i0 _ 1 1 Tryz.underlying22 hi hz0 hz1 hz2 rfl (by decide) (.slice A l'.length cap) l'.length (l'.map bv) rfl (World.ownsRow.alloc HO.out _) _ 1 [bv c] rfl (Rd.one _ _ _ rfl) (by simp [Value.oneCell', bv]) m1 (by omega) (by simp; omega) ?_); intro A2 cap2 w2 hown2 hg2 hat2)
      go_ret
      obtain ⟨p1, p2, p3⟩ := grow_put (news := [c]) hk HAT.out ((Kept.refl _ _).alloc _) rfl hown2 hg2 hat2
      have e : l' ++ [c] = l ++ leb n := by rw [← HE.out, HST.out]
      rw [e] at p1 p3
      have el : l'.length + 1 = (l ++ leb n).length := by rw [← e]; simp
      exact ⟨A2, cap2, by rw [← el]; rfl, p1, p2, p3⟩

/-- A new slice in new memory that reads as l. -/
def RetB (l : List UInt8) (w : World) (e : Ending) (w' : World) : Prop :=
  ∃ A cap, e = .returned (.slice A l.length cap) ∧ OwnB w' w.heap.size 5 (.slice A l.length cap) l ∧ Kept Kno w w'

set_option maxHeartbeats 400000 in
theorem fresh_any (v : Value) (l : List UInt8) (w : World) (h : Bs w v l) (hl : l.length ≤ 140737488355328) :
    Calls Tryz.prog 250 #[v] w (RetB l w) := by
  obtain ⟨i0, hi, hz0, hz1, hz2⟩ := info_parts info_byte
  have H := Lib.hid h
  obtain ⟨A, cap, rfl, -⟩ := h
  have r2 : 0 + l.length ≤ maxLen := by simp only [maxLen]; omega
  go_enter Tryz.func250, Tryz.ntmps250
  go_wp2_with (at_builtin; go_must (refine wpList_append_rd _ rfl _ _ 22 rfl w.heap.size 5 i0 _ 1 1 Tryz.underlying22 hi hz0 hz1 hz2 rfl (by decide) (.slice none 0 0) 0 [] rfl (World.ownsRow_nil _ _ _ _) _ l.length (l.map bv) rfl H.out (bvs_one l) r2 (by omega) (Nat.le_refl _) ?_); intro A1 cap1 w1 hown hg hat)
  go_ret
  simp only [Nat.zero_add, List.nil_append] at hown hat ⊢
  exact ⟨A1, cap1, rfl, hown, (Kept.refl _ _).grown hg (fun k hk e => by cases e)⟩

set_option maxHeartbeats 800000 in
theorem grown_any (v : Value) (l : List UInt8) (more : Nat) (w : World) (h : Bs w v l) (hl : l.length + more ≤ 16777000) :
    Calls Tryz.prog 148 #[v, .int .i64 more] w (RetB l w) := by
  obtain ⟨i0, hi, hz0, hz1, hz2⟩ := info_parts info_byte
  have H := Lib.hid h
  obtain ⟨A, cap, rfl, hlc, -⟩ := h
  have mk := run_makeSlice (P := Tryz.prog) w 22 5 i0 _ Tryz.underlying22 hi hz0 .i64 .i64 (l.length : Int) ((l.length : Int) + more) (by omega) (by omega) (by rw [hz1]; omega) (by rw [hz2]; omega) (by omega)
  have hms : (madeCells #[Value.int .u8 0] (l.length + more)).size = l.length + more := size_madeCells _ _
  have hcp : ∃ w1, (Builtin.copy_ #[22, 22] 3 #[.slice (some ⟨w.heap.size, 0, none⟩) l.length (l.length + more), .slice A l.length cap]).run Tryz.prog (w.alloc (.cells (madeCells #[Value.int .u8 0] (l.length + more)) 5)) = .ok (goInt l.length) w1 ∧
      OwnB w1 w.heap.size 5 (.slice (some ⟨w.heap.size, 0, none⟩) l.length (l.length + more)) l ∧ Kept Kno w w1 := by
    have hsz1 : (Tryz.prog.info? 5).map (·.size) = some 1 := by rw [hi]; simp [hz1]
    have hgn := heap_alloc_new w (.cells (madeCells #[Value.int .u8 0] (l.length + more)) 5)
    obtain ⟨A', cap', hv, h1, h2, h3, h4⟩ := H.out.alloc (.cells (madeCells #[Value.int .u8 0] (l.length + more)) 5)
    injection hv with e1 e2 e3
    subst e1 e3
    rcases A with _ | ad
    · have h0 : l.length = 0 := (h3 rfl).1
      have hl0 : l = [] := List.eq_nil_of_length_eq_zero h0
      subst hl0
      refine ⟨_, run_copy_none (P := Tryz.prog) _ 22 22 3 5 _ _ _ _ _ _ Tryz.underlying22 hsz1 rfl, ?_, (Kept.refl _ _).alloc _⟩
      exact ⟨rfl, .inr ⟨w.heap.size, _, _, rfl, Nat.le_refl _, hgn, by simp, by simp only [maxLen]; omega, by rw [hms]; simp, by simp⟩⟩
    · have hr := run_copy_row (P := Tryz.prog) (w.alloc (.cells (madeCells #[Value.int .u8 0] (l.length + more)) 5)) 22 22 3 5 w.heap.size 0 l.length (l.length + more) ad l.length cap _ 5 (l.map bv) Tryz.underlying22 hsz1 hgn (by simp) (h4 ad rfl) (by rw [hms]; simp) (bvs_one l)
      rw [List.length_map] at hr
      refine ⟨_, hr, ?_, Kept.setRow ((Kept.refl _ _).alloc _) (fun h => absurd h (Nat.lt_irrefl _)) _⟩
      refine ⟨by simp, .inr ⟨w.heap.size, _, _, rfl, Nat.le_refl _, setRow_heap _ _ _ _ _ _ hgn, by omega, by simp only [maxLen]; omega, ?_, ?_⟩⟩
      · simp [hms]
      · simp
  obtain ⟨w1, hcp, hown, hk⟩ := hcp
  have HO := Lib.hid hown
  clear hown hms
  go_enter Tryz.func148, Tryz.ntmps148
  go_wp2
  go_ret
  exact ⟨_, _, rfl, HO.out, hk⟩

end Go.Proofs.YtffdaohmalmkfaaGreat
/-
  Codec: putInt, putText, AppendUint, AppendInt, AppendText, and those of the reference.
-/
namespace Go.Proofs.YtffdaohmalmkfaaGreat
open Go.RowKit
set_option linter.unusedVariables false

/-- Zigzag. -/
def zz (m : Int) : Nat := if 0 ≤ m then (2 * m).toNat else (-2 * m - 1).toNat
theorem zz_lt (m : Int) (h1 : -9223372036854775808 ≤ m) (h2 : m ≤ 9223372036854775807) : zz m < 18446744073709551616 := by unfold zz; split <;> omega

theorem xor_ones (a : Nat) (h : a < 18446744073709551616) : a ^^^ 18446744073709551615 = 18446744073709551615 - a := by
  have h1 := BitVec.xor_allOnes (x := BitVec.ofNat 64 a)
  have h2 := congrArg BitVec.toNat h1
  rw [BitVec.toNat_xor, BitVec.toNat_not, BitVec.toNat_ofNat, BitVec.toNat_allOnes] at h2
  rw [Nat.mod_eq_of_lt (by omega)] at h2
  exact h2
theorem zig (x m : Int) (h1 : -9223372036854775808 ≤ m) (h2 : m ≤ 9223372036854775807) (hx : x % 18446744073709551616 = (2 * m) % 18446744073709551616) :
    bits BinOp.xor IntKind.u64 (IntKind.u64.wrap x) (IntKind.u64.wrap (m / 9223372036854775808)) = (zz m : Int) := by
  rw [IntKind.wrap_u64, IntKind.wrap_u64, hx]
  by_cases hm : 0 ≤ m
  · have e1 : (2 * m) % 18446744073709551616 = (((2 * m).toNat : Nat) : Int) := by omega
    have e2 : (m / 9223372036854775808) % 18446744073709551616 = ((0 : Nat) : Int) := by omega
    rw [e1, e2, bits_xor_u64_nat _ _ (by omega) (by decide), Nat.xor_zero]
    simp [zz, hm]
  · have e1 : (2 * m) % 18446744073709551616 = (((2 * m + 18446744073709551616).toNat : Nat) : Int) := by omega
    have e2 : (m / 9223372036854775808) % 18446744073709551616 = ((18446744073709551615 : Nat) : Int) := by omega
    rw [e1, e2, bits_xor_u64_nat _ _ (by omega) (by decide), xor_ones _ (by omega)]
    simp only [zz, if_neg hm]
    omega
theorem zig1 (m : Int) (h1 : -9223372036854775808 ≤ m) (h2 : m ≤ 9223372036854775807) : bits BinOp.xor IntKind.u64 (IntKind.u64.wrap (wrap64 (m * 2))) (IntKind.u64.wrap (m / 9223372036854775808)) = (zz m : Int) := by
  refine zig _ m h1 h2 ?_
  unfold wrap64
  omega
theorem zig2 (m : Int) (h1 : -9223372036854775808 ≤ m) (h2 : m ≤ 9223372036854775807) : bits BinOp.xor IntKind.u64 (IntKind.u64.wrap (IntKind.u64.wrap m * 2)) (IntKind.u64.wrap (m / 9223372036854775808)) = (zz m : Int) := by
  refine zig _ m h1 h2 ?_
  rw [IntKind.wrap_u64]
  omega

set_option maxHeartbeats 800000 in
theorem putInt_any (base : Nat) (b : Value) (l : List UInt8) (m : Int) (w : World) (h : OwnB w base 5 b l) (h1 : -9223372036854775808 ≤ m) (h2 : m ≤ 9223372036854775807) (hl : l.length ≤ 140737488355000) (hb : base ≤ w.heap.size) :
    Calls Tryz.prog 147 #[b, .int .i64 m] w (PutOk base b (l ++ leb (zz m)) w) := by
  obtain ⟨M, hM⟩ : ∃ M, M = l ++ leb (zz m) := ⟨_, rfl⟩
  rw [← hM]
  have HM := Lib.hid hM
  clear hM
  have H := Lib.hid h
  obtain ⟨A0, cap0, rfl⟩ := own_form h
  clear h
  go_enter Tryz.func147, Tryz.ntmps147
  go_wp2_with fail
  rw [zig1 m h1 h2]
  refine (putUint_any base _ l (zz m) w H.out (zz_lt m h1 h2) hl hb).mono ?_
  rw [← HM.out]
  rintro e w1 ⟨A1, cap1, rfl, hown, hk1, hat⟩
  have HX : Hid (PutOk base (.slice A0 l.length cap0) M w (.returned (.slice A1 M.length cap1)) w1) := Lib.hid ⟨A1, cap1, rfl, hown, hk1, hat⟩
  clear hown hat
  go_wp2
  go_ret
  exact HX.out

/-- The bytes of a string. -/
def sbytes (s : ByteArray) : List UInt8 := s.data.toList
theorem strCells_bytes (s : ByteArray) : Lib.strCells s = (sbytes s).map bv := rfl
theorem sbytes_length (s : ByteArray) : (sbytes s).length = s.size := by simp [sbytes]

set_option maxHeartbeats 800000 in
theorem putText_any (base : Nat) (b : Value) (l : List UInt8) (s : ByteArray) (w : World) (h : OwnB w base 5 b l) (hs : s.size ≤ 16777000) (hl : l.length ≤ 140737000000000) (hb : base ≤ w.heap.size) :
    Calls Tryz.prog 313 #[b, .string s] w (PutB base (l ++ (leb s.size ++ sbytes s)) w) := by
  obtain ⟨M, hM⟩ : ∃ M, M = l ++ leb s.size := ⟨_, rfl⟩
  have hML : M.length ≤ l.length + 11 := by rw [hM, List.length_append]; have := (leb_length s.size).2; omega
  rw [← List.append_assoc, ← hM]
  have HM := Lib.hid hM
  clear hM
  obtain ⟨i0, hi, hz0, hz1, hz2⟩ := info_parts info_byte
  have H := Lib.hid h
  obtain ⟨A0, cap0, rfl⟩ := own_form h
  clear h
  go_enter Tryz.func313, Tryz.ntmps313
  go_wp2_with fail
  refine (putUint_any base _ l s.size w H.out (by omega) (by omega) hb).mono ?_
  rw [← HM.out]
  rintro e w1 ⟨A1, cap1, rfl, hown, hk1, hat⟩
  have m1 : M.length + s.size ≤ maxLen := by simp only [maxLen]; omega
  have m2 : M.length + s.size ≤ 140737488355328 := by omega
  have HO := Lib.hid hown
  have hb1 : base ≤ w1.heap.size := Nat.le_trans hb hk1.size
  clear hown
  go_wp2_with (at_builtin; go_must (refine Lib.wpList_append_own_string _ rfl _ _ 22 9 rfl base 5 i0 Tryz.underlying22 Tryz.underlying9 hi hz0 hz1 hz2 (.slice A1 M.length cap1) M.length (M.map bv) rfl HO.out s rfl m1 m2 hb1 ?_); intro v2 w2 hown2 hg2 hat2)
  obtain ⟨A2, cap2, hv2⟩ := own_form hown2
  subst hv2
  have e : (M ++ sbytes s).length = M.length + s.size := by simp [sbytes_length]
  have hx : PutB base (M ++ sbytes s) w (.returned (.slice A2 (M.length + s.size) cap2)) w2 := by
    refine ⟨A2, cap2, by rw [e], ?_, ?_⟩
    · unfold OwnB
      rw [e]
      have h9 := hown2
      rw [strCells_bytes, ← List.map_append] at h9
      exact h9
    · exact (hk1.mono (T := From base) (fun k _ h => (own_base H.out h).1)).grown hg2 (fun k _ h => (own_base HO.out h).1)
  have HX := Lib.hid hx
  clear hx hown2 hg2 hat2 e
  go_ret
  exact HX.out

theorem RetB.ofPut {m : List UInt8} {w w1 w2 : World} {e : Ending} (hk : Kept Kno w w1) (h : PutB w.heap.size m w1 e w2) : RetB m w e w2 := by
  obtain ⟨A, cap, h1, h2, h3⟩ := h
  exact ⟨A, cap, h1, h2, kept_from hk h3 (Nat.le_refl _)⟩

set_option maxHeartbeats 800000 in
theorem appendUint_any (v : Value) (l : List UInt8) (n : Nat) (w : World) (h : Bs w v l) (hn : n < 18446744073709551616) (hl : l.length ≤ 16000000) :
    Calls Tryz.prog 203 #[v, .int .u64 n] w (RetB (l ++ leb n) w) := by
  obtain ⟨M, hM⟩ : ∃ M, M = l ++ leb n := ⟨_, rfl⟩
  rw [← hM]
  have HM := Lib.hid hM
  clear hM
  have H := Lib.hid h
  obtain ⟨A, cap, rfl, -⟩ := h
  go_enter Tryz.func203, Tryz.ntmps203
  go_wp2_with fail
  refine (grown_any _ l 10 w H.out (by omega)).mono ?_
  rintro e w1 ⟨A1, cap1, rfl, hown, hk1⟩
  have HO := Lib.hid hown
  clear hown
  go_wp2_with fail
  refine (putUint_any w.heap.size _ l n w1 HO.out hn (by omega) hk1.size).mono ?_
  rw [← HM.out]
  rintro e w2 hp
  obtain ⟨A2, cap2, he, hown2, hk2⟩ := RetB.ofPut hk1 (hp.b HO.out)
  subst he
  have HX : Hid (RetB M w (.returned (.slice A2 M.length cap2)) w2) := Lib.hid ⟨A2, cap2, rfl, hown2, hk2⟩
  clear hp hown2
  go_wp2
  go_ret
  exact HX.out

set_option maxHeartbeats 800000 in
theorem appendInt_any (v : Value) (l : List UInt8) (m : Int) (w : World) (h : Bs w v l) (h1 : -9223372036854775808 ≤ m) (h2 : m ≤ 9223372036854775807) (hl : l.length ≤ 16000000) :
    Calls Tryz.prog 83 #[v, .int .i64 m] w (RetB (l ++ leb (zz m)) w) := by
  obtain ⟨M, hM⟩ : ∃ M, M = l ++ leb (zz m) := ⟨_, rfl⟩
  rw [← hM]
  have HM := Lib.hid hM
  clear hM
  have H := Lib.hid h
  obtain ⟨A, cap, rfl, -⟩ := h
  go_enter Tryz.func83, Tryz.ntmps83
  go_wp2_with fail
  refine (grown_any _ l 10 w H.out (by omega)).mono ?_
  rintro e w1 ⟨A1, cap1, rfl, hown, hk1⟩
  have HO := Lib.hid hown
  clear hown
  go_wp2_with fail
  refine (putInt_any w.heap.size _ l m w1 HO.out h1 h2 (by omega) hk1.size).mono ?_
  rw [← HM.out]
  rintro e w2 hp
  obtain ⟨A2, cap2, he, hown2, hk2⟩ := RetB.ofPut hk1 (hp.b HO.out)
  subst he
  have HX : Hid (RetB M w (.returned (.slice A2 M.length cap2)) w2) := Lib.hid ⟨A2, cap2, rfl, hown2, hk2⟩
  clear hp hown2
  go_wp2
  go_ret
  exact HX.out

set_option maxHeartbeats 800000 in
theorem refAppendUint_any (v : Value) (l : List UInt8) (n : Nat) (w : World) (h : Bs w v l) (hn : n < 18446744073709551616) (hl : l.length ≤ 16000000) :
    Calls Tryz.prog 206 #[v, .int .u64 n] w (RetB (l ++ leb n) w) := by
  obtain ⟨M, hM⟩ : ∃ M, M = l ++ leb n := ⟨_, rfl⟩
  rw [← hM]
  have HM := Lib.hid hM
  clear hM
  have H := Lib.hid h
  obtain ⟨A, cap, rfl, -⟩ := h
  go_enter Tryz.func206, Tryz.ntmps206
  go_wp2_with fail
  refine (fresh_any _ l w H.out (by omega)).mono ?_
  rintro e w1 ⟨A1, cap1, rfl, hown, hk1⟩
  have HO := Lib.hid hown
  clear hown
  go_wp2_with fail
  refine (refUint_any w.heap.size _ l n w1 HO.out hn (by omega) hk1.size).mono ?_
  rw [← HM.out]
  rintro e w2 hp
  obtain ⟨A2, cap2, he, hown2, hk2⟩ := RetB.ofPut hk1 (hp.b HO.out)
  subst he
  have HX : Hid (RetB M w (.returned (.slice A2 M.length cap2)) w2) := Lib.hid ⟨A2, cap2, rfl, hown2, hk2⟩
  clear hp hown2
  go_wp2
  go_ret
  exact HX.out

set_option maxHeartbeats 800000 in
theorem refAppendInt_any (v : Value) (l : List UInt8) (m : Int) (w : World) (h : Bs w v l) (h1 : -9223372036854775808 ≤ m) (h2 : m ≤ 9223372036854775807) (hl : l.length ≤ 16000000)  :
    Calls Tryz.prog 200 #[v, .int .i64 m] w (RetB (l ++ leb (zz m)) w) := by
  obtain ⟨M, hM⟩ : ∃ M, M = l ++ leb (zz m) := ⟨_, rfl⟩
  rw [← hM]
  have HM := Lib.hid hM
  clear hM
  have H := Lib.hid h
  obtain ⟨A, cap, rfl, -⟩ := h
  go_enter Tryz.func200, Tryz.ntmps200
  go_wp2_with fail
  refine (fresh_any _ l w H.out (by omega)).mono ?_
  rintro e w1 ⟨A1, cap1, rfl, hown, hk1⟩
  have HO := Lib.hid hown
  clear hown
  go_wp2_with fail
  rw [zig2 m h1 h2]
  refine (refUint_any w.heap.size _ l (zz m) w1 HO.out (zz_lt m h1 h2) (by omega) hk1.size).mono ?_
  rw [← HM.out]
  rintro e w2 hp
  obtain ⟨A2, cap2, he, hown2, hk2⟩ := RetB.ofPut hk1 (hp.b HO.out)
  subst he
  have HX : Hid (RetB M w (.returned (.slice A2 M.length cap2)) w2) := Lib.hid ⟨A2, cap2, rfl, hown2, hk2⟩
  clear hp hown2
  go_wp2
  go_ret
  exact HX.out

end Go.Proofs.YtffdaohmalmkfaaGreat
