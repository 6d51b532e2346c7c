/-
  Codec: the writers of numbers and texts, and those of the reference.
-/
import Derived.Test.YtffdaohmalmkfaaGreatCodecA
import Derived.Laws.Bits64b
import Derived.Laws.CopyOwn
import Derived.Lib.AppendStr
namespace Go.Proofs.YtffdaohmalmkfaaGreat
open Go.RowKit
set_option linter.unusedVariables false

/-- The blocks from base on. -/
def From (base : Nat) : Nat → Prop := fun k => base ≤ k
/-- A row of bytes in memory from base on, of which alone something may have changed. -/
def PutB (base : Nat) (m : List UInt8) (w : World) (e : Ending) (w' : World) : Prop :=
  ∃ A cap, e = .returned (.slice A m.length cap) ∧ OwnB w' base 5 (.slice A m.length cap) m ∧ Kept (From base) w w'
theorem PutOk.b {base : Nat} {b : Value} {m l : List UInt8} {w w' : World} {e : Ending} (h : PutOk base b m w e w') (hb : OwnB w base 5 b l) : PutB base m w e w' := by
  obtain ⟨A, cap, h1, h2, h3, _⟩ := h
  exact ⟨A, cap, h1, h2, h3.mono (fun k _ hk => (own_base hb hk).1)⟩
theorem kept_from {base : Nat} {w w1 w2 : World} (h : Kept Kno w w1) (h2 : Kept (From base) w1 w2) (hb : w.heap.size ≤ base) : Kept Kno w w2 :=
  h.trans h2 (fun k hk h => by unfold From at h; omega)

theorem ref_low (n : Nat) (h : n < 18446744073709551616) : bits BinOp.or IntKind.u64 (bits BinOp.and IntKind.u64 (n : Int) 127) 128 = ((n % 128 + 128 : Nat) : Int) := by
  have e1 := bits_and_u64_nat n 127 h (by decide)
  have e2 : n &&& 127 = n % 128 := Nat.and_two_pow_sub_one_eq_mod n 7
  rw [e2] at e1
  have e1' : bits BinOp.and IntKind.u64 (n : Int) 127 = ((n % 128 : Nat) : Int) := e1
  rw [e1']
  have e3 := bits_or_u64_nat (n % 128) 128 (by omega) (by decide)
  have e4 : n % 128 ||| 128 = n % 128 + 128 := by
    have h1 : ∀ x : Fin 128, x.val ||| 128 = x.val + 128 := by decide +kernel
    exact h1 ⟨n % 128, Nat.mod_lt _ (by decide)⟩
  rw [e4] at e3
  exact e3

set_option maxHeartbeats 1000000 in
theorem refUint_any (base : Nat) (b : Value) (l : List UInt8) (n : Nat) (w : World) (h : OwnB w base 5 b l) (hn : n < 18446744073709551616) (hl : l.length ≤ 140737488355000) (hb : base ≤ w.heap.size) :
    Calls Tryz.prog 249 #[b, .int .u64 n] w (PutOk base b (l ++ leb n) w) := by
  obtain ⟨i0, hi, hz0, hz1, hz2⟩ := info_parts info_byte
  have H := Lib.hid h
  obtain ⟨A0, cap0, rfl⟩ := own_form h
  clear h
  go_enter Tryz.func249, Tryz.ntmps249
  go_wp2_with fail
  go_loopw [0, 1] (fun b nv wr => PutRel base (.slice A0 l.length cap0) l n w b nv wr) (fun _ nv _ => (intOf nv).toNat)
  case atStart => exact ⟨A0, cap0, l, n, rfl, rfl, hn, H.out, rfl, Kept.refl _ _, fun k hk => .inl hk⟩
  case round =>
    obtain ⟨A, cap, l', n', rfl, rfl, hn', hown, heq, hk, hat⟩ := hrel
    have HO := Lib.hid hown
    have HE := Lib.hid heq
    have HAT := Lib.hid hat
    have hll : l'.length + 1 ≤ l.length + 11 := by
      have h1 := congrArg List.length heq
      have h2 := (leb_length n).2
      have h3 := (leb_length n').1
      simp only [List.length_append] at h1
      omega
    clear hown heq hat
    by_cases hge : 128 ≤ n'
    · have hge2 : (128 : Int) ≤ (n' : Int) := by omega
      have hst := leb_step n' hge hn'
      obtain ⟨c, hc1, hc2⟩ : ∃ c : UInt8, c = UInt8.ofNat (n' % 128 + 128) ∧ c.toNat = n' % 128 + 128 := ⟨_, rfl, by rw [UInt8.toNat_ofNat']; omega⟩
      rw [← hc1] at hst
      have hor := ref_low n' hn'
      rw [← hc2] at hor
      have hc3 : (c.toNat : Int) % 256 = (c.toNat : Int) := by omega
      have HST := Lib.hid hst
      have m1 : l'.length + 1 ≤ maxLen := by simp only [maxLen]; omega
      have hbw : base ≤ wr.heap.size := Nat.le_trans hb hk.size
      have hc4 : c.toNat < 256 := by omega
      clear hst hc1 hc2 hc3
      go_wp2_with (at_builtin; go_must (refine wpList_append_rd _ rfl _ _ 22 rfl base 5 i0 _ 1 1 Tryz.underlying22 hi hz0 hz1 hz2 rfl (by decide) (.slice A l'.length cap) l'.length (l'.map bv) rfl (World.ownsRow.alloc HO.out _) _ 1 [bv c] rfl (Rd.one _ _ _ rfl) (by simp [Value.oneCell', bv]) m1 (by omega) (by simp; omega) ?_); intro A2 cap2 w2 hown2 hg2 hat2)
      refine ⟨?_, by simp only [intOf]; omega⟩
      obtain ⟨p1, p2, p3⟩ := grow_put (news := [c]) hk HAT.out ((Kept.refl _ _).alloc _) rfl hown2 hg2 hat2
      refine ⟨A2, cap2, l' ++ [c], n' / 128, by simp, by go_num, by omega, p1, ?_, p2, p3⟩
      rw [← HE.out, HST.out]
      simp
    · have hge2 : ¬ (128 : Int) ≤ (n' : Int) := by omega
      obtain ⟨c, rfl⟩ : ∃ c : UInt8, n' = c.toNat := ⟨UInt8.ofNat n', by rw [UInt8.toNat_ofNat']; omega⟩
      have hst : leb c.toNat = [c] := by rw [leb_small c.toNat (by omega), UInt8.ofNat_toNat]
      have HST := Lib.hid hst
      have m1 : l'.length + 1 ≤ maxLen := by simp only [maxLen]; omega
      have hbw : base ≤ wr.heap.size := Nat.le_trans hb hk.size
      clear hst
      go_wp2_with (at_builtin; go_must (refine wpList_append_rd _ rfl _ _ 22 rfl base 5 i0 _ 1 1 Tryz.underlying22 hi hz0 hz1 hz2 rfl (by decide) (.slice A l'.length cap) l'.length (l'.map bv) rfl (World.ownsRow.alloc HO.out _) _ 1 [bv c] rfl (Rd.one _ _ _ rfl) (by simp [Value.oneCell', bv]) m1 (by omega) (by simp; omega) ?_); intro A2 cap2 w2 hown2 hg2 hat2)
      go_ret
      obtain ⟨p1, p2, p3⟩ := grow_put (news := [c]) hk HAT.out ((Kept.refl _ _).alloc _) rfl hown2 hg2 hat2
      have e : l' ++ [c] = l ++ leb n := by rw [← HE.out, HST.out]
      rw [e] at p1 p3
      have el : l'.length + 1 = (l ++ leb n).length := by rw [← e]; simp
      exact ⟨A2, cap2, by rw [← el]; rfl, p1, p2, p3⟩

/-- A new slice in new memory that reads as l. -/
def RetB (l : List UInt8) (w : World) (e : Ending) (w' : World) : Prop :=
  ∃ A cap, e = .returned (.slice A l.length cap) ∧ OwnB w' w.heap.size 5 (.slice A l.length cap) l ∧ Kept Kno w w'

set_option maxHeartbeats 400000 in
theorem fresh_any (v : Value) (l : List UInt8) (w : World) (h : Bs w v l) (hl : l.length ≤ 140737488355328) :
    Calls Tryz.prog 250 #[v] w (RetB l w) := by
  obtain ⟨i0, hi, hz0, hz1, hz2⟩ := info_parts info_byte
  have H := Lib.hid h
  obtain ⟨A, cap, rfl, -⟩ := h
  have r2 : 0 + l.length ≤ maxLen := by simp only [maxLen]; omega
  go_enter Tryz.func250, Tryz.ntmps250
  go_wp2_with (at_builtin; go_must (refine wpList_append_rd _ rfl _ _ 22 rfl w.heap.size 5 i0 _ 1 1 Tryz.underlying22 hi hz0 hz1 hz2 rfl (by decide) (.slice none 0 0) 0 [] rfl (World.ownsRow_nil _ _ _ _) _ l.length (l.map bv) rfl H.out (bvs_one l) r2 (by omega) (Nat.le_refl _) ?_); intro A1 cap1 w1 hown hg hat)
  go_ret
  simp only [Nat.zero_add, List.nil_append] at hown hat ⊢
  exact ⟨A1, cap1, rfl, hown, (Kept.refl _ _).grown hg (fun k hk e => by cases e)⟩

set_option maxHeartbeats 800000 in
theorem grown_any (v : Value) (l : List UInt8) (more : Nat) (w : World) (h : Bs w v l) (hl : l.length + more ≤ 16777000) :
    Calls Tryz.prog 148 #[v, .int .i64 more] w (RetB l w) := by
  obtain ⟨i0, hi, hz0, hz1, hz2⟩ := info_parts info_byte
  have H := Lib.hid h
  obtain ⟨A, cap, rfl, hlc, -⟩ := h
  have mk := run_makeSlice (P := Tryz.prog) w 22 5 i0 _ Tryz.underlying22 hi hz0 .i64 .i64 (l.length : Int) ((l.length : Int) + more) (by omega) (by omega) (by rw [hz1]; omega) (by rw [hz2]; omega) (by omega)
  have hms : (madeCells #[Value.int .u8 0] (l.length + more)).size = l.length + more := size_madeCells _ _
  have hcp : ∃ w1, (Builtin.copy_ #[22, 22] 3 #[.slice (some ⟨w.heap.size, 0, none⟩) l.length (l.length + more), .slice A l.length cap]).run Tryz.prog (w.alloc (.cells (madeCells #[Value.int .u8 0] (l.length + more)) 5)) = .ok (goInt l.length) w1 ∧
      OwnB w1 w.heap.size 5 (.slice (some ⟨w.heap.size, 0, none⟩) l.length (l.length + more)) l ∧ Kept Kno w w1 := by
    have hsz1 : (Tryz.prog.info? 5).map (·.size) = some 1 := by rw [hi]; simp [hz1]
    have hgn := heap_alloc_new w (.cells (madeCells #[Value.int .u8 0] (l.length + more)) 5)
    obtain ⟨A', cap', hv, h1, h2, h3, h4⟩ := H.out.alloc (.cells (madeCells #[Value.int .u8 0] (l.length + more)) 5)
    injection hv with e1 e2 e3
    subst e1 e3
    rcases A with _ | ad
    · have h0 : l.length = 0 := (h3 rfl).1
      have hl0 : l = [] := List.eq_nil_of_length_eq_zero h0
      subst hl0
      refine ⟨_, run_copy_none (P := Tryz.prog) _ 22 22 3 5 _ _ _ _ _ _ Tryz.underlying22 hsz1 rfl, ?_, (Kept.refl _ _).alloc _⟩
      exact ⟨rfl, .inr ⟨w.heap.size, _, _, rfl, Nat.le_refl _, hgn, by simp, by simp only [maxLen]; omega, by rw [hms]; simp, by simp⟩⟩
    · have hr := run_copy_row (P := Tryz.prog) (w.alloc (.cells (madeCells #[Value.int .u8 0] (l.length + more)) 5)) 22 22 3 5 w.heap.size 0 l.length (l.length + more) ad l.length cap _ 5 (l.map bv) Tryz.underlying22 hsz1 hgn (by simp) (h4 ad rfl) (by rw [hms]; simp) (bvs_one l)
      rw [List.length_map] at hr
      refine ⟨_, hr, ?_, Kept.setRow ((Kept.refl _ _).alloc _) (fun h => absurd h (Nat.lt_irrefl _)) _⟩
      refine ⟨by simp, .inr ⟨w.heap.size, _, _, rfl, Nat.le_refl _, setRow_heap _ _ _ _ _ _ hgn, by omega, by simp only [maxLen]; omega, ?_, ?_⟩⟩
      · simp [hms]
      · simp
  obtain ⟨w1, hcp, hown, hk⟩ := hcp
  have HO := Lib.hid hown
  clear hown hms
  go_enter Tryz.func148, Tryz.ntmps148
  go_wp2
  go_ret
  exact ⟨_, _, rfl, HO.out, hk⟩

end Go.Proofs.YtffdaohmalmkfaaGreat
