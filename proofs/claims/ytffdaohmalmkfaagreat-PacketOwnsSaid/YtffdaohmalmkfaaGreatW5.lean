/-
  Contracts and plain laws that the claim's theorem rests on.
-/
import Derived.Test.YtffdaohmalmkfaaGreatW4
set_option linter.unusedSimpArgs false
set_option linter.unusedVariables false
/-
  Packet: the writer: counts, bools, rows, lists of numbers, operands.
-/
namespace Go.Proofs.YtffdaohmalmkfaaGreat
open Go.RowKit
set_option linter.unusedVariables false

theorem appendUint_nil (n : Nat) (w : World) (hn : n < 18446744073709551616) : Calls Tryz.prog 203 #[.slice none 0 0, .int .u64 n] w (RetB (leb n) w) := appendUint_any _ [] n w (bs_nil _) hn (by simp)

set_option maxRecDepth 100000 in
set_option maxHeartbeats 1000000 in
theorem wcount_any (D : Nat) (v : Value) (l : List UInt8) (n : Nat) (w : World) (h : Wr w D v l) (hn : n ≤ 9223372036854775807) (hl : l.length ≤ 1000000000000) :
    Calls Tryz.prog 109 #[.pointer (some ⟨D, 0, none⟩), .int .i64 n] w (WrOk D v (l ++ leb n) w) := by
  obtain ⟨i0, hi, hz0, hz1, hz2⟩ := info_parts info_byte
  obtain ⟨A, cap, rfl⟩ := h.form
  have H := Lib.hid h
  have hlt := h.lt
  have c0 : w.cell? ⟨D, 0, none⟩ = some (.slice A l.length cap) := h.blk.cell 0
  have f0 := h.blk.frozen 0
  have hlen := (leb_length n).2
  have hne := h.ne
  have m1 : l.length + (leb n).length ≤ maxLen := by simp only [maxLen]; omega
  have m2 : (l.length + (leb n).length) * 1 ≤ 140737488355328 := by omega
  have hn0 : (0 : Int) ≤ (n : Int) := by omega
  have hn1 : (n : Int) ≤ 9223372036854775807 := by omega
  have hw0 : IntKind.u64.wrap (n : Int) = (n : Int) := by rw [IntKind.wrap_u64]; omega
  have HN : Hid (n < 18446744073709551616) := Lib.hid (by omega)
  clear h hn
  go_enter Tryz.func109, Tryz.ntmps109
  go_region_law
    (first | (rw [if_pos (by rfl)]; go_simp; refine (appendUint_nil n _ HN.out).mono ?_; rintro e w1 ⟨A1, cap1, rfl, hown, hk'⟩; have hk : Kept Kno w w1 := Kept.then0 (Kept.drew (Kept.refl _ w)) hk'; have q0 := hk.cell_some c0 (fun h => h); have q2 := hk.frozen_no f0 hlt (fun h => h); have HO1 : Hid (OwnB w1 w.drew.heap.size 5 (.slice A1 (leb n).length cap1) (leb n)) := Lib.hid hown; clear hk' hown)
           | (refine step_append_rd _ (by rfl) _ _ 22 (by rfl) D 5 i0 _ 1 1 Tryz.underlying22 hi hz0 hz1 hz2 rfl (by decide) (.slice A l.length cap) l.length (l.map bv) (by rfl) (own_kept H.out.own hk (fun _ _ h => h)) (.slice A1 (leb n).length cap1) (leb n).length ((leb n).map bv) (by rfl) HO1.out.bs (bvs_one _) m1 m2 (by have := hk.size; omega) ?_
              intro A2 cap2 w2 hown2 hg2 hat2
              have q1 := hg2.cell q0 (fun e => hne e.symm)
              have q3 : w2.frozen? ⟨D, 0, none⟩ = false := (World.frozen?_of_block (hg2.block D (by have := hk.size; omega) (fun e => hne e.symm))).trans q2))
  all_goals
    go_wp2
    go_end0
    exact grow_wr H.out hk rfl hown2 hg2 hat2

set_option maxRecDepth 100000 in
set_option maxHeartbeats 1000000 in
theorem wbool_any (D : Nat) (v : Value) (l : List UInt8) (b : Bool) (w : World) (h : Wr w D v l) (hl : l.length ≤ 1000000000000) :
    Calls Tryz.prog 172 #[.pointer (some ⟨D, 0, none⟩), .bool b] w (WrOk D v (l ++ ibool b) w) := by
  obtain ⟨i0, hi, hz0, hz1, hz2⟩ := info_parts info_byte
  obtain ⟨A, cap, rfl⟩ := h.form
  have H := Lib.hid h
  have hlt := h.lt
  have c0 : w.cell? ⟨D, 0, none⟩ = some (.slice A l.length cap) := h.blk.cell 0
  have f0 := h.blk.frozen 0
  have hne := h.ne
  have m1 : l.length + 1 ≤ maxLen := by simp only [maxLen]; omega
  have m2 : (l.length + 1) * 1 ≤ 140737488355328 := by omega
  have hk : Kept Kno w w.drew := (Kept.refl _ w).drew
  clear h
  cases b with
  | true =>
    go_enter Tryz.func172, Tryz.ntmps172
    go_wp2_with (at_builtin; go_must (refine wpList_append_rd _ rfl _ _ 22 rfl D 5 i0 _ 1 1 Tryz.underlying22 hi hz0 hz1 hz2 rfl (by decide) (.slice A l.length cap) l.length (l.map bv) rfl (World.ownsRow.alloc H.out.own _) _ 1 [bv 1] rfl (Rd.one _ _ _ rfl) (by simp [Value.oneCell', bv]) m1 m2 (by simp; omega) ?_); intro A2 cap2 w2 hown2 hg2 hat2; have q1 : w2.cell? ⟨D, 0, none⟩ = some (.slice A l.length cap) := hg2.cell (((Kept.refl Kno w).alloc _).cell_some c0 (fun h => h)) (fun e => hne e.symm); have q3 : w2.frozen? ⟨D, 0, none⟩ = false := (World.frozen?_of_block (hg2.block D (by simp; omega) (fun e => hne e.symm))).trans (((Kept.refl Kno w).alloc _).frozen_no f0 hlt (fun h => h)))
    go_end0
    exact grow_wr (news := [1]) H.out ((Kept.refl _ _).alloc _) rfl hown2 hg2 hat2
  | false =>
    go_enter Tryz.func172, Tryz.ntmps172
    go_wp2_with (at_builtin; go_must (refine wpList_append_rd _ rfl _ _ 22 rfl D 5 i0 _ 1 1 Tryz.underlying22 hi hz0 hz1 hz2 rfl (by decide) (.slice A l.length cap) l.length (l.map bv) rfl (World.ownsRow.alloc H.out.own _) _ 1 [bv 0] rfl (Rd.one _ _ _ rfl) (by simp [Value.oneCell', bv]) m1 m2 (by simp; omega) ?_); intro A2 cap2 w2 hown2 hg2 hat2; have q1 : w2.cell? ⟨D, 0, none⟩ = some (.slice A l.length cap) := hg2.cell (((Kept.refl Kno w).alloc _).cell_some c0 (fun h => h)) (fun e => hne e.symm); have q3 : w2.frozen? ⟨D, 0, none⟩ = false := (World.frozen?_of_block (hg2.block D (by simp; omega) (fun e => hne e.symm))).trans (((Kept.refl Kno w).alloc _).frozen_no f0 hlt (fun h => h)))
    go_end0
    exact grow_wr (news := [0]) H.out ((Kept.refl _ _).alloc _) rfl hown2 hg2 hat2

end Go.Proofs.YtffdaohmalmkfaaGreat
/-
  Packet: the writer: lists of numbers, operands.
-/
namespace Go.Proofs.YtffdaohmalmkfaaGreat
open Go.RowKit
set_option linter.unusedVariables false

def NumsRel (D : Nat) (v : Value) (l : List UInt8) (xs : List Int) (w : World) (i : Value) (wr : World) : Prop :=
  ∃ (k : Nat) (v' : Value), k ≤ xs.length ∧ i = .int .i64 k ∧ Wr wr D v' (l ++ leb xs.length ++ (xs.take k).flatMap inum) ∧ WStep D v w v' wr

theorem inum_length (n : Int) : 1 ≤ (inum n).length ∧ (inum n).length ≤ 11 := leb_length _
theorem flatMap_take_le {α β : Type} (f : α → List β) (l : List α) (k : Nat) : ((l.take k).flatMap f).length ≤ (l.flatMap f).length := by
  induction l generalizing k with
  | nil => simp
  | cons a l ih =>
    cases k with
    | zero => simp
    | succ k => have := ih k; simp only [List.take_succ_cons, List.flatMap_cons, List.length_append]; omega

set_option maxRecDepth 100000 in
set_option maxHeartbeats 2000000 in
theorem wnumbers_any (D B : Nat) (v u : Value) (l : List UInt8) (xs : List Int) (w : World) (h : Wr w D v l) (hu : SlIn w B 1 u xs.length (xs.map iv)) (hx : ∀ x ∈ xs, I64 x) (hB : B ≤ D) (hl : l.length + (inums xs).length ≤ 1000000000000) :
    Calls Tryz.prog 157 #[.pointer (some ⟨D, 0, none⟩), u] w (WrOk D v (l ++ inums xs) w) := by
  have H := Lib.hid h
  have HX := Lib.hid hx
  have hlen : l.length + (leb xs.length).length + (xs.flatMap inum).length ≤ 1000000000000 := by simp only [inums, List.length_append] at hl; omega
  have HL := Lib.hid hlen
  have HU := Lib.hid hu
  obtain ⟨A, cap, rfl, hcap, hmax, -, hnil, hlow, hat⟩ := hu
  have HAT := Lib.hid hat
  have hmax' : cap ≤ 9223372036854775807 := by simpa only [maxLen] using hmax
  have HC : Hid (Calls Tryz.prog 109 #[.pointer (some ⟨D, 0, none⟩), .int .i64 xs.length] w (WrOk D v (l ++ leb xs.length) w)) := Lib.hid (wcount_any D v l xs.length w h (by omega) (by omega))
  clear h hx hlen hat hnil hlow hl hmax
  go_enter Tryz.func157, Tryz.ntmps157
  go_wp2_with fail
  refine HC.out.mono ?_
  rintro e w1 ⟨v1, rfl, hw1, hs1⟩
  have HW1 := Lib.hid hw1
  have HS1 := Lib.hid hs1
  clear hw1 hs1
  go_wp2_with fail
  go_loopw [12] (fun i wr => NumsRel D v l xs w i wr) (fun i _ => xs.length - (intOf i).toNat)
  case atStart => exact ⟨0, v1, Nat.zero_le _, rfl, by simpa using HW1.out, HS1.out⟩
  case round =>
    obtain ⟨k, v2, hk, rfl, hw2, hs2⟩ := hrel
    have HW2 := Lib.hid hw2
    have HS2 := Lib.hid hs2
    clear hw2 hs2
    by_cases hlt : k < xs.length
    · obtain ⟨g, o, rfl, hgB, hc⟩ := HAT.out (by omega)
      have hc' := hc.old hgB (HS2.out.old H.out hB)
      obtain ⟨x, hx⟩ : ∃ x, xs[k]? = some x := ⟨xs[k], List.getElem?_eq_getElem hlt⟩
      have c0 : wr.cell? ⟨g, o + k, none⟩ = some (.int .i64 x) := hc' k (iv x) (by rw [List.getElem?_map, hx]; rfl)
      have HXI : Hid (I64 x) := Lib.hid (HX.out x (List.mem_of_getElem? hx))
      have HXX := Lib.hid hx
      have hk0 : (0 : Int) ≤ (k : Int) := by omega
      have hk9 : (k : Int) < (xs.length : Int) := by omega
      clear hc hc' hx
      go_wp2_with fail
      refine (wnumber_any D v2 _ x wr HW2.out HXI.out (by have := HL.out; have := flatMap_take_le inum xs k; simp only [List.length_append]; omega)).mono ?_
      rintro e w3 ⟨v3, rfl, hw3, hs3⟩
      have HW3 := Lib.hid hw3
      have HS3 := Lib.hid (HS2.out.trans hs3)
      clear hw3 hs3
      go_wp2
      go_roundw
      case rel =>
        refine ⟨k + 1, v3, by omega, by go_num, ?_, HS3.out⟩
        rw [List.take_add_one, HXX.out]
        have := HW3.out
        simpa using this
      case measure => simp [intOf]; omega
    · have hk9 : ¬ (k : Int) < (xs.length : Int) := by omega
      go_wp2
      go_end0
      refine ⟨v2, rfl, ?_, HS2.out⟩
      have := HW2.out
      rw [List.take_of_length_le (by omega)] at this
      simpa [inums] using this

theorem appendValue_nil (x : Val) (w : World) (hx : okVal x) (hv : validB x.kind x.n x.s = true) : Calls Tryz.prog 279 #[.slice none 0 0, x.v] w (RetE (venc x, 0) w) := by
  have h := appendValue_any _ [] x w (bs_nil _) hx (by simp)
  have e : valRes [] x = (venc x, 0) := by unfold valRes; rw [if_pos hv]; rfl
  rw [e] at h
  exact h

theorem valid_kind (x : Val) (h : validB x.kind x.n x.s = true) : x.kind ≠ 0 := by
  intro e
  rw [e] at h
  exact absurd h (by simp [validB])
theorem valZ_is (x : Val) (h : valZ x = true) : x = ⟨0, 0, ⟨#[]⟩⟩ := by
  obtain ⟨k, n, ⟨⟨s⟩⟩⟩ := x
  simp only [valZ, Bool.and_eq_true, decide_eq_true_eq] at h
  obtain ⟨⟨rfl, rfl⟩, h⟩ := h
  have : s = [] := List.eq_nil_of_length_eq_zero (by simpa [ByteArray.size] using h)
  subst this
  rfl
theorem encO_length (o : Opnd) (h : fitO o = true) : (encO o).length ≤ 102 := by
  have h1 := (inum_length o.kind).2
  have h2 := (inum_length o.idx).2
  have h3 : (ival o.val).length ≤ 80 := by
    unfold ival
    split
    · simp
    · rename_i hz
      refine venc_length o.val ?_
      unfold fitO plainV at h
      simpa [hz] using h
  simp only [encO, List.length_append]
  omega

set_option maxRecDepth 100000 in
set_option maxHeartbeats 2000000 in
theorem woperand_any (D : Nat) (v : Value) (l : List UInt8) (o : Opnd) (w : World) (h : Wr w D v l) (ho : okOpnd o) (hf : fitO o = true) (hl : l.length ≤ 900000000000) :
    Calls Tryz.prog 253 #[.pointer (some ⟨D, 0, none⟩), o.v] w (WrOk D v (l ++ encO o) w) := by
  have H := Lib.hid h
  obtain ⟨kind, idx, ⟨vk, vn, vs⟩⟩ := o
  obtain ⟨o1, o2, o3, o4⟩ := ho
  have HO1 := Lib.hid o1
  have HO2 := Lib.hid o2
  have HO4 := Lib.hid o4
  have HF := Lib.hid hf
  have hk1 := (inum_length kind).2
  have hk2 := (inum_length idx).2
  simp only [Opnd.v]
  clear h o1 o2 o3 o4 hf
  go_enter Tryz.func253, Tryz.ntmps253
  go_wp2_with fail
  have hsA : WStep D v w v (w.alloc (.cells #[.int .i64 kind, .int .i64 idx, .int .i64 vk, .int .i64 vn, .string vs] 51)) := .new ((Kept.refl _ _).alloc _)
  have HG := Lib.hid (Gd.new H.out #[.int .i64 kind, .int .i64 idx, .int .i64 vk, .int .i64 vn, .string vs] 51)
  have HWA := Lib.hid (H.out.kept ((Kept.refl _ _).alloc (.cells #[.int .i64 kind, .int .i64 idx, .int .i64 vk, .int .i64 vn, .string vs] 51)))
  have HS := Lib.hid hsA
  clear hsA
  generalize (w.alloc (.cells #[.int .i64 kind, .int .i64 idx, .int .i64 vk, .int .i64 vn, .string vs] 51)) = wA at HS HG HWA ⊢
  refine (wnumber_any D v l kind wA HWA.out HO1.out (by omega)).mono ?_
  rintro e w1 ⟨v1, rfl, hw1, hs1⟩
  have HG1 := Lib.hid (HG.out.step hs1)
  have HW1 := Lib.hid hw1
  have HS1 := Lib.hid (HS.out.trans hs1)
  have c1 : w1.cell? ⟨w.heap.size, 1, none⟩ = some (.int .i64 idx) := HG1.out.b.cell 1
  clear hw1 hs1 HG HWA HS
  go_wp2_with fail
  refine (wnumber_any D v1 _ idx w1 HW1.out HO2.out (by rw [List.length_append]; omega)).mono ?_
  rintro e w2 ⟨v2, rfl, hw2, hs2⟩
  have HG2 := Lib.hid (HG1.out.step hs2)
  have HW2 := Lib.hid hw2
  have HS2 := Lib.hid (HS1.out.trans hs2)
  have d2 : w2.cell? ⟨w.heap.size, 2, none⟩ = some (.int .i64 vk) := HG2.out.b.cell 2
  have d3 : w2.cell? ⟨w.heap.size, 3, none⟩ = some (.int .i64 vn) := HG2.out.b.cell 3
  have d4 : w2.cell? ⟨w.heap.size, 4, none⟩ = some (.string vs) := HG2.out.b.cell 4
  clear hw2 hs2 HG1 HW1 HS1 c1
  by_cases hz : valZ ⟨vk, vn, vs⟩ = true
  · have hv := valZ_is _ hz
    injection hv with e1 e2 e3
    subst e1 e2 e3
    clear hz
    have hl2 : (l ++ inum kind ++ inum idx).length ≤ 1000000000000 := by simp only [List.length_append]; omega
    have he : l ++ encO ⟨kind, idx, ⟨0, 0, ⟨#[]⟩⟩⟩ = (l ++ inum kind ++ inum idx) ++ [0] := by
      have : ival ⟨0, 0, ⟨#[]⟩⟩ = [0] := by kernel_rfl
      simp [encO, this]
    obtain ⟨L, hL⟩ : ∃ L, L = l ++ inum kind ++ inum idx := ⟨_, rfl⟩
    rw [← hL] at HW2 hl2 he
    have HE := Lib.hid he
    clear hL he
    obtain ⟨i0, hi, hz0, hz1, hz2⟩ := info_parts info_byte
    obtain ⟨A, cap, rfl⟩ := HW2.out.form
    have hlt := HW2.out.lt
    have c0 : w2.cell? ⟨D, 0, none⟩ = some (.slice A L.length cap) := HW2.out.blk.cell 0
    have f0 := HW2.out.blk.frozen 0
    have hne := HW2.out.ne
    have m1 : L.length + 1 ≤ maxLen := by simp only [maxLen]; omega
    have m2 : (L.length + 1) * 1 ≤ 140737488355328 := by omega
    go_wp2_with (at_builtin; go_must (refine wpList_append_rd _ rfl _ _ 22 rfl D 5 i0 _ 1 1 Tryz.underlying22 hi hz0 hz1 hz2 rfl (by decide) (.slice A L.length cap) L.length (L.map bv) rfl (World.ownsRow.alloc HW2.out.own _) _ 1 [bv 0] rfl (Rd.one _ _ _ rfl) (by simp [Value.oneCell', bv]) m1 m2 (by simp; omega) ?_); intro A2 cap2 w3 hown2 hg2 hat2; have q1 : w3.cell? ⟨D, 0, none⟩ = some (.slice A L.length cap) := hg2.cell (((Kept.refl Kno w2).alloc _).cell_some c0 (fun h => h)) (fun e => hne e.symm); have q3 : w3.frozen? ⟨D, 0, none⟩ = false := (World.frozen?_of_block (hg2.block D (by simp; omega) (fun e => hne e.symm))).trans (((Kept.refl Kno w2).alloc _).frozen_no f0 hlt (fun h => h)))
    go_end0
    rw [HE.out]
    exact WrOk.after HS2.out (grow_wr (news := [0]) HW2.out ((Kept.refl _ _).alloc _) rfl hown2 hg2 hat2)
  · have hv : validB vk vn vs = true := by
      have := HF.out
      unfold fitO plainV at this
      simpa [hz] using this
    have hk0 : (vk == 0) = false := by simpa using valid_kind ⟨vk, vn, vs⟩ hv
    have hle := venc_length ⟨vk, vn, vs⟩ hv
    have hl2 : (l ++ inum kind ++ inum idx).length + (venc ⟨vk, vn, vs⟩).length ≤ 1000000000000 := by simp only [List.length_append]; omega
    have he : l ++ encO ⟨kind, idx, ⟨vk, vn, vs⟩⟩ = (l ++ inum kind ++ inum idx) ++ venc ⟨vk, vn, vs⟩ := by
      have : ival ⟨vk, vn, vs⟩ = venc ⟨vk, vn, vs⟩ := by unfold ival; rw [if_neg hz]
      simp [encO, this]
    have hcr : Calls Tryz.prog 279 #[.slice none 0 0, .agg #[.int .i64 vk, .int .i64 vn, .string vs]] w2 (RetE (venc ⟨vk, vn, vs⟩, 0) w2) := appendValue_nil ⟨vk, vn, vs⟩ w2 HO4.out hv
    obtain ⟨M, hM⟩ : ∃ M, M = venc ⟨vk, vn, vs⟩ := ⟨_, rfl⟩
    rw [← hM] at hcr hle hl2 he
    have HCR := Lib.hid hcr
    clear hM hcr hz hv
    obtain ⟨L, hL⟩ : ∃ L, L = l ++ inum kind ++ inum idx := ⟨_, rfl⟩
    rw [← hL] at HW2 hl2 he
    have HE := Lib.hid he
    clear hL he
    obtain ⟨i0, hi, hz0, hz1, hz2⟩ := info_parts info_byte
    obtain ⟨A, cap, rfl⟩ := HW2.out.form
    have hlt := HW2.out.lt
    have c0 : w2.cell? ⟨D, 0, none⟩ = some (.slice A L.length cap) := HW2.out.blk.cell 0
    have f0 := HW2.out.blk.frozen 0
    have hne := HW2.out.ne
    have m1 : L.length + M.length ≤ maxLen := by simp only [maxLen]; omega
    have m2 : (L.length + M.length) * 1 ≤ 140737488355328 := by omega
    go_wp2_with fail
    refine HCR.out.mono ?_
    rintro e w3 ⟨A1, cap1, rfl, hown, hk⟩
    have q0 := hk.cell_some c0 (fun h => h)
    have q2 := hk.frozen_no f0 hlt (fun h => h)
    have HO1 : Hid (OwnB w3 w2.heap.size 5 (.slice A1 M.length cap1) M) := Lib.hid hown
    clear hown
    go_wp2_with (at_builtin; go_must (refine wpList_append_rd _ rfl _ _ 22 rfl D 5 i0 _ 1 1 Tryz.underlying22 hi hz0 hz1 hz2 rfl (by decide) (.slice A L.length cap) L.length (L.map bv) rfl (own_kept HW2.out.own hk (fun _ _ h => h)) (.slice A1 M.length cap1) M.length (M.map bv) rfl HO1.out.bs (bvs_one _) m1 m2 (by have := hk.size; omega) ?_); intro A2 cap2 w4 hown2 hg2 hat2; have q1 : w4.cell? ⟨D, 0, none⟩ = some (.slice A L.length cap) := hg2.cell q0 (fun e => hne e.symm); have q3 : w4.frozen? ⟨D, 0, none⟩ = false := (World.frozen?_of_block (hg2.block D (by have := hk.size; omega) (fun e => hne e.symm))).trans q2)
    go_end0
    rw [HE.out]
    exact WrOk.after HS2.out (grow_wr HW2.out hk rfl hown2 hg2 hat2)

end Go.Proofs.YtffdaohmalmkfaaGreat
/-
  Packet: the writer: predicates.
-/
namespace Go.Proofs.YtffdaohmalmkfaaGreat
open Go.RowKit
set_option linter.unusedVariables false

theorem encPs_take_le (ps : List Prd) (k : Nat) : (encPs (ps.take k)).length ≤ (encPs ps).length := by
  have h := encPs_append (ps.take k) (ps.drop k)
  rw [List.take_append_drop] at h
  rw [h, List.length_append]
  omega
theorem encPs_take_succ (ps : List Prd) (k : Nat) (p : Prd) (h : ps[k]? = some p) : encPs (ps.take (k + 1)) = encPs (ps.take k) ++ encP p := by
  rw [List.take_add_one, h, encPs_append]
  simp [encPs]
theorem sizePs_mem {ps : List Prd} {p : Prd} (h : p ∈ ps) : sizeP p ≤ sizePs ps := by
  induction ps with
  | nil => cases h
  | cons q ps ih =>
    simp only [sizePs]
    rcases List.mem_cons.1 h with rfl | h
    · omega
    · have := ih h; omega
theorem fitPs_mem {d : Nat} {ps : List Prd} {p : Prd} (hf : fitPs d ps = true) (h : p ∈ ps) : fitP d p = true := by
  induction ps with
  | nil => cases h
  | cons q ps ih =>
    simp only [fitPs, Bool.and_eq_true] at hf
    rcases List.mem_cons.1 h with rfl | h
    · exact hf.1
    · exact ih hf.2 h

def PredRel (D : Nat) (v : Value) (pre : List UInt8) (args : List Prd) (w : World) (i : Value) (wr : World) : Prop :=
  ∃ (k : Nat) (v' : Value), k ≤ args.length ∧ i = .int .i64 k ∧ Wr wr D v' (pre ++ encPs (args.take k)) ∧ WStep D v w v' wr

set_option maxRecDepth 100000 in
set_option maxHeartbeats 8000000 in
theorem wpredicate_n (N : Nat) : ∀ (p : Prd), sizeP p ≤ N → ∀ (d D B : Nat) (v s : Value) (l : List UInt8) (w : World), Wr w D v l → PIn w B p s → B ≤ D → fitP d p = true → l.length + (encP p).length ≤ 800000000000 →
    Calls Tryz.prog 204 #[.pointer (some ⟨D, 0, none⟩), p.v s] w (WrOk D v (l ++ encP p) w) := by
  induction N with
  | zero => intro p hp; have := sizeP_pos p; omega
  | succ N IH =>
    intro p hsz d D B v s l w h hp hB hf hl
    obtain ⟨op, cmp, lo, ro, args⟩ := p
    have H := Lib.hid h
    simp only [sizeP] at hsz
    simp only [fitP, Bool.and_eq_true] at hf
    simp only [PIn] at hp
    obtain ⟨p1, p2, p3, p4, A, cap, rfl, hcap, hmax, -, hlow, hat⟩ := hp
    obtain ⟨⟨⟨-, f1⟩, f2⟩, f3⟩ := hf
    have HP1 := Lib.hid p1
    have HP2 := Lib.hid p2
    have HP3 := Lib.hid p3
    have HP4 := Lib.hid p4
    have HF1 := Lib.hid f1
    have HF2 := Lib.hid f2
    have HF3 := Lib.hid f3
    have HAT := Lib.hid hat
    have hEnc : encP (.mk op cmp lo ro args) = inum op ++ inum cmp ++ encO lo ++ encO ro ++ leb args.length ++ encPs args := by simp only [encP]
    have HE := Lib.hid hEnc
    have HIH : Hid (∀ (p : Prd), p ∈ args → ∀ (s v : Value) (l : List UInt8) (w : World), Wr w D v l → PIn w B p s → l.length + (encP p).length ≤ 800000000000 → Calls Tryz.prog 204 #[.pointer (some ⟨D, 0, none⟩), p.v s] w (WrOk D v (l ++ encP p) w)) := Lib.hid (by
      intro p hpm s v l w h1 h2 h3
      exact IH p (by have := sizePs_mem hpm; omega) (d + 1) D B v s l w h1 h2 hB (fitPs_mem f3 hpm) h3)
    rw [hEnc] at hl
    simp only [List.length_append] at hl
    have i1 := (inum_length op).2
    have i2 := (inum_length cmp).2
    have i3 := encO_length lo f1
    have i4 := encO_length ro f2
    have i5 := (leb_length args.length).2
    have hmax' : cap ≤ 9223372036854775807 := by simpa only [maxLen] using hmax
    have HL : Hid (l.length + (inum op).length + (inum cmp).length + (encO lo).length + (encO ro).length + (leb args.length).length + (encPs args).length ≤ 800000000000) := Lib.hid (by omega)
    obtain ⟨lk, li, ⟨la, lb, lc⟩⟩ := lo
    obtain ⟨rk, ri, ⟨ra, rb, rc⟩⟩ := ro
    simp only [Prd.v]
    clear IH h p1 p2 p3 p4 f1 f2 f3 hat hlow hEnc hmax hl hsz
    go_enter Tryz.func204, Tryz.ntmps204
    go_wp2_with fail
    obtain ⟨wA, hA⟩ : ∃ wA, wA = w.alloc (.cells #[.int .i64 op, .int .i64 cmp, .int .i64 lk, .int .i64 li, .int .i64 la, .int .i64 lb, .string lc, .int .i64 rk, .int .i64 ri, .int .i64 ra, .int .i64 rb, .string rc, .slice A args.length cap] 54) := ⟨_, rfl⟩
    rw [← hA]
    have hkA : Kept Kno w wA := by rw [hA]; exact (Kept.refl _ _).alloc _
    have HG : Hid (Gd wA D v w.heap.size 54 #[.int .i64 op, .int .i64 cmp, .int .i64 lk, .int .i64 li, .int .i64 la, .int .i64 lb, .string lc, .int .i64 rk, .int .i64 ri, .int .i64 ra, .int .i64 rb, .string rc, .slice A args.length cap]) := Lib.hid (by rw [hA]; exact Gd.new H.out _ _)
    have HW0 := Lib.hid (H.out.kept hkA)
    have HS0 : Hid (WStep D v w v wA) := Lib.hid (.new hkA)
    clear hA hkA
    refine (wnumber_any D v l op wA HW0.out HP1.out (by have := HL.out; omega)).mono ?_
    rintro e w1 ⟨v1, rfl, hw1, hs1⟩
    have HG1 := Lib.hid (HG.out.step hs1)
    have HW1 := Lib.hid hw1
    have HS1 := Lib.hid (HS0.out.trans hs1)
    have c1 : w1.cell? ⟨w.heap.size, 1, none⟩ = some (.int .i64 cmp) := HG1.out.b.cell 1
    clear hw1 hs1 HG HW0 HS0
    go_wp2_with fail
    refine (wnumber_any D v1 _ cmp w1 HW1.out HP2.out (by have := HL.out; simp only [List.length_append]; omega)).mono ?_
    rintro e w2 ⟨v2, rfl, hw2, hs2⟩
    have HG2 := Lib.hid (HG1.out.step hs2)
    have HW2 := Lib.hid hw2
    have HS2 := Lib.hid (HS1.out.trans hs2)
    have c2 : w2.cell? ⟨w.heap.size, 2, none⟩ = some (.int .i64 lk) := HG2.out.b.cell 2
    have c3 : w2.cell? ⟨w.heap.size, 3, none⟩ = some (.int .i64 li) := HG2.out.b.cell 3
    have c4 : w2.cell? ⟨w.heap.size, 4, none⟩ = some (.int .i64 la) := HG2.out.b.cell 4
    have c5 : w2.cell? ⟨w.heap.size, 5, none⟩ = some (.int .i64 lb) := HG2.out.b.cell 5
    have c6 : w2.cell? ⟨w.heap.size, 6, none⟩ = some (.string lc) := HG2.out.b.cell 6
    clear hw2 hs2 HG1 HW1 HS1 c1
    go_wp2_with fail
    refine (woperand_any D v2 _ ⟨lk, li, ⟨la, lb, lc⟩⟩ w2 HW2.out HP3.out HF1.out (by have := HL.out; simp only [List.length_append]; omega)).mono ?_
    rintro e w3 ⟨v3, rfl, hw3, hs3⟩
    have HG3 := Lib.hid (HG2.out.step hs3)
    have HW3 := Lib.hid hw3
    have HS3 := Lib.hid (HS2.out.trans hs3)
    clear hw3 hs3 HG2 HW2 HS2 c2 c3 c4 c5 c6
    have c7 : w3.cell? ⟨w.heap.size, 7, none⟩ = some (.int .i64 rk) := HG3.out.b.cell 7
    have c8 : w3.cell? ⟨w.heap.size, 8, none⟩ = some (.int .i64 ri) := HG3.out.b.cell 8
    have c9 : w3.cell? ⟨w.heap.size, 9, none⟩ = some (.int .i64 ra) := HG3.out.b.cell 9
    have c10 : w3.cell? ⟨w.heap.size, 10, none⟩ = some (.int .i64 rb) := HG3.out.b.cell 10
    have c11 : w3.cell? ⟨w.heap.size, 11, none⟩ = some (.string rc) := HG3.out.b.cell 11
    go_wp2_with fail
    refine (woperand_any D v3 _ ⟨rk, ri, ⟨ra, rb, rc⟩⟩ w3 HW3.out HP4.out HF2.out (by have := HL.out; simp only [List.length_append]; omega)).mono ?_
    rintro e w4 ⟨v4, rfl, hw4, hs4⟩
    have HG4 := Lib.hid (HG3.out.step hs4)
    have HW4 := Lib.hid hw4
    have HS4 := Lib.hid (HS3.out.trans hs4)
    have c12 : w4.cell? ⟨w.heap.size, 12, none⟩ = some (.slice A args.length cap) := HG4.out.b.cell 12
    clear hw4 hs4 HG3 HW3 HS3 c7 c8 c9 c10 c11
    go_wp2_with fail
    refine (wcount_any D v4 _ args.length w4 HW4.out (by omega) (by have := HL.out; simp only [List.length_append]; omega)).mono ?_
    rintro e w5 ⟨v5, rfl, hw5, hs5⟩
    have HG5 := Lib.hid (HG4.out.step hs5)
    have HS5 := Lib.hid (HS4.out.trans hs5)
    have e12 : w5.cell? ⟨w.heap.size, 12, none⟩ = some (.slice A args.length cap) := HG5.out.b.cell 12
    obtain ⟨L, hLe⟩ : ∃ L, L = l ++ inum op ++ inum cmp ++ encO ⟨lk, li, ⟨la, lb, lc⟩⟩ ++ encO ⟨rk, ri, ⟨ra, rb, rc⟩⟩ ++ leb args.length := ⟨_, rfl⟩
    rw [← hLe] at hw5
    have HW5 := Lib.hid hw5
    have HLL : Hid (L.length + (encPs args).length ≤ 800000000000) := Lib.hid (by rw [hLe]; have := HL.out; simp only [List.length_append]; omega)
    have HRES : Hid (l ++ encP (.mk op cmp ⟨lk, li, ⟨la, lb, lc⟩⟩ ⟨rk, ri, ⟨ra, rb, rc⟩⟩ args) = L ++ encPs args) := Lib.hid (by rw [HE.out, hLe]; simp only [List.append_assoc])
    clear hw5 hs5 HG4 HW4 HS4 c12 hLe HL i1 i2 i3 i4 i5 HE
    go_wp2_with fail
    go_loopw [30] (fun i wr => PredRel D v L args w i wr) (fun i _ => args.length - (intOf i).toNat)
    case atStart => exact ⟨0, v5, Nat.zero_le _, rfl, by simpa [encPs] using HW5.out, HS5.out⟩
    case round =>
      obtain ⟨k, v', hk, rfl, hwr, hsr⟩ := hrel
      have HWR := Lib.hid hwr
      have HSR := Lib.hid hsr
      clear hwr hsr
      by_cases hlt : k < args.length
      · obtain ⟨g, o, rfl, hgB, hc⟩ := HAT.out (by omega)
        have hold := HSR.out.old H.out hB
        obtain ⟨q, hq⟩ : ∃ q, args[k]? = some q := ⟨_, List.getElem?_eq_getElem hlt⟩
        obtain ⟨sq, hqi, hqc⟩ := hc.get hq
        have hqi' := PIn.old hold (Nat.le_refl _) _ _ hqi
        have hqc' := hqc.old hgB hold
        have hmem := List.mem_of_getElem? hq
        have HQ := Lib.hid hq
        have HTK := Lib.hid (encPs_take_succ args k q hq)
        have HTL : Hid ((L ++ encPs (args.take k)).length + (encP q).length ≤ 800000000000) := Lib.hid (by
          have h1 := encPs_take_le args (k + 1)
          rw [encPs_take_succ args k q hq, List.length_append] at h1
          have := HLL.out
          rw [List.length_append]
          omega)
        have HC := Lib.hid (HIH.out q hmem sq v' (L ++ encPs (args.take k)))
        have HQI := Lib.hid hqi'
        have hsl : ∃ A' n' cap', sq = .slice A' n' cap' := by
          cases q
          simp only [PIn] at hqi'
          obtain ⟨-, -, -, -, A', cap', h, -⟩ := hqi'
          exact ⟨_, _, _, h⟩
        obtain ⟨A', n', cap', rfl⟩ := hsl
        obtain ⟨qo, qc, ⟨qlk, qli, ⟨qla, qlb, qlc⟩⟩, ⟨qrk, qri, ⟨qra, qrb, qrc⟩⟩, qa⟩ := q
        simp only [Prd.cells] at hqc'
        have d0 := hqc' 0 _ rfl
        simp only [Nat.add_zero] at d0
        have d1 := hqc' 1 _ rfl
        have d2 := hqc' 2 _ rfl
        rw [show o + k * 13 + 2 = o + k * 13 + 1 + 1 from rfl] at d2
        have d3 := hqc' 3 _ rfl
        rw [show o + k * 13 + 3 = o + k * 13 + 1 + 1 + 1 from rfl] at d3
        have d4 := hqc' 4 _ rfl
        rw [show o + k * 13 + 4 = o + k * 13 + 1 + 1 + 1 + 1 from rfl] at d4
        have d5 := hqc' 5 _ rfl
        rw [show o + k * 13 + 5 = o + k * 13 + 1 + 1 + 1 + 1 + 1 from rfl] at d5
        have d6 := hqc' 6 _ rfl
        rw [show o + k * 13 + 6 = o + k * 13 + 1 + 1 + 1 + 1 + 1 + 1 from rfl] at d6
        have d7 := hqc' 7 _ rfl
        rw [show o + k * 13 + 7 = o + k * 13 + 1 + 1 + 1 + 1 + 1 + 1 + 1 from rfl] at d7
        have d8 := hqc' 8 _ rfl
        rw [show o + k * 13 + 8 = o + k * 13 + 1 + 1 + 1 + 1 + 1 + 1 + 1 + 1 from rfl] at d8
        have d9 := hqc' 9 _ rfl
        rw [show o + k * 13 + 9 = o + k * 13 + 1 + 1 + 1 + 1 + 1 + 1 + 1 + 1 + 1 from rfl] at d9
        have d10 := hqc' 10 _ rfl
        rw [show o + k * 13 + 10 = o + k * 13 + 1 + 1 + 1 + 1 + 1 + 1 + 1 + 1 + 1 + 1 from rfl] at d10
        have d11 := hqc' 11 _ rfl
        rw [show o + k * 13 + 11 = o + k * 13 + 1 + 1 + 1 + 1 + 1 + 1 + 1 + 1 + 1 + 1 + 1 from rfl] at d11
        have d12 := hqc' 12 _ rfl
        rw [show o + k * 13 + 12 = o + k * 13 + 1 + 1 + 1 + 1 + 1 + 1 + 1 + 1 + 1 + 1 + 1 + 1 from rfl] at d12
        have hk0 : (0 : Int) ≤ (k : Int) := by omega
        have hk9 : (k : Int) < (args.length : Int) := by omega
        clear hqc hqc' hqi hqi' hq hmem hold hc
        go_wp2_with fail
        have hkq : Kept Kno wr (wr.alloc (.cells #[.int .i64 qo, .int .i64 qc, .int .i64 qlk, .int .i64 qli, .int .i64 qla, .int .i64 qlb, .string qlc, .int .i64 qrk, .int .i64 qri, .int .i64 qra, .int .i64 qrb, .string qrc, .slice A' n' cap'] 54)) := (Kept.refl _ _).alloc _
        refine (HC.out _ (HWR.out.kept hkq) (PIn.old (hkq.old (Nat.le_trans hB (Nat.le_of_lt HWR.out.lt)) (fun _ _ h => h)) (Nat.le_refl _) _ _ HQI.out) HTL.out).mono ?_
        rintro e w6 ⟨v6, rfl, hw6, hs6⟩
        have HW6 := Lib.hid hw6
        have HS6 := Lib.hid ((HSR.out.then0 hkq).trans hs6)
        clear hw6 hs6 hkq d0 d1 d2 d3 d4 d5 d6 d7 d8 d9 d10 d11 d12
        go_wp2
        go_roundw
        case rel =>
          refine ⟨k + 1, v6, by omega, by go_num, ?_, HS6.out⟩
          rw [HTK.out, ← List.append_assoc]
          exact HW6.out
        case measure => simp [intOf]; omega
      · have hk9 : ¬ (k : Int) < (args.length : Int) := by omega
        have hx : WrOk D v (L ++ encPs args) w (.returned (.tuple #[])) wr := ⟨v', rfl, by have := HWR.out; rw [List.take_of_length_le (by omega)] at this; exact this, HSR.out⟩
        have HX := Lib.hid hx
        clear hx
        go_wp2
        go_end0
        rw [HRES.out]
        exact HX.out

theorem wpredicate_any (p : Prd) (d D B : Nat) (v s : Value) (l : List UInt8) (w : World) (h : Wr w D v l) (hp : PIn w B p s) (hB : B ≤ D) (hf : fitP d p = true) (hl : l.length + (encP p).length ≤ 800000000000) :
    Calls Tryz.prog 204 #[.pointer (some ⟨D, 0, none⟩), p.v s] w (WrOk D v (l ++ encP p) w) := wpredicate_n (sizeP p) p (Nat.le_refl _) d D B v s l w h hp hB hf hl

end Go.Proofs.YtffdaohmalmkfaaGreat
