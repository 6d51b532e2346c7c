/-
  Codec: the reference's Value and Row for any bytes; the comparison of equal rows.
-/
import Derived.Test.YtdpbpmokmlnleaaCodecU
namespace Go.Proofs.Ytdpbpmokmlnleaa
open Go.RowKit
set_option linter.unusedVariables false

theorem refValueF_any (v : Value) (l : List UInt8) (n : Int) (w : World) (hb : Bs w v l) (hl : l.length ≤ 1000000) :
    Calls Try.prog 41 #[v, .int .i64 n] w (ValF (valRes2 l n).1 (valRes2 l n).2.1 (valRes2 l n).2.2 w) := by
  unfold valRes2
  by_cases hn : n < 0 ∨ (l.length : Int) < n
  · rw [if_pos hn]
    exact refValueF_neg v l n w hb hl hn
  · rw [if_neg hn]
    obtain ⟨m, rfl⟩ : ∃ m : Nat, n = (m : Int) := ⟨n.toNat, by omega⟩
    rw [Int.toNat_natCast]
    unfold valAt
    cases hc : l[m]? with
    | none => exact refValueF_end v l m w hb hl (by have := List.getElem?_eq_none_iff.1 hc; omega)
    | some c =>
      have hml : m < l.length := (List.getElem?_eq_some_iff.1 hc).1
      have em : ((m : Int) + 1).toNat = m + 1 := by omega
      simp only
      by_cases c1 : c.toNat = 1
      · rw [if_pos c1]; exact refValueF_1 v l m w hb hl c hc c1
      · rw [if_neg c1]
        by_cases c2 : c.toNat = 2
        · rw [if_pos c2]; exact refValueF_2 v l m w hb hl c hc c2
        · rw [if_neg c2]
          by_cases c3 : c.toNat = 3
          · rw [if_pos c3]
            cases hb2 : l[m + 1]? with
            | none => exact refValueF_3e v l m w hb hl c hc c3 hb2
            | some b =>
              simp only
              by_cases hb3 : 1 < b.toNat
              · rw [if_pos hb3]; exact refValueF_3b v l m w hb hl c hc c3 b hb2 hb3
              · rw [if_neg hb3]; exact refValueF_3 v l m w hb hl c hc c3 b hb2 hb3
          · rw [if_neg c3]
            by_cases c4 : c.toNat = 4
            · rw [if_pos c4]
              rcases uintRes_cases l ((m : Int) + 1) with ⟨h0, h1, h2⟩ | ⟨e0, -, -, h0, he, h1, h2⟩ | ⟨N, k, -, -, h0, h1, h2⟩
              · omega
              · rw [em] at h0
                rw [h0]
                exact refValueF_4e v l m w hb hl c hc c4 e0 h2 (by omega)
              · rw [em] at h0 h2
                rw [h0]
                simp only
                rw [← Nat.add_assoc]
                exact refValueF_4 v l m w hb hl c hc c4 (unzz N) (m + 1 + k) h2
            · rw [if_neg c4]
              by_cases c5 : c.toNat = 5
              · rw [if_pos c5]
                have ht : textRes l ((m : Int) + 1) 64 = match textAt l (m + 1) 64 with | .ok (b, k) => (b, m + 1 + k, 0) | .error c => ([], 0, c) := by
                  unfold textRes
                  rw [if_neg (by omega), em]
                  rfl
                cases hx : textAt l (m + 1) 64 with
                | error e =>
                  rw [hx] at ht
                  refine refValueF_5e v l m w hb hl c hc c5 e ht ?_
                  unfold textAt at hx
                  cases hy : uintAt l (m + 1) with
                  | error e' => rw [hy] at hx; cases hx; have := uintAt_err hy; omega
                  | ok p =>
                    rw [hy] at hx
                    simp only at hx
                    split at hx
                    · cases hx; decide
                    · split at hx
                      · cases hx; decide
                      · cases hx
                | ok p =>
                  rw [hx] at ht
                  simp only at ht ⊢
                  rw [← Nat.add_assoc]
                  exact refValueF_5 v l m w hb hl c hc c5 p.1 (m + 1 + p.2) ht
              · rw [if_neg c5]
                exact refValueF_0 v l m w hb hl c hc ⟨c1, c2, c3, c4, c5⟩

def RefRowRel (l : List UInt8) (n N : Nat) (w : World) (next e out i : Value) (wr : World) : Prop :=
  ∃ (j q : Nat) (A : Option Addr) (cap : Nat) (xs : List Val), j ≤ N ∧ i = .int .i64 j ∧ next = .int .i64 (n + q : Nat) ∧ e = .int .i64 0 ∧ out = .slice A xs.length cap ∧ xs.length = j ∧ OwnR wr w.heap.size (.slice A xs.length cap) xs ∧ n + q ≤ l.length ∧ joinAt xs q (valsAt (N - j) l (n + q)) = rowAt l n ∧ Kept Kno w wr

theorem valAt_err {l : List UInt8} {n : Nat} {c : Int} (h : valAt l n = .error c) : c ≠ 0 := by
  unfold valAt at h
  cases hc : l[n]? with
  | none => rw [hc] at h; cases h; decide
  | some b =>
    rw [hc] at h
    simp only at h
    split at h
    · cases h
    · split at h
      · cases h
      · split at h
        · cases hb : l[n + 1]? with
          | none => rw [hb] at h; cases h; decide
          | some b =>
            rw [hb] at h
            simp only at h
            split at h
            · cases h; decide
            · cases h
        · split at h
          · cases hx : uintAt l (n + 1) with
            | error e => rw [hx] at h; cases h; have := uintAt_err hx; omega
            | ok p => rw [hx] at h; cases h
          · split at h
            · cases hx : textAt l (n + 1) 64 with
              | error e =>
                rw [hx] at h
                cases h
                unfold textAt at hx
                cases hy : uintAt l (n + 1) with
                | error e' => rw [hy] at hx; cases hx; have := uintAt_err hy; omega
                | ok p =>
                  rw [hy] at hx
                  simp only at hx
                  split at hx
                  · cases hx; decide
                  · split at hx
                    · cases hx; decide
                    · cases hx
              | ok p => rw [hx] at h; cases h
            · cases h; decide

theorem RowF.any {x : List Val} {nk : Nat} {c : Int} {w w' : World} {A : Option Addr} {cap : Nat} (h : OwnR w' w.heap.size (.slice A x.length cap) x) (hk : Kept Kno w w') : RowF x nk c w (.returned (.tuple #[.slice A x.length cap, .int .i64 (nk : Int), .int .i64 c])) w' := ⟨A, cap, rfl, h, hk⟩

set_option maxRecDepth 100000 in
set_option maxHeartbeats 4000000 in
theorem refRowF_any (v : Value) (l : List UInt8) (n : Int) (w : World) (hb : Bs w v l) (hl : l.length ≤ 1000000) :
    Calls Try.prog 42 #[v, .int .i64 n] w (RowF (rowRes2 l n).1 (rowRes2 l n).2.1 (rowRes2 l n).2.2 w) := by
  obtain ⟨i0, hi, hz0, hz1, hz2⟩ := info_parts info_val
  have HB := Lib.hid hb
  obtain ⟨A0, cap0, rfl, -⟩ := hb
  rcases uintRes_cases l n with ⟨h0, h1, -⟩ | ⟨c, h0, h00, hx, hc, h1, -⟩ | ⟨N, k, h0, h00, hx, h1, -⟩
  · have hr : rowRes2 l n = ([], 0, 1) := by unfold rowRes2; rw [if_pos h0]
    rw [hr]
    have H1 := Lib.hid h1
    clear h1 h0 hr
    go_enter Try.func42, Try.ntmps42
    go_wp2_with fail
    refine (refUintF_any _ l n w HB.out hl).mono ?_
    rw [H1.out]
    rintro e w' ⟨rfl, rfl⟩
    go_wp2
    go_ret3
    exact RowF.any (x := []) (World.ownsRow_nil _ _ _ _) (Kept.refl _ _)
  · have hr : rowRes2 l n = ([], 0, c) := by unfold rowRes2 rowAt; rw [if_neg (by omega), hx]
    rw [hr]
    have H1 := Lib.hid h1
    have hc1 : (c != 0) = true := by simp; omega
    clear h1 h0 hr hx hc
    go_enter Try.func42, Try.ntmps42
    go_wp2_with fail
    refine (refUintF_any _ l n w HB.out hl).mono ?_
    rw [H1.out]
    rintro e w' ⟨rfl, rfl⟩
    go_wp2
    go_ret3
    exact RowF.any (x := []) (World.ownsRow_nil _ _ _ _) (Kept.refl _ _)
  · obtain ⟨m, rfl⟩ : ∃ m : Nat, n = (m : Int) := ⟨n.toNat, by omega⟩
    rw [Int.toNat_natCast] at hx h1
    obtain ⟨hN64, hk0, hk10, hkl⟩ := uintAt_ok hx
    obtain ⟨R, hR⟩ : ∃ R, R = rowRes2 l (m : Int) := ⟨_, rfl⟩
    have hR2 : R = match rowAt l m with | .ok (x, k) => (x, m + k, 0) | .error c => ([], 0, c) := by
      rw [hR]; unfold rowRes2; rw [if_neg (by omega), Int.toNat_natCast]
      cases rowAt l m <;> rfl
    rw [← hR]
    have H1 := Lib.hid h1
    by_cases h12 : 12 < N
    · have hr : R = ([], 0, 2) := by rw [hR2]; unfold rowAt; rw [hx]; simp only; rw [if_pos h12]
      rw [hr]
      have h12' : (12 : Int) < (N : Int) := by omega
      clear h1 hr hx hR hR2
      go_enter Try.func42, Try.ntmps42
      go_wp2_with fail
      refine (refUintF_any _ l m w HB.out hl).mono ?_
      rw [H1.out]
      rintro e w' ⟨rfl, rfl⟩
      go_wp2
      go_ret3
      exact RowF.any (x := []) (World.ownsRow_nil _ _ _ _) (Kept.refl _ _)
    · have h12' : ¬ (12 : Int) < (N : Int) := by omega
      have hy : joinAt [] k (valsAt N l (m + k)) = rowAt l m := by
        unfold rowAt; rw [hx]; simp only; rw [if_neg h12]
        cases valsAt N l (m + k) with
        | error c => rfl
        | ok z => simp [joinAt]
      have HY := Lib.hid hy
      have HRR := Lib.hid hR2
      clear h1 hx hR hR2 hy hN64
      have hwN : IntKind.i64.wrap (N : Int) = (N : Int) := by rw [IntKind.wrap_i64]; omega
      go_enter Try.func42, Try.ntmps42
      go_wp2_with fail
      refine (refUintF_any _ l m w HB.out hl).mono ?_
      rw [H1.out]
      rintro e w' ⟨rfl, rfl⟩
      go_wp2_with fail
      go_loopw [8, 9, 10, 11] (fun nx e out i wr => RefRowRel l m N w nx e out i wr) (fun _ _ _ i _ => N - (intOf i).toNat)
      case atStart => exact ⟨0, k, none, 0, [], by omega, rfl, rfl, rfl, rfl, rfl, World.ownsRow_nil _ _ _ _, by omega, by rw [← HY.out]; rfl, Kept.refl _ _⟩
      case round =>
        obtain ⟨j, q, A, cap, xs, hj, rfl, rfl, rfl, rfl, hxj, hown, hq, heq, hkr⟩ := hrel
        have HO := Lib.hid hown
        have HE := Lib.hid heq
        have HXJ := Lib.hid hxj
        have HBR := Lib.hid (Rd.kept0 HB.out hkr)
        have hxl : xs.length ≤ 12 := by omega
        clear hown heq hxj
        by_cases hlt : j < N
        · have hlt' : (j : Int) < (N : Int) := by omega
          have he := HE.out
          rw [show N - j = (N - (j + 1)) + 1 by omega, joinAt_step] at he
          have HE1 := Lib.hid he
          clear he HE
          generalize hp : m + q = p at hq HE1 ⊢
          have HP := Lib.hid hp
          clear hp
          have HQ := Lib.hid (Blk.new wr 41 #[.int .i64 0, .int .i64 0, .string ⟨#[]⟩])
          have hkA : Kept Kno wr (wr.alloc (.cells #[.int .i64 0, .int .i64 0, .string ⟨#[]⟩] 41)) := (Kept.refl _ _).alloc _
          go_wp2_with fail
          generalize (wr.alloc (.cells #[.int .i64 0, .int .i64 0, .string ⟨#[]⟩] 41)) = wA at HQ hkA ⊢
          refine (refValueF_any _ l (p : Int) wA (Rd.kept0 HBR.out hkA) hl).mono ?_
          have hvr : valRes2 l (p : Int) = match valAt l p with | .ok (x, k) => (x, p + k, 0) | .error c => (val0, 0, c) := by
            unfold valRes2; rw [if_neg (by omega), Int.toNat_natCast]
            cases valAt l p <;> rfl
          rw [hvr]
          clear hvr
          cases hv : valAt l p with
          | error c =>
            have hc0 := valAt_err hv
            have hc1 : (c != 0) = true := by simpa using hc0
            have he := HE1.out
            rw [hv] at he
            simp only at he
            have hr : R = ([], 0, c) := by rw [HRR.out, ← he]
            rintro e w1 ⟨rfl, hk1⟩
            have hq1 := HQ.out.kept hk1 (fun e => e)
            have c0 : w1.cell? ⟨wr.heap.size, 0, none⟩ = some (.int .i64 0) := hq1.cell 0
            have c1 : w1.cell? ⟨wr.heap.size, 1, none⟩ = some (.int .i64 0) := hq1.cell 1
            have c2 : w1.cell? ⟨wr.heap.size, 2, none⟩ = some (.string ⟨#[]⟩) := hq1.cell 2
            have f0 := hq1.frozen 0
            have f1 := hq1.frozen 1
            have f2 := hq1.frozen 2
            have h3 := three_set (b0 := .int .i64 0) (b1 := .int .i64 0) (b2 := .string ⟨#[]⟩) hq1
            have hkz : Kept Kno w (((w1.setCell ⟨wr.heap.size, 0, none⟩ (.int .i64 0)).setCell ⟨wr.heap.size, 1, none⟩ (.int .i64 0)).setCell ⟨wr.heap.size, 2, none⟩ (.string ⟨#[]⟩)) := ((hkr.then0 hkA).then0 hk1).trans h3.2 (fun k hk e => by have := hkr.size; unfold Kone at e; omega)
            have HKZ := Lib.hid hkz
            have HR0 := Lib.hid hr
            simp only [val0, Val.v]
            clear h3 hkz hq1 hr he hv hc0
            go_wp2
            go_ret3
            rw [HR0.out]
            exact RowF.any (x := []) (World.ownsRow_nil _ _ _ _) HKZ.out
          | ok y =>
            obtain ⟨x, k3⟩ := y
            obtain ⟨kind, nn, s⟩ := x
            have he := HE1.out
            rw [hv] at he
            simp only at he
            have HE3 := Lib.hid he
            have hvl := valAt_len hv
            rintro e w1 ⟨rfl, hk1⟩
            have hq1 := HQ.out.kept hk1 (fun e => e)
            have c0 : w1.cell? ⟨wr.heap.size, 0, none⟩ = some (.int .i64 0) := hq1.cell 0
            have c1 : w1.cell? ⟨wr.heap.size, 1, none⟩ = some (.int .i64 0) := hq1.cell 1
            have c2 : w1.cell? ⟨wr.heap.size, 2, none⟩ = some (.string ⟨#[]⟩) := hq1.cell 2
            have f0 := hq1.frozen 0
            have f1 := hq1.frozen 1
            have f2 := hq1.frozen 2
            have h3 := three_set (b0 := .int .i64 kind) (b1 := .int .i64 nn) (b2 := .string s) hq1
            have hrs := hkr.size
            have hkz : Kept Kno w (((w1.setCell ⟨wr.heap.size, 0, none⟩ (.int .i64 kind)).setCell ⟨wr.heap.size, 1, none⟩ (.int .i64 nn)).setCell ⟨wr.heap.size, 2, none⟩ (.string s)) := ((hkr.then0 hkA).then0 hk1).trans h3.2 (fun k hk e => by unfold Kone at e; omega)
            have hoz : OwnR (((w1.setCell ⟨wr.heap.size, 0, none⟩ (.int .i64 kind)).setCell ⟨wr.heap.size, 1, none⟩ (.int .i64 nn)).setCell ⟨wr.heap.size, 2, none⟩ (.string s)) w.heap.size (.slice A xs.length cap) xs := own_kept (own_kept HO.out (hkA.then0 hk1) (fun _ _ e => e)) h3.2 (fun k hk' e => by have := (own_base HO.out hk').2; unfold Kone at e; omega)
            have HKZ := Lib.hid hkz
            have HOZ := Lib.hid hoz
            have HBZ := Lib.hid h3.1
            simp only [Val.v]
            clear h3 hkz hq1 he hv hoz
            go_upto_region 12 with (fail)
            generalize (((w1.setCell ⟨wr.heap.size, 0, none⟩ (.int .i64 kind)).setCell ⟨wr.heap.size, 1, none⟩ (.int .i64 nn)).setCell ⟨wr.heap.size, 2, none⟩ (.string s)) = wz at HKZ HOZ HBZ ⊢
            have e0 : wz.cell? ⟨wr.heap.size, 0, none⟩ = some (.int .i64 kind) := HBZ.out.cell 0
            have e1 : wz.cell? ⟨wr.heap.size, 1, none⟩ = some (.int .i64 nn) := HBZ.out.cell 1
            have e2 : wz.cell? ⟨wr.heap.size, 2, none⟩ = some (.string s) := HBZ.out.cell 2
            have m1 : xs.length + 1 ≤ maxLen := by simp only [maxLen]; omega
            have hbase : w.heap.size ≤ wz.heap.size := HKZ.out.size
            clear c0 c1 c2 f0 f1 f2
            go_wp2_with (at_builtin; go_must (refine wpList_append_rd _ rfl _ _ 34 rfl w.heap.size 41 i0 _ 3 32 Try.underlying34 hi hz0 hz1 hz2 rfl (by decide) (.slice A xs.length cap) xs.length (rowC xs) rfl (World.ownsRow.alloc HOZ.out _) _ 1 [.int .i64 kind, .int .i64 nn, .string s] rfl (Rd.one _ _ _ rfl) (by simp [Value.oneCell']) m1 (by omega) (by simp; omega) ?_); intro A2 cap2 w4 hown2 hg2 hat2)
            go_roundw
            case rel =>
              have hpo := HP.out
              refine ⟨j + 1, q + k3, A2, cap2, xs ++ [⟨kind, nn, s⟩], by omega, by go_num, ?_, rfl, by simp, by simp [HXJ.out], ?_, by omega, ?_, ?_⟩
              · simp only [Value.int.injEq, true_and]; omega
              · unfold OwnR
                rw [List.length_append]
                simp only [rowC, List.flatMap_append, List.flatMap_cons, List.flatMap_nil, List.append_nil]
                exact hown2
              · rw [← HE3.out, ← Nat.add_assoc, hpo]
              · exact (HKZ.out.alloc _).grown hg2 (fun k hk e => by have := (own_base HOZ.out e).1; omega)
            case measure => simp only [intOf]; omega
        · have hlt' : ¬ (j : Int) < (N : Int) := by omega
          obtain rfl : j = N := by omega
          have he := HE.out
          rw [Nat.sub_self] at he
          have hr : R = (xs, m + q, 0) := by
            rw [HRR.out, ← he]
            simp [valsAt, joinAt]
          have HR0 := Lib.hid hr
          clear he hr
          go_wp2
          go_ret3
          rw [HR0.out]
          exact RowF.any HO.out hkr

theorem bytesLess_irrefl : ∀ l : List UInt8, Op.bytesLess l l = false
  | [] => rfl
  | c :: r => by simp [Op.bytesLess, bytesLess_irrefl r]

set_option maxHeartbeats 1000000 in
theorem compare_same (kind n : Int) (s : ByteArray) (w : World) :
    Calls Try.prog 67 #[.agg #[.int .i64 kind, .int .i64 n, .string s], .agg #[.int .i64 kind, .int .i64 n, .string s]] w (RetNew (.int .i64 0) w) := by
  have hs := bytesLess_irrefl s.toList
  have h1 : ¬ kind < kind := by omega
  have h2 : ¬ n < n := by omega
  go_enter Try.func67, Try.ntmps67
  go_wp2
  go_ret
  exact ⟨rfl, ((Kept.refl _ _).alloc _).alloc _⟩

def CmpRel (xs : List Val) (w : World) (i : Value) (wr : World) : Prop := ∃ j : Nat, j ≤ xs.length ∧ i = .int .i64 j ∧ Kept Kno w wr

set_option maxRecDepth 100000 in
set_option maxHeartbeats 2000000 in
theorem compareRows_same (u v : Value) (xs : List Val) (w : World) (hu : RowIn w u xs) (hv : RowIn w v xs) :
    Calls Try.prog 43 #[u, v] w (RetNew (.int .i64 0) w) := by
  have HU := Lib.hid hu
  have HV := Lib.hid hv
  obtain ⟨A, cap, rfl, hlc, hlm, -, -⟩ := hu
  obtain ⟨B, cap2, rfl, hlc2, -, -, -⟩ := hv
  have hll : xs.length ≤ 9223372036854775807 := by simp only [maxLen] at hlm; omega
  go_enter Try.func43, Try.ntmps43
  go_wp2_with fail
  go_loopw [5] (fun i wr => CmpRel xs w i wr) (fun i _ => xs.length - (intOf i).toNat)
  case atStart => exact ⟨0, by omega, rfl, Kept.refl _ _⟩
  case round =>
    obtain ⟨j, hj, rfl, hk⟩ := hrel
    by_cases hlt : j < xs.length
    · have hlt' : (j : Int) < (xs.length : Int) := by omega
      have hj0 : (0 : Int) ≤ (j : Int) := by omega
      obtain ⟨x, hx⟩ : ∃ x, xs[j]? = some x := ⟨_, List.getElem?_eq_getElem hlt⟩
      obtain ⟨A', capA, hv1, -, -, hcA, -⟩ := HU.out.kept0 hk
      injection hv1 with e1 e2 e3
      subst e1 e3
      obtain ⟨B', capB, hv2, -, -, hcB, -⟩ := HV.out.kept0 hk
      injection hv2 with e1 e2 e3
      subst e1 e3
      obtain ⟨g, o, rfl, hA⟩ := hcA (by omega)
      obtain ⟨g2, o2, rfl, hB⟩ := hcB (by omega)
      obtain ⟨a0, a1, a2⟩ := hA j x hx
      obtain ⟨b0, b1, b2⟩ := hB j x hx
      obtain ⟨kind, n, s⟩ := x
      simp only at a0 a1 a2 b0 b1 b2
      clear hA hB hcA hcB e2 hx
      go_upto_region 4 with (fail)
      go_region_held3 (fun w' => w'.cell? ⟨g, o + j * 3, none⟩ = some (.int .i64 kind) ∧ w'.cell? ⟨g, o + j * 3 + 1, none⟩ = some (.int .i64 n) ∧ w'.cell? ⟨g, o + j * 3 + 1 + 1, none⟩ = some (.string s) ∧ w'.cell? ⟨g2, o2 + j * 3, none⟩ = some (.int .i64 kind) ∧ w'.cell? ⟨g2, o2 + j * 3 + 1, none⟩ = some (.int .i64 n) ∧ w'.cell? ⟨g2, o2 + j * 3 + 1 + 1, none⟩ = some (.string s)) (first | (exact ⟨r0, r1, r2, r3, r4, r5⟩) | (exact ⟨a0, a1, a2, b0, b1, b2⟩) | go_keep)
        (first | (go_at_call 67; refine (compare_same _ _ _ _).mono ?_; rintro e w9 ⟨rfl, hkk9⟩; have hk9 : Kept Kno w w9 := (hk.drew).then0 hkk9; have r0 := hkk9.cell_some (p := ⟨g, o + j * 3, none⟩) a0 (fun h => h); have r1 := hkk9.cell_some (p := ⟨g, o + j * 3 + 1, none⟩) a1 (fun h => h); have r2 := hkk9.cell_some (p := ⟨g, o + j * 3 + 1 + 1, none⟩) a2 (fun h => h); have r3 := hkk9.cell_some (p := ⟨g2, o2 + j * 3, none⟩) b0 (fun h => h); have r4 := hkk9.cell_some (p := ⟨g2, o2 + j * 3 + 1, none⟩) b1 (fun h => h); have r5 := hkk9.cell_some (p := ⟨g2, o2 + j * 3 + 1 + 1, none⟩) b2 (fun h => h); clear hkk9))
      clear r0 r1 r2 r3 r4 r5 a0 a1 a2 b0 b1 b2
      go_wp2
      go_roundw
      case rel => exact ⟨j + 1, by omega, by go_num, hk9⟩
      case measure => simp only [intOf]; omega
    · have hlt' : ¬ (j : Int) < (xs.length : Int) := by omega
      have h2 : ¬ (xs.length : Int) < (xs.length : Int) := by omega
      go_wp2
      go_ret
      exact ⟨rfl, hk⟩

end Go.Proofs.Ytdpbpmokmlnleaa
