/-
  Codec: the reader's row.
-/
import Derived.Test.YtdpbpmokmlnleaaCodecR
import Derived.Test.YtdpbpmokmlnleaaCase3
namespace Go.Proofs.Ytdpbpmokmlnleaa
open Go.RowKit
set_option linter.unusedVariables false

/-- What the bytes of N values say. -/
def valsAt : Nat → List UInt8 → Nat → Except Int (List Val × Nat)
  | 0, _, _ => .ok ([], 0)
  | N + 1, l, n => match valAt l n with
    | .error c => .error c
    | .ok (x, k) => match valsAt N l (n + k) with
      | .error c => .error c
      | .ok (xs, m) => .ok (x :: xs, k + m)
/-- What a row's bytes say. -/
def rowAt (l : List UInt8) (n : Nat) : Except Int (List Val × Nat) := match uintAt l n with
  | .error c => .error c
  | .ok (N, k) => if 12 < N then .error 2 else match valsAt N l (n + k) with
    | .error c => .error c
    | .ok (xs, m) => .ok (xs, k + m)
/-- xs have been read before; what the rest says. -/
def joinAt (xs : List Val) (q : Nat) : Except Int (List Val × Nat) → Except Int (List Val × Nat)
  | .error c => .error c
  | .ok (ys, m) => .ok (xs ++ ys, q + m)
theorem joinAt_step (xs : List Val) (q N : Nat) (l : List UInt8) (p : Nat) : joinAt xs q (valsAt (N + 1) l p) = match valAt l p with
    | .error c => .error c
    | .ok (x, k) => joinAt (xs ++ [x]) (q + k) (valsAt N l (p + k)) := by
  simp only [valsAt]
  cases valAt l p with
  | error c => rfl
  | ok y =>
    simp only
    cases valsAt N l (p + y.2) with
    | error c => rfl
    | ok z => simp [joinAt, Nat.add_assoc]

theorem valAt_len {l : List UInt8} {n k : Nat} {x : Val} (h : valAt l n = .ok (x, k)) : 0 < k ∧ n + k ≤ l.length := by
  unfold valAt at h
  cases hc : l[n]? with
  | none => rw [hc] at h; cases h
  | some c =>
    rw [hc] at h
    have hl : n < l.length := (List.getElem?_eq_some_iff.1 hc).1
    simp only at h
    split at h
    · cases h; omega
    · split at h
      · cases h; omega
      · split at h
        · cases hb : l[n + 1]? with
          | none => rw [hb] at h; cases h
          | some b =>
            rw [hb] at h
            have hl2 : n + 1 < l.length := (List.getElem?_eq_some_iff.1 hb).1
            simp only at h
            split at h
            · cases h
            · cases h; omega
        · split at h
          · cases hx : uintAt l (n + 1) with
            | error e => rw [hx] at h; cases h
            | ok p =>
              rw [hx] at h
              obtain ⟨N, m⟩ := p
              have := uintAt_ok hx
              cases h
              omega
          · split at h
            · cases hx : textAt l (n + 1) 64 with
              | error e => rw [hx] at h; cases h
              | ok p =>
                rw [hx] at h
                obtain ⟨b, m⟩ := p
                cases h
                unfold textAt at hx
                cases hy : uintAt l (n + 1) with
                | error e => rw [hy] at hx; cases hx
                | ok p =>
                  rw [hy] at hx
                  obtain ⟨N, j⟩ := p
                  have := uintAt_ok hy
                  simp only at hx
                  split at hx
                  · cases hx
                  · split at hx
                    · cases hx
                    · cases hx; omega
            · cases h

def RowOkD (D : Nat) (v : Value) (n : Nat) (x : Except Int (List Val × Nat)) (w : World) (e : Ending) (w' : World) : Prop :=
  Kept (Kone D) w w' ∧ match x with
    | .ok (xs, k) => ∃ A cap, e = .returned (.slice A xs.length cap) ∧ OwnR w' w.heap.size (.slice A xs.length cap) xs ∧ Rdr w' D v (n + k)
    | .error c => e = Pan c
def RowRelD (D : Nat) (v : Value) (l : List UInt8) (n N : Nat) (w : World) (out i : Value) (wr : World) : Prop :=
  ∃ (j q : Nat) (A : Option Addr) (cap : Nat) (xs : List Val), j ≤ N ∧ i = .int .u64 j ∧ out = .slice A xs.length cap ∧ xs.length = j ∧ OwnR wr w.heap.size (.slice A xs.length cap) xs ∧ Rdr wr D v (n + q) ∧ n + q ≤ l.length ∧ joinAt xs q (valsAt (N - j) l (n + q)) = rowAt l n ∧ Kept (Kone D) w wr

set_option maxRecDepth 100000 in
set_option maxHeartbeats 4000000 in
theorem row_dec (D n : Nat) (v : Value) (l : List UInt8) (w : World) (h : Rdr w D v n) (hb : Bs w v l) (hl : l.length ≤ 1000000) (hn : n ≤ l.length) :
    Calls Try.prog 64 #[.pointer (some ⟨D, 0, none⟩)] w (RowOkD D v n (rowAt l n) w) := by
  obtain ⟨i0, hi, hz0, hz1, hz2⟩ := info_parts info_val
  have hD := h.lt
  have H := Lib.hid h
  have HB := Lib.hid hb
  clear h hb
  cases hx : uintAt l n with
  | error c =>
    have hy : rowAt l n = .error c := by unfold rowAt; rw [hx]
    rw [hy]
    have HX := Lib.hid hx
    clear hx hy
    go_enter Try.func64, Try.ntmps64
    go_wp2_with fail
    refine (uint_any D n v l w H.out HB.out hl hn).mono ?_
    rw [HX.out]
    rintro e w1 ⟨hk1, rfl⟩
    exact ⟨rfl, hk1, rfl⟩
  | ok p =>
    obtain ⟨N, k⟩ := p
    have HX := Lib.hid hx
    obtain ⟨hN64, hk0, hk10, hkl⟩ := uintAt_ok hx
    by_cases h12 : 12 < N
    · have hy : rowAt l n = .error 2 := by unfold rowAt; rw [hx]; simp only; rw [if_pos h12]
      rw [hy]
      have h12' : (12 : Int) < (N : Int) := by omega
      clear hx hy
      go_enter Try.func64, Try.ntmps64
      go_wp2_with fail
      refine (uint_any D n v l w H.out HB.out hl hn).mono ?_
      rw [HX.out]
      rintro e w1 ⟨hk1, rfl, hr1⟩
      clear hr1
      go_wp2
      exact ⟨rfl, hk1, rfl⟩
    · have hy : joinAt [] k (valsAt N l (n + k)) = rowAt l n := by
        unfold rowAt; rw [hx]; simp only; rw [if_neg h12]
        cases valsAt N l (n + k) with
        | error c => rfl
        | ok z => simp [joinAt]
      have HY := Lib.hid hy
      have h12' : ¬ (12 : Int) < (N : Int) := by omega
      obtain ⟨R, hR⟩ : ∃ R, R = rowAt l n := ⟨_, rfl⟩
      have HRR := Lib.hid hR
      rw [← hR]
      clear hx hy hR hN64
      go_enter Try.func64, Try.ntmps64
      go_wp2_with fail
      refine (uint_any D n v l w H.out HB.out hl hn).mono ?_
      rw [HX.out]
      rintro e w1 ⟨hk1, rfl, hr1⟩
      have HR1 := Lib.hid hr1
      have hs1 := hk1.size
      clear hr1
      go_wp2_with (at_make; go_must (refine wpList_make_own _ rfl _ _ 34 rfl w.heap.size 41 i0 _ 3 Try.underlying34 hi hz0 hz1 _ _ _ N rfl rfl rfl (by rw [hz2]; omega) (by simp only [maxLen]; omega) hs1 ?_); intro w2 hown2 hg2)
      have hk2 : Kept (Kone D) w w2 := hk1.grown hg2 (fun k hk e => by cases e)
      have hr2 : Rdr w2 D v (n + k) := Blk.grown HR1.out hg2 (by simp)
      have HO2 : Hid (OwnR w2 w.heap.size (.slice (some ⟨w1.heap.size, 0, none⟩) 0 N) []) := Lib.hid hown2
      have HR2 := Lib.hid hr2
      clear hown2 hg2 hr2
      go_loopw [4, 13] (fun out i wr => RowRelD D v l n N w out i wr) (fun _ i _ => N - (intOf i).toNat)
      case atStart => exact ⟨0, k, _, _, [], by omega, rfl, rfl, rfl, HO2.out, HR2.out, by omega, by rw [← HY.out]; rfl, hk2⟩
      case round =>
        obtain ⟨j, q, A, cap, xs, hj, rfl, rfl, hxj, hown, hr, hq, heq, hkr⟩ := hrel
        have HO := Lib.hid hown
        have HR := Lib.hid hr
        have HE := Lib.hid heq
        have HXJ := Lib.hid hxj
        have HBR := Lib.hid (H.out.bs HB.out HB.out hkr)
        have hDne : (Value.slice A xs.length cap).ownBlock ≠ some D := own_blk_ne hown hr (by decide)
        have hxl : xs.length ≤ 12 := by omega
        clear hown hr heq hxj
        by_cases hlt : j < N
        · have hlt' : (j : Int) < (N : Int) := by omega
          have he := HE.out
          rw [show N - j = (N - (j + 1)) + 1 by omega, joinAt_step] at he
          go_wp2_with fail
          refine (value_dec D (n + q) v l wr HR.out HBR.out hl hq).mono ?_
          rintro e w3 ⟨hk3, hm3⟩
          cases hv : valAt l (n + q) with
          | error c =>
            rw [hv] at he hm3
            simp only at he hm3
            subst hm3
            refine ⟨rfl, ?_⟩
            rw [HRR.out, ← he]
            exact ⟨hkr.trans hk3 (fun _ _ e => e), rfl⟩
          | ok p =>
            obtain ⟨x, k3⟩ := p
            rw [hv] at he hm3
            simp only at he hm3
            obtain ⟨rfl, hr3⟩ := hm3
            obtain ⟨kind, nn, s⟩ := x
            have hvl := valAt_len hv
            have HE3 := Lib.hid he
            have HR3 := Lib.hid hr3
            have HO3 : Hid (OwnR w3 w.heap.size (.slice A xs.length cap) xs) := Lib.hid (own_kept HO.out hk3 (fun k hk' e => by unfold Kone at e; subst e; exact hDne hk'))
            have hkw : Kept (Kone D) w w3 := hkr.trans hk3 (fun _ _ e => e)
            have m1 : xs.length + 1 ≤ maxLen := by simp only [maxLen]; omega
            have hbase : w.heap.size ≤ w3.heap.size := hkw.size
            clear he hv hr3 hk3
            simp only [Val.v]
            go_wp2_with (at_builtin; go_must (refine wpList_append_rd _ rfl _ _ 34 rfl w.heap.size 41 i0 _ 3 32 Try.underlying34 hi hz0 hz1 hz2 rfl (by decide) (.slice A xs.length cap) xs.length (rowC xs) rfl (World.ownsRow.alloc HO3.out _) _ 1 [.int .i64 kind, .int .i64 nn, .string s] rfl (Rd.one _ _ _ rfl) (by simp [Value.oneCell']) m1 (by omega) (by simp; omega) ?_); intro A2 cap2 w4 hown2 hg2 hat2)
            go_roundw
            case rel =>
              refine ⟨j + 1, q + k3, A2, cap2, xs ++ [⟨kind, nn, s⟩], by omega, by go_num, by simp, by simp [HXJ.out], ?_, ?_, by omega, ?_, ?_⟩
              · unfold OwnR
                rw [List.length_append]
                simp only [rowC, List.flatMap_append, List.flatMap_cons, List.flatMap_nil, List.append_nil]
                exact hown2
              · have h9 := HR3.out
                rw [Nat.add_assoc] at h9
                exact (Blk.alloc h9 _).grown hg2 (fun e => own_blk_ne HO3.out HR3.out (by decide) e.symm)
              · rw [← HE3.out, Nat.add_assoc]
              · exact (hkw.alloc _).grown hg2 (fun k hk e => by have := (own_base HO3.out e).1; omega)
            case measure => simp only [intOf]; omega
        · have hlt' : ¬ (j : Int) < (N : Int) := by omega
          obtain rfl : j = N := by omega
          have he := HE.out
          rw [Nat.sub_self] at he
          have hx : RowOkD D v n R w (.returned (.slice A xs.length cap)) wr := by
            rw [HRR.out, ← he]
            simp only [valsAt, joinAt, List.append_nil, Nat.add_zero]
            exact ⟨hkr, A, cap, rfl, HO.out, HR.out⟩
          have HX := Lib.hid hx
          clear hx he
          go_wp2
          go_ret
          exact HX.out

end Go.Proofs.Ytdpbpmokmlnleaa
