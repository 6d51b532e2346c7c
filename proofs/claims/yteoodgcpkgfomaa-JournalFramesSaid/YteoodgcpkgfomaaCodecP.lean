/-
  Codec: Int and Text of the reader, for any bytes; the reference's Uint, Int, Text.
-/
import Derived.Test.YteoodgcpkgfomaaCodecO
namespace Go.Proofs.Yteoodgcpkgfomaa
open Go.RowKit
set_option linter.unusedVariables false

/-- What Int returns. -/
def intRes (l : List UInt8) (n : Int) : Int × Nat × Int :=
  if n < 0 ∨ (l.length : Int) < n then (0, 0, 1) else match uintAt l n.toNat with
    | .ok (N, k) => (unzz N, n.toNat + k, 0)
    | .error c => (0, 0, c)
/-- What Text returns. -/
def textRes (l : List UInt8) (n most : Int) : List UInt8 × Nat × Int :=
  if n < 0 ∨ (l.length : Int) < n ∨ most < 0 then ([], 0, 1) else match textAt l n.toNat most.toNat with
    | .ok (b, k) => (b, n.toNat + k, 0)
    | .error c => ([], 0, c)

theorem textF_any (v : Value) (l : List UInt8) (n most : Int) (w : World) (hb : Bs w v l) (hl : l.length ≤ 1000000) (hm : most ≤ 9223372036854775807) :
    Calls Try.prog 86 #[v, .int .i64 n, .int .i64 most] w fun e w' => e = .returned (.tuple #[strOf (textRes l n most).1, .int .i64 (textRes l n most).2.1, .int .i64 (textRes l n most).2.2]) ∧ Kept Kno w w' := by
  unfold textRes
  by_cases hn : n < 0 ∨ (l.length : Int) < n
  · rw [if_pos (by rcases hn with h | h <;> simp [h])]
    exact textF_bad v l n most w hb hn
  · obtain ⟨m, rfl⟩ : ∃ m : Nat, n = (m : Int) := ⟨n.toNat, by omega⟩
    by_cases hm0 : most < 0
    · rw [if_pos (by simp [hm0])]
      exact textF_neg v l m most w hb (by omega) hm0
    · rw [if_neg (by omega)]
      obtain ⟨q, rfl⟩ : ∃ q : Nat, most = (q : Int) := ⟨most.toNat, by omega⟩
      rw [Int.toNat_natCast, Int.toNat_natCast]
      cases hx : textAt l m q with
      | error c => exact textF_err v l m q c w hb (by omega) (fun D w1 hr hb1 => (text_dec D m q v l w1 hr hb1 hl (by omega) (by omega)).mono (fun e w2 h => by rw [hx] at h; exact h))
      | ok p =>
        obtain ⟨b, k⟩ := p
        refine (textF_ok v l m (m + k) q w (fun V _ => V = strOf b) hb (by omega) (fun D w1 _ _ hr hb1 => (text_dec D m q v l w1 hr hb1 hl (by omega) (by omega)).mono (fun e w2 h => ?_))).mono ?_
        · rw [hx] at h
          exact ⟨h.1, _, h.2.1, h.2.2, rfl⟩
        · rintro e w' ⟨V, w2, rfl, rfl, -, h4⟩
          exact ⟨rfl, h4⟩

theorem shl_small (N k : Nat) (c : UInt8) (hN : N < 2 ^ (7 * k)) (hk : k ≤ 9) (hc : c.toNat < 128) (hs : k ≤ 8 ∨ c.toNat ≤ 1) : bits BinOp.or IntKind.u64 (N : Int) (IntKind.u64.wrap ((c.toNat : Int) * 2 ^ (7 * k))) = ((N + c.toNat * 2 ^ (7 * k) : Nat) : Int) := by
  obtain ⟨M, h1, h2, h3⟩ := shl_val N k c hN hk
  have e : IntKind.u64.wrap (bits BinOp.and IntKind.u8 ((c.toNat : Nat) : Int) 127) = (c.toNat : Int) := by
    rw [and_low, IntKind.wrap_u64]
    omega
  rw [e] at h1
  rw [h1, h3 (by omega), Nat.mod_eq_of_lt hc]

theorem ret3_i {x y : Value} {a b : Int} (h : a = b) : Ending.returned (.tuple #[x, .int .i64 a, y]) = .returned (.tuple #[x, .int .i64 b, y]) := by rw [h]

def RefRel (n : Nat) (l : List UInt8) (nv i : Value) : Prop :=
  ∃ k N : Nat, k ≤ 10 ∧ i = .int .i64 k ∧ nv = .int .u64 N ∧ N < 2 ^ (7 * k) ∧ n + k ≤ l.length ∧ rdF (10 - k) k N (l.drop (n + k)) = uintAt l n

set_option maxRecDepth 100000 in
set_option maxHeartbeats 4000000 in
theorem refUintF_good (v : Value) (l : List UInt8) (n : Nat) (w : World) (hb : Bs w v l) (hl : l.length ≤ 1000000) (hn : n ≤ l.length) :
    Calls Try.prog 88 #[v, .int .i64 n] w fun e w' => e = .returned (match uintAt l n with | .ok (N, k) => .tuple #[.int .u64 N, .int .i64 (n + k : Nat), .int .i64 0] | .error c => .tuple #[.int .u64 0, .int .i64 0, .int .i64 c]) ∧ w = w' := by
  obtain ⟨R, hR⟩ : ∃ R : Value, R = (match uintAt l n with | .ok (N, k) => .tuple #[.int .u64 N, .int .i64 (n + k : Nat), .int .i64 0] | .error c => .tuple #[.int .u64 0, .int .i64 0, .int .i64 c]) := ⟨_, rfl⟩
  rw [← hR]
  have HR := Lib.hid hR
  have HB := Lib.hid hb
  obtain ⟨A, cap, rfl, hlc, h2, h3, h4⟩ := hb
  have H4 := Lib.hid h4
  have H3 := Lib.hid h3
  clear h2 h3 h4 hR
  have q0 : ¬ (n : Int) < 0 := by omega
  have q1 : ¬ (l.length : Int) < (n : Int) := by omega
  go_enter Try.func88, Try.ntmps88
  go_wp2_with fail
  go_loop [7, 8] (fun nv i => RefRel n l nv i) (fun _ i => 10 - (intOf i).toNat)
  case atStart => exact ⟨0, 0, by omega, rfl, rfl, by decide, hn, rfl⟩
  case round =>
    obtain ⟨k, N, hk, rfl, rfl, hN, hnk, heq⟩ := hrel
    have HE := Lib.hid heq
    have HN := Lib.hid hN
    clear heq hN
    by_cases hlt : k < 10
    · have hk0 : (0 : Int) ≤ (k : Int) := by omega
      have hk9 : (k : Int) < 10 := by omega
      by_cases hend : n + k = l.length
      · have hx : uintAt l n = .error 20 := by
          rw [← HE.out, hend, List.drop_length, show 10 - k = (9 - k) + 1 by omega]
          rfl
        have hr : R = .tuple #[.int .u64 0, .int .i64 0, .int .i64 20] := by rw [HR.out, hx]
        subst hr
        have hge : (l.length : Int) ≤ (n : Int) + (k : Int) := by omega
        clear hx hend HR
        go_wp2
        go_ret3
        exact ⟨rfl, rfl⟩
      · have hcl : n + k < l.length := by omega
        obtain ⟨c, hc⟩ : ∃ c, l[n + k]? = some c := ⟨_, List.getElem?_eq_getElem hcl⟩
        have hdr : l.drop (n + k) = c :: l.drop (n + k + 1) := by
          obtain ⟨h1, h2⟩ := List.getElem?_eq_some_iff.1 hc
          rw [List.drop_eq_getElem_cons h1, h2]
        have hfe := HE.out
        rw [hdr, show 10 - k = (9 - k) + 1 by omega] at hfe
        simp only [rdF] at hfe
        have HFE := Lib.hid hfe
        have c256 : c.toNat < 256 := c.toNat_lt
        have hA : ∃ g o, A = some ⟨g, o, none⟩ ∧ w.cell? ⟨g, o + (n + k), none⟩ = some (.int .u8 c.toNat) := by
          rcases A with _ | ad
          · have := (H3.out rfl).1; omega
          · have hcc := H4.out ad rfl (n + k) (bv c) (by rw [List.getElem?_map, hc]; rfl)
            obtain ⟨g, o, spot⟩ := ad
            have hs : spot = none := by
              have h0 := H4.out ⟨g, o, spot⟩ rfl 0 (bv (l[0]'(by omega))) (by rw [List.getElem?_map, List.getElem?_eq_getElem (by omega)]; rfl)
              have := World.cell?_spot h0
              simpa [Addr.add] using this
            subst hs
            rw [add_lit0] at hcc
            exact ⟨g, o, rfl, hcc⟩
        obtain ⟨g, o, rfl, hcc⟩ := hA
        obtain ⟨M, hM1, hM2, hM3⟩ := shl_val N k c HN.out (by omega)
        have HM3 := Lib.hid hM3
        have HM2 := Lib.hid hM2
        have hge : ¬ (l.length : Int) ≤ (n : Int) + (k : Int) := by omega
        clear hdr hfe hc hM3 hM2
        by_cases hge : 128 ≤ c.toNat
        · have hge2 : ¬ (c.toNat : Int) < 128 := by omega
          go_wp2_with fail
          have hfe := HFE.out
          rw [if_pos hge] at hfe
          refine ⟨⟨k + 1, M, by omega, by go_num, rfl, ?_, by omega, ?_⟩, by simp [intOf]; omega⟩
          · by_cases hk8 : k ≤ 8
            · have h1 := HM3.out (.inl hk8)
              have h2 := HN.out
              have h3 : c.toNat % 128 ≤ 127 := by omega
              have h4 : (c.toNat % 128) * 2 ^ (7 * k) ≤ 127 * 2 ^ (7 * k) := Nat.mul_le_mul_right _ h3
              have h5 : 2 ^ (7 * (k + 1)) = 128 * 2 ^ (7 * k) := by rw [show 7 * (k + 1) = 7 * k + 7 by omega, Nat.pow_add]; omega
              omega
            · have h5 : 2 ^ 70 ≤ 2 ^ (7 * (k + 1)) := Nat.pow_le_pow_right (by decide) (by omega)
              have := HM2.out
              omega
          · by_cases hk8 : k ≤ 8
            · rw [← hfe, HM3.out (.inl hk8), show c.toNat % 128 = c.toNat - 128 by omega, show 10 - (k + 1) = 9 - k by omega]
              rfl
            · obtain rfl : k = 9 := by omega
              rw [← hfe]
              have e1 : 10 - (9 + 1) = 0 := rfl
              rw [e1]
              simp only [rdF]
        · have hge2 : (c.toNat : Int) < 128 := by omega
          have hfe := HFE.out
          rw [if_neg hge] at hfe
          clear hM1
          by_cases hbad : (c.toNat = 0 ∧ 0 < k) ∨ (1 < c.toNat ∧ k = 9)
          · rw [if_pos hbad] at hfe
            have hr : R = .tuple #[.int .u64 0, .int .i64 0, .int .i64 21] := by rw [HR.out, ← hfe]
            subst hr
            clear hfe HR
            rcases hbad with ⟨hb1, hb2⟩ | ⟨hb1, hb2⟩
            · have hb3 : ((c.toNat : Int) == 0) = true := by simp [hb1]
              have hb4 : (0 : Int) < (k : Int) := by omega
              clear hb1
              go_wp2
              go_ret3
              exact ⟨rfl, rfl⟩
            · subst hb2
              have hb3 : ((c.toNat : Int) == 0) = false := by simp; omega
              have hb4 : (1 : Int) < (c.toNat : Int) := by omega
              go_wp2
              go_ret3
              exact ⟨rfl, rfl⟩
          · rw [if_neg hbad] at hfe
            have hm := shl_small N k c HN.out (by omega) (by omega) (by omega)
            have hr : R = .tuple #[.int .u64 (N + c.toNat * 2 ^ (7 * k) : Nat), .int .i64 (n + (k + 1) : Nat), .int .i64 0] := by rw [HR.out, ← hfe]
            generalize N + c.toNat * 2 ^ (7 * k) = M2 at hm hr
            subst hr
            clear hfe HR
            have s1 : (n : Int) + (k : Int) + 1 = ((n + (k + 1) : Nat) : Int) := by omega
            have S1 := Lib.hid s1
            clear s1
            by_cases hz : c.toNat = 0
            · have hk00 : k = 0 := by omega
              have hb2 : ¬ (0 : Int) < (k : Int) := by omega
              have hb6 : ((k : Int) == 9) = false := by simp; omega
              have hb3 : ((c.toNat : Int) == 0) = true := by simp [hz]
              have hm0 : bits BinOp.or IntKind.u64 (N : Int) (c.toNat : Int) = (M2 : Int) := by
                rw [← hm, IntKind.wrap_u64, hk00]
                congr 1
                omega
              clear hz hm hk00
              go_wp2
              go_ret3
              exact ⟨rfl, rfl⟩
            · have hb3 : ((c.toNat : Int) == 0) = false := by simpa using hz
              by_cases h1 : k = 9
              · have hb4 : ¬ (1 : Int) < (c.toNat : Int) := by omega
                have hb5 : ((k : Int) == 9) = true := by simp [h1]
                clear h1
                go_wp2
                go_ret3
                exact ⟨ret3_i S1.out, rfl⟩
              · have hb5 : ((k : Int) == 9) = false := by simp; omega
                go_wp2
                go_ret3
                exact ⟨ret3_i S1.out, rfl⟩
    · have hk9 : ¬ (k : Int) < 10 := by omega
      obtain rfl : k = 10 := by omega
      have hx : uintAt l n = .error 21 := by rw [← HE.out]; rfl
      have hr : R = .tuple #[.int .u64 0, .int .i64 0, .int .i64 21] := by rw [HR.out, hx]
      subst hr
      clear hx HR
      go_wp2
      go_ret3
      exact ⟨rfl, rfl⟩

set_option maxHeartbeats 1000000 in
theorem refUintF_any (v : Value) (l : List UInt8) (n : Int) (w : World) (hb : Bs w v l) (hl : l.length ≤ 1000000) :
    Calls Try.prog 88 #[v, .int .i64 n] w fun e w' => e = .returned (.tuple #[.int .u64 (uintRes l n).1, .int .i64 (uintRes l n).2.1, .int .i64 (uintRes l n).2.2]) ∧ w = w' := by
  unfold uintRes
  by_cases hn : n < 0 ∨ (l.length : Int) < n
  · rw [if_pos hn]
    obtain ⟨A, cap, rfl, -⟩ := hb
    by_cases h0 : n < 0
    · go_enter Try.func88, Try.ntmps88
      go_wp2
      go_ret3
      exact ⟨rfl, rfl⟩
    · have h1 : (l.length : Int) < n := by omega
      clear hn
      go_enter Try.func88, Try.ntmps88
      go_wp2
      go_ret3
      exact ⟨rfl, rfl⟩
  · rw [if_neg hn]
    obtain ⟨m, rfl⟩ : ∃ m : Nat, n = (m : Int) := ⟨n.toNat, by omega⟩
    rw [Int.toNat_natCast]
    refine (refUintF_good v l m w hb hl (by omega)).mono ?_
    rintro e w' ⟨rfl, rfl⟩
    cases uintAt l m with
    | error c => exact ⟨rfl, rfl⟩
    | ok p => exact ⟨rfl, rfl⟩

end Go.Proofs.Yteoodgcpkgfomaa
