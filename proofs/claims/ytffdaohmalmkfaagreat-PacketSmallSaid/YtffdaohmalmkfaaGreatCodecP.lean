/-
  Codec: Int and Text of the reader, for any bytes; the reference's Uint, Int, Text.
-/
import Derived.Test.YtffdaohmalmkfaaGreatCodecO
namespace Go.Proofs.YtffdaohmalmkfaaGreat
open Go.RowKit
set_option linter.unusedVariables false

/-- What Int returns. -/
def intRes (l : List UInt8) (n : Int) : Int × Nat × Int :=
  if n < 0 ∨ (l.length : Int) < n then (0, 0, 1) else match uintAt l n.toNat with
    | .ok (N, k) => (unzz N, n.toNat + k, 0)
    | .error c => (0, 0, c)
/-- What Text returns. -/
def textRes (l : List UInt8) (n most : Int) : List UInt8 × Nat × Int :=
  if n < 0 ∨ (l.length : Int) < n ∨ most < 0 then ([], 0, 1) else match textAt l n.toNat most.toNat with
    | .ok (b, k) => (b, n.toNat + k, 0)
    | .error c => ([], 0, c)

theorem intF_any (v : Value) (l : List UInt8) (n : Int) (w : World) (hb : Bs w v l) (hl : l.length ≤ 1000000) :
    Calls Tryz.prog 96 #[v, .int .i64 n] w fun e w' => e = .returned (.tuple #[.int .i64 (intRes l n).1, .int .i64 (intRes l n).2.1, .int .i64 (intRes l n).2.2]) ∧ Kept Kno w w' := by
  unfold intRes
  by_cases hn : n < 0 ∨ (l.length : Int) < n
  · rw [if_pos hn]
    exact intF_bad v l n w hb hn
  · rw [if_neg hn]
    obtain ⟨m, rfl⟩ : ∃ m : Nat, n = (m : Int) := ⟨n.toNat, by omega⟩
    rw [Int.toNat_natCast]
    cases hx : uintAt l m with
    | error c => exact intF_err v l m c w hb (by omega) (fun D w1 hr hb1 => (int_dec D m v l w1 hr hb1 hl (by omega)).mono (fun e w2 h => by rw [hx] at h; exact h))
    | ok p =>
      obtain ⟨N, k⟩ := p
      refine (intF_ok v l m (m + k) w (fun V _ => V = .int .i64 (unzz N)) hb (by omega) (fun D w1 _ _ hr hb1 => (int_dec D m v l w1 hr hb1 hl (by omega)).mono (fun e w2 h => ?_))).mono ?_
      · rw [hx] at h
        exact ⟨h.1, _, h.2.1, h.2.2, rfl⟩
      · rintro e w' ⟨V, w2, rfl, rfl, -, h4⟩
        exact ⟨rfl, h4⟩

theorem shl_small (N k : Nat) (c : UInt8) (hN : N < 2 ^ (7 * k)) (hk : k ≤ 9) (hc : c.toNat < 128) (hs : k ≤ 8 ∨ c.toNat ≤ 1) : bits BinOp.or IntKind.u64 (N : Int) (IntKind.u64.wrap ((c.toNat : Int) * 2 ^ (7 * k))) = ((N + c.toNat * 2 ^ (7 * k) : Nat) : Int) := by
  obtain ⟨M, h1, h2, h3⟩ := shl_val N k c hN hk
  have e : IntKind.u64.wrap (bits BinOp.and IntKind.u8 ((c.toNat : Nat) : Int) 127) = (c.toNat : Int) := by
    rw [and_low, IntKind.wrap_u64]
    omega
  rw [e] at h1
  rw [h1, h3 (by omega), Nat.mod_eq_of_lt hc]

theorem ret3_i {x y : Value} {a b : Int} (h : a = b) : Ending.returned (.tuple #[x, .int .i64 a, y]) = .returned (.tuple #[x, .int .i64 b, y]) := by rw [h]

def RefRel (n : Nat) (l : List UInt8) (nv i : Value) : Prop :=
  ∃ k N : Nat, k ≤ 10 ∧ i = .int .i64 k ∧ nv = .int .u64 N ∧ N < 2 ^ (7 * k) ∧ n + k ≤ l.length ∧ rdF (10 - k) k N (l.drop (n + k)) = uintAt l n

end Go.Proofs.YtffdaohmalmkfaaGreat
