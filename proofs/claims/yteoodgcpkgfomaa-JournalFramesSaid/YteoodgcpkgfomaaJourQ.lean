/-
  Journal: plain laws of a disk that does not fail; how an argument '[][]byte' reads.
-/
import Derived.Test.YteoodgcpkgfomaaJourP
import Derived.Test.YteoodgcpkgfomaaBytesIn
namespace Go.Proofs.Yteoodgcpkgfomaa
open Go.RowKit Go.ChangeShapes Go.WideShapes Go.ChangeAt Go.Deep
set_option linter.unusedVariables false

/-- A disk that is on and has no plan to fail. -/
structure Calm (a : Ab) : Prop where
  off : a.off = false
  plan : a.plan = 0
  len : a.fs.length = 8
theorem calm0 (room : Int) : Calm (ab0 room) := ⟨rfl, rfl, rfl⟩
def Ab.put (a : Ab) (f : Nat) (x : List UInt8 × Nat) : Ab := ⟨a.room, a.fs.set f x, false, 0⟩
section
variable {a : Ab} {f : Nat}
theorem Calm.put (h : Calm a) (x : List UInt8 × Nat) : Calm (a.put f x) := ⟨rfl, rfl, by simp [Ab.put, h.len]⟩
theorem Calm.file_put (h : Calm a) (hf : f < 8) (x : List UInt8 × Nat) : (a.put f x).file f = x := by
  have hl := h.len
  simp only [Ab.file, Ab.put, List.getD, List.getElem?_set_self (show f < a.fs.length by omega), Option.getD_some]
theorem file_put_ne {g : Nat} (x : List UInt8 × Nat) (hg : f ≠ g) : (a.put f x).file g = a.file g := by
  simp only [Ab.file, Ab.put, List.getD, List.getElem?_set_ne hg]
theorem Calm.check (h : Calm a) (hf : f < 8) : checkOf a.off (f : Int) = 0 := by
  rw [h.off]; simp only [checkOf, Bool.false_eq_true, if_false]; rw [if_neg (by omega)]
theorem Calm.read (h : Calm a) (hf : f < 8) : a.read f = ((a.file f).1, 0) := by
  unfold Ab.read
  rw [h.check hf, if_neg (by simp), Int.toNat_natCast]
theorem Calm.gate (h : Calm a) (t : Bool) (x : List UInt8 × Nat) : gateOf a t f x = (a.put f x, 0) := by
  unfold gateOf
  rw [if_pos h.plan, h.off]; rfl
theorem Calm.append (h : Calm a) (hf : f < 8) (l : List UInt8) (hr : (a.used : Int) + l.length ≤ a.room) : a.append f l = (a.put f ((a.file f).1 ++ l, (a.file f).2), 0) := by
  unfold Ab.append
  rw [h.check hf, if_neg (by simp), if_neg (by omega), Int.toNat_natCast, h.gate]
theorem Calm.replace (h : Calm a) (hf : f < 8) (l : List UInt8) (hr : (a.used : Int) + l.length ≤ a.room) : a.replace f l = (a.put f (l, l.length), 0) := by
  unfold Ab.replace
  rw [h.check hf, if_neg (by simp), if_neg (by rw [Int.toNat_natCast]; omega), Int.toNat_natCast, h.gate]
theorem Calm.trunc (h : Calm a) (hf : f < 8) (n : Nat) (hn : n ≤ (a.file f).1.length) : a.trunc f (n : Int) = (a.put f ((a.file f).1.take n, n), 0) := by
  unfold Ab.trunc
  rw [h.check hf, if_neg (by simp), if_neg (by rw [Int.toNat_natCast]; omega), Int.toNat_natCast, Int.toNat_natCast, h.gate]
theorem Calm.sync (h : Calm a) (hf : f < 8) : a.sync f = (a.put f ((a.file f).1, (a.file f).1.length), 0) := by
  unfold Ab.sync
  rw [h.check hf, if_neg (by simp), Int.toNat_natCast, h.gate]

/-- Open over a beginning of frames. -/
theorem jopen_calm (h : Calm a) (hf : f < 8) {L : List (List UInt8)} {k : Nat} (hc : Cut L (a.file f).1 k) :
    ∃ a', jopen a f = (a', 0, some (L.take k)) ∧ Calm a' ∧ a'.room = a.room ∧ (a'.file f).1 = frames (L.take k) ∧ ∀ g, f ≠ g → a'.file g = a.file g := by
  obtain ⟨k1, k2, k3, k4, k5, k6⟩ := hc
  have hs := scan_any (a.file f).1
  unfold jopen
  rw [h.read hf]
  simp only [ne_eq, not_true_eq_false, if_false]
  rcases k4 with ⟨c1, c2⟩ | ⟨c1, c2, c3⟩
  · rw [if_pos c2, k2]
    refine ⟨a, rfl, h, rfl, ?_, fun _ _ => rfl⟩
    have h2 := hs.2.1
    rw [c2, List.take_length, k2] at h2
    exact h2
  · have ht : (loadAt (a.file f).1).2 = true := by simp only [loadAt, c1, c3, decide_true, Bool.true_and]
    rw [if_neg (by omega), if_neg (by rw [ht]; decide), h.trunc hf _ (by omega)]
    simp only [if_true]
    refine ⟨_, by rw [k2], h.put _, rfl, ?_, fun g hg => file_put_ne _ hg⟩
    rw [h.file_put hf, k3]
    have h2 := hs.2.1
    rw [k3, k2] at h2
    exact h2
end

theorem recs_of_trod {H : Type} {enc : TypeId × Value → H} {w : World} {base : Nat} {spare : Nat → Bool} {held : Bool} {fuel : Nat} {v : Value} {x : DataW H × List MemPlace}
    (h : DataW.trod enc Try.prog w base spare held fuel 45 [v] = some x) : ∃ p : List Value × List (List UInt8), LsR w v p.1 p.2 ∧ p.2.length ≤ maxLen ∧ ∀ b ∈ p.2, b.length ≤ maxLen := by
  rcases open_slice Try.underlying45 h with ⟨hcs, _⟩ | ⟨a, len, cap, m, n, D, Pl, hcs, _, hl, hm, hmm, _, hi⟩
  · injection hcs with hcs _
    subst hcs
    exact ⟨([], []), ⟨⟨none, 0, rfl, by simp, rfl, fun _ => ⟨rfl, rfl⟩, (fun ad h => by cases h)⟩, fun i x b hx => by simp at hx⟩, by simp, by simp⟩
  · injection hcs with hcs _
    subst hcs
    have hC : Try.prog.cellsOf 30 = 1 := by kernel_rfl
    have hlm : len ≤ m := by rw [hmm]; split <;> omega
    have hall : ∀ i, i < len → ∃ p : Value × List UInt8, w.cell? (a.add i) = some p.1 ∧ Bs w p.1 p.2 ∧ p.2.length ≤ maxLen := by
      intro i hil
      obtain ⟨cs', hc, ht⟩ := hi i (by omega)
      rw [hC, Nat.mul_one] at hc
      obtain ⟨_, hcl, hat⟩ := World.cells?_some hc
      obtain ⟨y, rfl⟩ : ∃ y, cs' = [y] := by
        match cs', hcl with
        | [y], _ => exact ⟨y, rfl⟩
      have hcell := hat 0 (by omega)
      obtain ⟨l, hbs, hll⟩ := bytes_of_trod ht
      refine ⟨(y, l), ?_, hbs, hll⟩
      simpa [Addr.add] using hcell
    obtain ⟨ps, hpl, hps⟩ := list_choose len _ hall
    refine ⟨(ps.map (·.1), ps.map (·.2)), ⟨⟨some a, cap, by simp [hpl], by simp [hpl]; exact hl, by simp, (fun h => by cases h), fun ad hA j u hj => ?_⟩, fun i x b hx hb => ?_⟩, by simp [hpl]; omega, fun b hb => ?_⟩
    · cases hA
      rw [List.getElem?_map] at hj
      cases hq : ps[j]? with
      | none => rw [hq] at hj; cases hj
      | some p =>
        rw [hq] at hj
        simp only [Option.map_some, Option.some.injEq] at hj
        subst hj
        exact (hps j p hq).1
    · rw [List.getElem?_map] at hx hb
      cases hq : ps[i]? with
      | none => rw [hq] at hx; cases hx
      | some p =>
        rw [hq] at hx hb
        simp only [Option.map_some, Option.some.injEq] at hx hb
        subst hx hb
        exact (hps i p hq).2.1
    · obtain ⟨p, hp, rfl⟩ := List.mem_map.1 hb
      obtain ⟨i, hq⟩ := List.mem_iff_getElem?.1 hp
      exact (hps i p hq).2.2

theorem nil_bs (w : World) : Bs w (.slice none 0 0) [] := ⟨none, 0, rfl, by simp, by simp, fun _ => ⟨rfl, rfl⟩, (fun ad h => by cases h)⟩
theorem used0 (room : Int) : (ab0 room).used = 0 := by simp [ab0, Ab.used]

end Go.Proofs.Yteoodgcpkgfomaa
