/-
  Packet: the writer: subscriptions.
-/
import Derived.Test.YtffdaohmalmkfaaGreatPakL
namespace Go.Proofs.YtffdaohmalmkfaaGreat
open Go.RowKit
set_option linter.unusedVariables false

structure Sub where
  id : Int
  prio : Int
  q : Qry
def subC (x : Sub) (s : QS) : List Value := .int .i64 x.id :: .int .i64 x.prio :: x.q.cells s
def encSub (x : Sub) : List UInt8 := inum x.id ++ inum x.prio ++ encQ x.q
def encSubs (l : List Sub) : List UInt8 := leb l.length ++ l.flatMap encSub
/-- The slice value v reads as these subscriptions, in blocks below B. -/
def SubsIn (w : World) (B : Nat) (v : Value) (l : List Sub) : Prop :=
  ∃ (A : Option Addr) (cap : Nat), v = .slice A l.length cap ∧ l.length ≤ cap ∧ cap ≤ maxLen ∧ (∀ k, v.ownBlock = some k → k < B) ∧
    (0 < l.length → ∃ g o, A = some ⟨g, o, none⟩ ∧ g < B ∧ ∀ (i : Nat) (x : Sub), l[i]? = some x → I64 x.id ∧ I64 x.prio ∧ ∃ s, QIn w B x.q s ∧ CellsAt w g (o + i * 23) (subC x s))
theorem SubsIn.old {w w' : World} {B B' : Nat} {v : Value} {l : List Sub} (h : SubsIn w B v l) (ho : Old B w w') (hB : B ≤ B') : SubsIn w' B' v l := by
  obtain ⟨A, cap, h1, h2, h3, h4, h5⟩ := h
  refine ⟨A, cap, h1, h2, h3, fun k hk => by have := h4 k hk; omega, fun h0 => ?_⟩
  obtain ⟨g, o, a, b, c⟩ := h5 h0
  refine ⟨g, o, a, by omega, fun i x hx => ?_⟩
  obtain ⟨c1, c2, s, c3, c4⟩ := c i x hx
  exact ⟨c1, c2, s, QIn.old ho hB _ _ c3, c4.old b ho⟩
theorem SubsIn.nil (w : World) (B : Nat) : SubsIn w B (.slice none 0 0) [] := by
  refine ⟨none, 0, rfl, Nat.le_refl _, Nat.zero_le _, fun k h => ?_, fun h => absurd h (Nat.lt_irrefl 0)⟩
  simp [Value.ownBlock] at h
theorem CellsAt.drop {w : World} {g o : Nat} {cs : List Value} (n : Nat) (h : CellsAt w g o cs) : CellsAt w g (o + n) (cs.drop n) := fun j u hj => by
  have := h (n + j) u (by rw [List.getElem?_drop] at hj; exact hj)
  rw [Nat.add_assoc]
  exact this
theorem CellsAt.blk {w : World} {g : Nat} {t : TypeId} {cs : List Value} (h : Blk w g t cs.toArray) : CellsAt w g 0 cs := fun j u hj => by
  rw [Nat.zero_add, h.cell]
  simpa using hj

set_option maxRecDepth 100000 in
set_option maxHeartbeats 8000000 in
theorem wsubs_any (D B : Nat) (v u : Value) (l : List UInt8) (xs : List Sub) (w : World) (h : Wr w D v l) (hu : SubsIn w B u xs) (hf : ∀ x ∈ xs, fitQ 1 x.q = true) (hB : B ≤ D) (hl : l.length + (encSubs xs).length ≤ 600000000000) :
    Calls Tryz.prog 46 #[.pointer (some ⟨D, 0, none⟩), u] w (WrOk D v (l ++ encSubs xs) w) := by
  have H := Lib.hid h
  have HF := Lib.hid hf
  have hlen : l.length + (leb xs.length).length + (xs.flatMap encSub).length ≤ 600000000000 := by simp only [encSubs, List.length_append] at hl; omega
  have HL := Lib.hid hlen
  have HU := Lib.hid hu
  obtain ⟨A, cap, rfl, hcap, hmax, hlow, hat⟩ := hu
  have hmax' : cap ≤ 9223372036854775807 := by simpa only [maxLen] using hmax
  have HC : Hid (Calls Tryz.prog 109 #[.pointer (some ⟨D, 0, none⟩), .int .i64 xs.length] w (WrOk D v (l ++ leb xs.length) w)) := Lib.hid (wcount_any D v l xs.length w h (by omega) (by omega))
  clear h hf hlen hat hlow hl hmax
  go_enter Tryz.func46, Tryz.ntmps46
  go_wp2_with fail
  refine HC.out.mono ?_
  rintro e w1 ⟨v1, rfl, hw1, hs1⟩
  have HW1 := Lib.hid hw1
  have HS1 := Lib.hid hs1
  clear hw1 hs1
  go_wp2_with fail
  go_loopw [12] (fun i wr => LoopRel xs.length D v (fun k => l ++ leb xs.length ++ (xs.take k).flatMap encSub) w i wr) (fun i _ => xs.length - (intOf i).toNat)
  case atStart => exact ⟨0, v1, Nat.zero_le _, rfl, by simpa using HW1.out, HS1.out⟩
  case round =>
    obtain ⟨k, v', hk, rfl, hwr, hsr⟩ := hrel
    have HWR := Lib.hid hwr
    have HSR := Lib.hid hsr
    clear hwr hsr
    by_cases hlt : k < xs.length
    · obtain ⟨A', cap', hv', -, -, -, hcell⟩ := HU.out
      injection hv' with e1 e2 e3
      subst e1 e3
      obtain ⟨g, o, rfl, hgB, hc⟩ := hcell (by omega)
      obtain ⟨x, hx⟩ : ∃ x, xs[k]? = some x := ⟨_, List.getElem?_eq_getElem hlt⟩
      obtain ⟨x1, x2, s, hqi, hqc⟩ := hc k x hx
      have HX1 := Lib.hid x1
      have HX2 := Lib.hid x2
      have HQI := Lib.hid hqi
      have HQC := Lib.hid (hqc.old hgB (HSR.out.old H.out hB))
      have hqn := x.q.cells_length s
      have hqo := QIn.one hqi
      have hn23 : (subC x s).length = 23 := by simp [subC, hqn]
      have HFX := Lib.hid (HF.out x (List.mem_of_getElem? hx))
      have HTK := Lib.hid (flatMap_take_succ encSub xs k x hx)
      have hle := flatMap_take_le encSub xs (k + 1)
      rw [HTK.out, List.length_append] at hle
      have HLEN : Hid ((l ++ leb xs.length ++ (xs.take k).flatMap encSub).length + (encSub x).length ≤ 600000000000) := Lib.hid (by have := HL.out; simp only [List.length_append]; omega)
      have HI : Hid ((Tryz.prog.info? 62).map (·.size) = some (subC x s).length) := Lib.hid (by rw [hn23]; kernel_rfl)
      have HI2 : Hid ((Tryz.prog.info? 62).map (·.size) = some (subC x s).toArray.size) := Lib.hid (by rw [List.size_toArray, hn23]; kernel_rfl)
      have HZ : Hid ((subC x s).toArray.size = 23) := Lib.hid (by rw [List.size_toArray, hn23])
      have HO : Hid ((subC x s).toArray.all (·.oneCell') = true) := Lib.hid (by simpa [subC, Value.oneCell'] using hqo)
      have HIQ : Hid ((Tryz.prog.info? 59).map (·.size) = some (x.q.cells s).length) := Lib.hid (by rw [hqn]; kernel_rfl)
      have HQV : Hid (x.q.v s = .agg (x.q.cells s).toArray) := Lib.hid (x.q.v_cells s)
      have hk0 : (0 : Int) ≤ (k : Int) := by omega
      have hk9 : (k : Int) < (xs.length : Int) := by omega
      obtain ⟨wB, hwB⟩ : ∃ wB, wB = wr.alloc (.cells (subC x s).toArray 62) := ⟨_, rfl⟩
      have hkB : Kept Kno wr wB := by rw [hwB]; exact (Kept.refl _ _).alloc _
      have HGB : Hid (Gd wB D v' wr.heap.size 62 (subC x s).toArray) := Lib.hid (by rw [hwB]; exact Gd.new HWR.out _ _)
      have c0 : wB.cell? ⟨wr.heap.size, 0, none⟩ = some (.int .i64 x.id) := HGB.out.b.cell 0
      rw [hwB] at c0
      have HWB := Lib.hid hwB
      clear hcell hc hx hqi hqc hqn hqo hn23 hle x1 x2 hwB e2
      go_wp2_with (first
        | (refine wpList_load_at rfl 62 (.tmp 14) rfl g (o + k * 23) (subC x s) _ rfl HQC.out Tryz.underlying62 rfl HI.out ?_)
        | (refine wpList_store_new rfl 62 (.tmp 5) (.tmp 15) rfl _ (subC x s).toArray rfl rfl HI2.out (by rw [HZ.out]; rfl) HO.out ?_))
      rw [← HWB.out]
      rw [← HWB.out] at c0
      refine (wnumber_any D v' _ x.id wB (HWR.out.kept hkB) HX1.out (by have := HLEN.out; simp only [encSub, List.length_append] at this ⊢; omega)).mono ?_
      rintro e w3 ⟨v3, rfl, hw3, hs3⟩
      have HW3 := Lib.hid hw3
      have HS3 := Lib.hid ((HSR.out.then0 hkB).trans hs3)
      have HG3 := Lib.hid (HGB.out.step hs3)
      have c1 : w3.cell? ⟨wr.heap.size, 1, none⟩ = some (.int .i64 x.prio) := HG3.out.b.cell 1
      clear hw3 hs3 hkB c0 HGB
      go_wp2_with fail
      refine (wnumber_any D v3 _ x.prio w3 HW3.out HX2.out (by have := HLEN.out; simp only [encSub, List.length_append] at this ⊢; omega)).mono ?_
      rintro e w4 ⟨v4, rfl, hw4, hs4⟩
      have HW4 := Lib.hid hw4
      have HS4 := Lib.hid (HS3.out.trans hs4)
      have HG4 := Lib.hid (HG3.out.step hs4)
      have HCQ : Hid (CellsAt w4 wr.heap.size 2 (x.q.cells s)) := Lib.hid (by have := (CellsAt.blk HG4.out.b).drop 2; simpa [subC] using this)
      clear hw4 hs4 c1 HG3 HS3 HW3
      go_wp2_with (refine wpList_load_at rfl 59 (.tmp 25) rfl wr.heap.size 2 (x.q.cells s) _ rfl HCQ.out Tryz.underlying59 rfl HIQ.out ?_)
      rw [← HQV.out]
      refine (wquery_any x.q 1 D B v4 s _ w4 HW4.out (QIn.old (HS4.out.old H.out hB) (Nat.le_refl _) _ _ HQI.out) hB HFX.out (by have := HLEN.out; simp only [encSub, List.length_append] at this ⊢; omega)).mono ?_
      rintro e w5 ⟨v5, rfl, hw5, hs5⟩
      have HW5 := Lib.hid hw5
      have HS5 := Lib.hid (HS4.out.trans hs5)
      clear hw5 hs5
      go_wp2
      go_roundw
      case rel =>
        refine ⟨k + 1, v5, by omega, by go_num, ?_, HS5.out⟩
        simp only [HTK.out]
        have := HW5.out
        simpa [encSub] using this
      case measure => simp [intOf]; omega
    · have hk9 : ¬ (k : Int) < (xs.length : Int) := by omega
      have hwr : Wr wr D v' (l ++ encSubs xs) := by
        have h9 : Wr wr D v' (l ++ leb xs.length ++ (xs.take k).flatMap encSub) := HWR.out
        rw [List.take_of_length_le (by omega)] at h9
        simpa [encSubs] using h9
      have hx : WrOk D v (l ++ encSubs xs) w (.returned (.tuple #[])) wr := ⟨v', rfl, hwr, HSR.out⟩
      have HX := Lib.hid hx
      clear hx hwr
      go_wp2
      go_end0
      exact HX.out

end Go.Proofs.YtffdaohmalmkfaaGreat
