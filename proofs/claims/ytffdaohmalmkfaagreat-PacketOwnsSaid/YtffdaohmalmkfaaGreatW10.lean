/-
  Contracts and plain laws that the claim's theorem rests on.
-/
import Derived.Test.YtffdaohmalmkfaaGreatW7
import Derived.Test.YtffdaohmalmkfaaGreatW9
set_option linter.unusedSimpArgs false
set_option linter.unusedVariables false
/-
  Packet: the writer: subscriptions.
-/
namespace Go.Proofs.YtffdaohmalmkfaaGreat
open Go.RowKit
set_option linter.unusedVariables false

structure Sub where
  id : Int
  prio : Int
  q : Qry
def subC (x : Sub) (s : QS) : List Value := .int .i64 x.id :: .int .i64 x.prio :: x.q.cells s
def encSub (x : Sub) : List UInt8 := inum x.id ++ inum x.prio ++ encQ x.q
def encSubs (l : List Sub) : List UInt8 := leb l.length ++ l.flatMap encSub
/-- The slice value v reads as these subscriptions, in blocks below B. -/
def SubsIn (w : World) (B : Nat) (v : Value) (l : List Sub) : Prop :=
  ∃ (A : Option Addr) (cap : Nat), v = .slice A l.length cap ∧ l.length ≤ cap ∧ cap ≤ maxLen ∧ (∀ k, v.ownBlock = some k → k < B) ∧
    (0 < l.length → ∃ g o, A = some ⟨g, o, none⟩ ∧ g < B ∧ ∀ (i : Nat) (x : Sub), l[i]? = some x → I64 x.id ∧ I64 x.prio ∧ ∃ s, QIn w B x.q s ∧ CellsAt w g (o + i * 23) (subC x s))
theorem SubsIn.old {w w' : World} {B B' : Nat} {v : Value} {l : List Sub} (h : SubsIn w B v l) (ho : Old B w w') (hB : B ≤ B') : SubsIn w' B' v l := by
  obtain ⟨A, cap, h1, h2, h3, h4, h5⟩ := h
  refine ⟨A, cap, h1, h2, h3, fun k hk => by have := h4 k hk; omega, fun h0 => ?_⟩
  obtain ⟨g, o, a, b, c⟩ := h5 h0
  refine ⟨g, o, a, by omega, fun i x hx => ?_⟩
  obtain ⟨c1, c2, s, c3, c4⟩ := c i x hx
  exact ⟨c1, c2, s, QIn.old ho hB _ _ c3, c4.old b ho⟩
theorem SubsIn.nil (w : World) (B : Nat) : SubsIn w B (.slice none 0 0) [] := by
  refine ⟨none, 0, rfl, Nat.le_refl _, Nat.zero_le _, fun k h => ?_, fun h => absurd h (Nat.lt_irrefl 0)⟩
  simp [Value.ownBlock] at h
theorem CellsAt.drop {w : World} {g o : Nat} {cs : List Value} (n : Nat) (h : CellsAt w g o cs) : CellsAt w g (o + n) (cs.drop n) := fun j u hj => by
  have := h (n + j) u (by rw [List.getElem?_drop] at hj; exact hj)
  rw [Nat.add_assoc]
  exact this
theorem CellsAt.blk {w : World} {g : Nat} {t : TypeId} {cs : List Value} (h : Blk w g t cs.toArray) : CellsAt w g 0 cs := fun j u hj => by
  rw [Nat.zero_add, h.cell]
  simpa using hj

set_option maxRecDepth 100000 in
set_option maxHeartbeats 8000000 in
theorem wsubs_any (D B : Nat) (v u : Value) (l : List UInt8) (xs : List Sub) (w : World) (h : Wr w D v l) (hu : SubsIn w B u xs) (hf : ∀ x ∈ xs, fitQ 1 x.q = true) (hB : B ≤ D) (hl : l.length + (encSubs xs).length ≤ 600000000000) :
    Calls Tryz.prog 46 #[.pointer (some ⟨D, 0, none⟩), u] w (WrOk D v (l ++ encSubs xs) w) := by
  have H := Lib.hid h
  have HF := Lib.hid hf
  have hlen : l.length + (leb xs.length).length + (xs.flatMap encSub).length ≤ 600000000000 := by simp only [encSubs, List.length_append] at hl; omega
  have HL := Lib.hid hlen
  have HU := Lib.hid hu
  obtain ⟨A, cap, rfl, hcap, hmax, hlow, hat⟩ := hu
  have hmax' : cap ≤ 9223372036854775807 := by simpa only [maxLen] using hmax
  have HC : Hid (Calls Tryz.prog 109 #[.pointer (some ⟨D, 0, none⟩), .int .i64 xs.length] w (WrOk D v (l ++ leb xs.length) w)) := Lib.hid (wcount_any D v l xs.length w h (by omega) (by omega))
  clear h hf hlen hat hlow hl hmax
  go_enter Tryz.func46, Tryz.ntmps46
  go_wp2_with fail
  refine HC.out.mono ?_
  rintro e w1 ⟨v1, rfl, hw1, hs1⟩
  have HW1 := Lib.hid hw1
  have HS1 := Lib.hid hs1
  clear hw1 hs1
  go_wp2_with fail
  go_loopw [12] (fun i wr => LoopRel xs.length D v (fun k => l ++ leb xs.length ++ (xs.take k).flatMap encSub) w i wr) (fun i _ => xs.length - (intOf i).toNat)
  case atStart => exact ⟨0, v1, Nat.zero_le _, rfl, by simpa using HW1.out, HS1.out⟩
  case round =>
    obtain ⟨k, v', hk, rfl, hwr, hsr⟩ := hrel
    have HWR := Lib.hid hwr
    have HSR := Lib.hid hsr
    clear hwr hsr
    by_cases hlt : k < xs.length
    · obtain ⟨A', cap', hv', -, -, -, hcell⟩ := HU.out
      injection hv' with e1 e2 e3
      subst e1 e3
      obtain ⟨g, o, rfl, hgB, hc⟩ := hcell (by omega)
      obtain ⟨x, hx⟩ : ∃ x, xs[k]? = some x := ⟨_, List.getElem?_eq_getElem hlt⟩
      obtain ⟨x1, x2, s, hqi, hqc⟩ := hc k x hx
      have HX1 := Lib.hid x1
      have HX2 := Lib.hid x2
      have HQI := Lib.hid hqi
      have HQC := Lib.hid (hqc.old hgB (HSR.out.old H.out hB))
      have hqn := x.q.cells_length s
      have hqo := QIn.one hqi
      have hn23 : (subC x s).length = 23 := by simp [subC, hqn]
      have HFX := Lib.hid (HF.out x (List.mem_of_getElem? hx))
      have HTK := Lib.hid (flatMap_take_succ encSub xs k x hx)
      have hle := flatMap_take_le encSub xs (k + 1)
      rw [HTK.out, List.length_append] at hle
      have HLEN : Hid ((l ++ leb xs.length ++ (xs.take k).flatMap encSub).length + (encSub x).length ≤ 600000000000) := Lib.hid (by have := HL.out; simp only [List.length_append]; omega)
      have HI : Hid ((Tryz.prog.info? 62).map (·.size) = some (subC x s).length) := Lib.hid (by rw [hn23]; kernel_rfl)
      have HI2 : Hid ((Tryz.prog.info? 62).map (·.size) = some (subC x s).toArray.size) := Lib.hid (by rw [List.size_toArray, hn23]; kernel_rfl)
      have HZ : Hid ((subC x s).toArray.size = 23) := Lib.hid (by rw [List.size_toArray, hn23])
      have HO : Hid ((subC x s).toArray.all (·.oneCell') = true) := Lib.hid (by simpa [subC, Value.oneCell'] using hqo)
      have HIQ : Hid ((Tryz.prog.info? 59).map (·.size) = some (x.q.cells s).length) := Lib.hid (by rw [hqn]; kernel_rfl)
      have HQV : Hid (x.q.v s = .agg (x.q.cells s).toArray) := Lib.hid (x.q.v_cells s)
      have hk0 : (0 : Int) ≤ (k : Int) := by omega
      have hk9 : (k : Int) < (xs.length : Int) := by omega
      obtain ⟨wB, hwB⟩ : ∃ wB, wB = wr.alloc (.cells (subC x s).toArray 62) := ⟨_, rfl⟩
      have hkB : Kept Kno wr wB := by rw [hwB]; exact (Kept.refl _ _).alloc _
      have HGB : Hid (Gd wB D v' wr.heap.size 62 (subC x s).toArray) := Lib.hid (by rw [hwB]; exact Gd.new HWR.out _ _)
      have c0 : wB.cell? ⟨wr.heap.size, 0, none⟩ = some (.int .i64 x.id) := HGB.out.b.cell 0
      rw [hwB] at c0
      have HWB := Lib.hid hwB
      clear hcell hc hx hqi hqc hqn hqo hn23 hle x1 x2 hwB e2
      go_wp2_with (first
        | (refine wpList_load_at rfl 62 (.tmp 14) rfl g (o + k * 23) (subC x s) _ rfl HQC.out Tryz.underlying62 rfl HI.out ?_)
        | (refine wpList_store_new rfl 62 (.tmp 5) (.tmp 15) rfl _ (subC x s).toArray rfl rfl HI2.out (by rw [HZ.out]; rfl) HO.out ?_))
      rw [← HWB.out]
      rw [← HWB.out] at c0
      refine (wnumber_any D v' _ x.id wB (HWR.out.kept hkB) HX1.out (by have := HLEN.out; simp only [encSub, List.length_append] at this ⊢; omega)).mono ?_
      rintro e w3 ⟨v3, rfl, hw3, hs3⟩
      have HW3 := Lib.hid hw3
      have HS3 := Lib.hid ((HSR.out.then0 hkB).trans hs3)
      have HG3 := Lib.hid (HGB.out.step hs3)
      have c1 : w3.cell? ⟨wr.heap.size, 1, none⟩ = some (.int .i64 x.prio) := HG3.out.b.cell 1
      clear hw3 hs3 hkB c0 HGB
      go_wp2_with fail
      refine (wnumber_any D v3 _ x.prio w3 HW3.out HX2.out (by have := HLEN.out; simp only [encSub, List.length_append] at this ⊢; omega)).mono ?_
      rintro e w4 ⟨v4, rfl, hw4, hs4⟩
      have HW4 := Lib.hid hw4
      have HS4 := Lib.hid (HS3.out.trans hs4)
      have HG4 := Lib.hid (HG3.out.step hs4)
      have HCQ : Hid (CellsAt w4 wr.heap.size 2 (x.q.cells s)) := Lib.hid (by have := (CellsAt.blk HG4.out.b).drop 2; simpa [subC] using this)
      clear hw4 hs4 c1 HG3 HS3 HW3
      go_wp2_with (refine wpList_load_at rfl 59 (.tmp 25) rfl wr.heap.size 2 (x.q.cells s) _ rfl HCQ.out Tryz.underlying59 rfl HIQ.out ?_)
      rw [← HQV.out]
      refine (wquery_any x.q 1 D B v4 s _ w4 HW4.out (QIn.old (HS4.out.old H.out hB) (Nat.le_refl _) _ _ HQI.out) hB HFX.out (by have := HLEN.out; simp only [encSub, List.length_append] at this ⊢; omega)).mono ?_
      rintro e w5 ⟨v5, rfl, hw5, hs5⟩
      have HW5 := Lib.hid hw5
      have HS5 := Lib.hid (HS4.out.trans hs5)
      clear hw5 hs5
      go_wp2
      go_roundw
      case rel =>
        refine ⟨k + 1, v5, by omega, by go_num, ?_, HS5.out⟩
        simp only [HTK.out]
        have := HW5.out
        simpa [encSub] using this
      case measure => simp [intOf]; omega
    · have hk9 : ¬ (k : Int) < (xs.length : Int) := by omega
      have hwr : Wr wr D v' (l ++ encSubs xs) := by
        have h9 : Wr wr D v' (l ++ leb xs.length ++ (xs.take k).flatMap encSub) := HWR.out
        rw [List.take_of_length_le (by omega)] at h9
        simpa [encSubs] using h9
      have hx : WrOk D v (l ++ encSubs xs) w (.returned (.tuple #[])) wr := ⟨v', rfl, hwr, HSR.out⟩
      have HX := Lib.hid hx
      clear hx hwr
      go_wp2
      go_end0
      exact HX.out

end Go.Proofs.YtffdaohmalmkfaaGreat
/-
  Packet: which predicates fit.
-/
namespace Go.Proofs.YtffdaohmalmkfaaGreat
open Go.RowKit
set_option linter.unusedVariables false

set_option maxRecDepth 100000 in
set_option maxHeartbeats 1000000 in
theorem operandFits_any (o : Opnd) (w : World) : Calls Tryz.prog 252 #[o.v] w (RetBool (fitO o) w) := by
  obtain ⟨kind, idx, ⟨vk, vn, vs⟩⟩ := o
  simp only [Opnd.v]
  by_cases hz : valZ ⟨vk, vn, vs⟩ = true
  · have hv := valZ_is _ hz
    injection hv with e1 e2 e3
    subst e1 e2 e3
    have hx : ∀ w', Kept Kno w w' → RetBool (fitO ⟨kind, idx, ⟨0, 0, ⟨#[]⟩⟩⟩) w (.returned (.bool true)) w' := fun w' h => ⟨by unfold fitO plainV; rw [hz]; rfl, h⟩
    have HX := Lib.hid hx
    clear hx hz
    go_enter Tryz.func252, Tryz.ntmps252
    go_wp2
    go_ret
    exact HX.out _ ((Kept.refl _ _).alloc _)
  · have hx : ∀ w', Kept Kno w w' → RetBool (fitO ⟨kind, idx, ⟨vk, vn, vs⟩⟩) w (.returned (.bool (validB vk vn vs))) w' := fun w' h => ⟨by unfold fitO plainV; simp [hz], h⟩
    have HX := Lib.hid hx
    clear hx
    by_cases hk : vk = 0
    · have hv : validB vk vn vs = false := by
        cases h : validB vk vn vs with
        | false => rfl
        | true => exact absurd hk (valid_kind ⟨vk, vn, vs⟩ h)
      clear hv
      subst hk
      by_cases hvn : vn = 0
      · subst hvn
        have hs1 : ¬ vs.toList = [] := fun h2 => hz (by
          have : vs.size = 0 := by rw [Lib.toList_data] at h2; exact (congrArg List.length h2 : _)
          simp [valZ, this])
        have hs2 : vs.toList.isEmpty = false := by cases h : vs.toList with
          | nil => exact absurd h hs1
          | cons a b => rfl
        clear hz
        go_enter Tryz.func252, Tryz.ntmps252
        go_wp2_with fail
        refine (valid_any 0 _ vs _).mono ?_
        rintro e w1 ⟨rfl, hk1⟩
        have HK := Lib.hid (((Kept.refl Kno w).alloc _).then0 hk1)
        clear hk1
        go_wp2
        go_ret
        exact HX.out _ HK.out
      · have hn0 : (vn == 0) = false := by simpa using hvn
        clear hz hvn
        go_enter Tryz.func252, Tryz.ntmps252
        go_wp2_with fail
        refine (valid_any 0 _ vs _).mono ?_
        rintro e w1 ⟨rfl, hk1⟩
        have HK := Lib.hid (((Kept.refl Kno w).alloc _).then0 hk1)
        clear hk1
        go_wp2
        go_ret
        exact HX.out _ HK.out
    · have hk0 : (vk == 0) = false := by simpa using hk
      clear hz hk
      go_enter Tryz.func252, Tryz.ntmps252
      go_wp2_with fail
      refine (valid_any vk vn vs _).mono ?_
      rintro e w1 ⟨rfl, hk1⟩
      have HK := Lib.hid (((Kept.refl Kno w).alloc _).then0 hk1)
      clear hk1
      go_wp2
      go_ret
      exact HX.out _ HK.out

theorem sizePs_take_succ (ps : List Prd) (k : Nat) (p : Prd) (h : ps[k]? = some p) : sizePs (ps.take (k + 1)) = sizePs (ps.take k) + sizeP p := by
  rw [List.take_add_one, h, sizePs_append]
  simp [sizePs]
theorem sizePs_take_le (ps : List Prd) (k : Nat) : sizePs (ps.take k) ≤ sizePs ps := by
  have h := sizePs_append (ps.take k) (ps.drop k)
  rw [List.take_append_drop] at h
  omega
theorem fitPs_take_succ (d : Nat) (ps : List Prd) (k : Nat) (p : Prd) (h : ps[k]? = some p) : fitPs d (ps.take (k + 1)) = (fitPs d (ps.take k) && fitP d p) := by
  rw [List.take_add_one, h, fitPs_append]
  simp [fitPs]
theorem Prd.cells_length (q : Prd) (s : Value) : (q.cells s).length = 13 := by
  obtain ⟨_, _, _, _, _⟩ := q
  rfl
theorem Prd.v_cells (q : Prd) (s : Value) : q.v s = .agg (q.cells s).toArray := by
  obtain ⟨_, _, _, _, _⟩ := q
  rfl
theorem PIn.form {w : World} {B : Nat} {p : Prd} {s : Value} (h : PIn w B p s) : ∃ A n c, s = .slice A n c := by
  cases p
  simp only [PIn] at h
  obtain ⟨-, -, -, -, A', c', h, -⟩ := h
  exact ⟨_, _, _, h⟩
theorem PIn.one {w : World} {B : Nat} {p : Prd} {s : Value} (h : PIn w B p s) : ((p.cells s).all (·.oneCell')) = true := by
  obtain ⟨A, n, c, rfl⟩ := h.form
  obtain ⟨_, _, _, _, _⟩ := p
  rfl

/-- A call that judges and counts: the counter C goes from n to n + m if all fits. -/
def Fits (C n m : Nat) (b : Bool) (w : World) (e : Ending) (w' : World) : Prop :=
  ∃ n' : Int, e = .returned (.bool b) ∧ Blk w' C 3 #[.int .i64 n'] ∧ Kept (Kone C) w w' ∧ (b = true → n' = ((n + m : Nat) : Int))

def FitRel (C n d : Nat) (args : List Prd) (w : World) (i : Value) (wr : World) : Prop :=
  ∃ k : Nat, k ≤ args.length ∧ i = .int .i64 k ∧ n + 1 + sizePs (args.take k) ≤ 24 ∧ fitPs d (args.take k) = true ∧ Blk wr C 3 #[.int .i64 ((n + 1 + sizePs (args.take k) : Nat) : Int)] ∧ Kept (Kone C) w wr

set_option maxRecDepth 100000 in
set_option maxHeartbeats 8000000 in
theorem predicateFits_n (N : Nat) : ∀ (p : Prd), sizeP p ≤ N → ∀ (d C B n : Nat) (s : Value) (w : World), PIn w B p s → B ≤ C → Blk w C 3 #[.int .i64 (n : Int)] → n ≤ 24 → d ≤ 9 →
    Calls Tryz.prog 202 #[p.v s, .int .i64 d, .pointer (some ⟨C, 0, none⟩)] w (Fits C n (sizeP p) (decide (n + sizeP p ≤ 24) && fitP d p) w) := by
  induction N with
  | zero => intro p hp; have := sizeP_pos p; omega
  | succ N IH =>
    intro p hsz d C B n s w hp hB hC hn hd
    obtain ⟨op, cmp, lo, ro, args⟩ := p
    have HC := Lib.hid hC
    have hCl := hC.lt
    simp only [sizeP] at hsz
    simp only [PIn] at hp
    obtain ⟨p1, p2, p3, p4, A, cap, rfl, hcap, hmax, -, hlow, hat⟩ := hp
    have HAT := Lib.hid hat
    have hmax' : cap ≤ 9223372036854775807 := by simpa only [maxLen] using hmax
    have HP3 := Lib.hid p3
    have HP4 := Lib.hid p4
    have HFP : Hid (∀ d, fitP d (.mk op cmp lo ro args) = (decide (d ≤ 8) && fitO lo && fitO ro && fitPs (d + 1) args)) := Lib.hid (fun d => by simp only [fitP])
    have HSZ : Hid (sizeP (.mk op cmp lo ro args) = 1 + sizePs args) := Lib.hid (by simp only [sizeP])
    have HIH : Hid (∀ (p : Prd), p ∈ args → ∀ (n : Nat) (s : Value) (w : World), d ≤ 8 → PIn w B p s → Blk w C 3 #[.int .i64 (n : Int)] → n ≤ 24 → Calls Tryz.prog 202 #[p.v s, .int .i64 ((d : Int) + 1), .pointer (some ⟨C, 0, none⟩)] w (Fits C n (sizeP p) (decide (n + sizeP p ≤ 24) && fitP (d + 1) p) w)) := Lib.hid (by
      intro p hpm n s w h0 h1 h2 h3
      exact IH p (by have := sizePs_mem hpm; omega) (d + 1) C B n s w h1 hB h2 h3 (by omega))
    obtain ⟨lk, li, ⟨la, lb, lc⟩⟩ := lo
    obtain ⟨rk, ri, ⟨ra, rb, rc⟩⟩ := ro
    simp only [Prd.v]
    obtain ⟨wA, hA⟩ : ∃ wA, wA = w.alloc (.cells #[.int .i64 op, .int .i64 cmp, .int .i64 lk, .int .i64 li, .int .i64 la, .int .i64 lb, .string lc, .int .i64 rk, .int .i64 ri, .int .i64 ra, .int .i64 rb, .string rc, .slice A args.length cap] 54) := ⟨_, rfl⟩
    have hkA : Kept Kno w wA := by rw [hA]; exact (Kept.refl _ _).alloc _
    have hGA : Blk wA w.heap.size 54 #[.int .i64 op, .int .i64 cmp, .int .i64 lk, .int .i64 li, .int .i64 la, .int .i64 lb, .string lc, .int .i64 rk, .int .i64 ri, .int .i64 ra, .int .i64 rb, .string rc, .slice A args.length cap] := by rw [hA]; exact Blk.new _ _ _
    have hCA := hC.kept hkA (fun h => h)
    have cA : wA.cell? ⟨C, 0, none⟩ = some (.int .i64 (n : Int)) := hCA.cell 0
    have fA := hCA.frozen 0
    obtain ⟨wS, hS⟩ : ∃ wS, wS = wA.setCell ⟨C, 0, none⟩ (.int .i64 ((n : Int) + 1)) := ⟨_, rfl⟩
    have hGC : w.heap.size ≠ C := by omega
    have hCS : Blk wS C 3 #[.int .i64 ((n : Int) + 1)] := by rw [hS]; exact hCA.set_ 0 _
    have hGS : Blk wS w.heap.size 54 #[.int .i64 op, .int .i64 cmp, .int .i64 lk, .int .i64 li, .int .i64 la, .int .i64 lb, .string lc, .int .i64 rk, .int .i64 ri, .int .i64 ra, .int .i64 rb, .string rc, .slice A args.length cap] := by rw [hS]; exact hGA.far hGC _
    have hkS : Kept (Kone C) w wS := by rw [hS]; exact (hkA.mono (T := Kone C) (fun _ _ h => h.elim)).setIn (p := ⟨C, 0, none⟩) (Eq.refl C) _
    have cS : wS.cell? ⟨C, 0, none⟩ = some (.int .i64 ((n : Int) + 1)) := hCS.cell 0
    have HAe := Lib.hid hA
    have HSe := Lib.hid hS
    have HCS := Lib.hid hCS
    have HGS := Lib.hid hGS
    have HKS := Lib.hid hkS
    clear IH p1 p2 p3 p4 hat hlow hmax hsz hA hS hCS hGS hkS hkA hGA hCA hC
    have hn0 : (0 : Int) ≤ (n : Int) := by omega
    have hn9 : (n : Int) ≤ 24 := by omega
    have hw1 : IntKind.i64.wrap ((n : Int) + 1) = (n : Int) + 1 := IntWalk.i64_in _ (by omega)
    go_enter Tryz.func202, Tryz.ntmps202
    go_upto_region 1 with (fail)
    rw [← HAe.out]
    go_upto_region 2 with (fail)
    rw [← HSe.out]
    clear cA fA hw1
    by_cases h1 : n + 1 ≤ 24
    · by_cases h2 : d ≤ 8
      · have h1' : ¬ (24 : Int) < (n : Int) + 1 := by omega
        have h2' : ¬ (8 : Int) < (d : Int) := by omega
        have c2 : wS.cell? ⟨w.heap.size, 2, none⟩ = some (.int .i64 lk) := HGS.out.cell 2
        have c3 : wS.cell? ⟨w.heap.size, 3, none⟩ = some (.int .i64 li) := HGS.out.cell 3
        have c4 : wS.cell? ⟨w.heap.size, 4, none⟩ = some (.int .i64 la) := HGS.out.cell 4
        have c5 : wS.cell? ⟨w.heap.size, 5, none⟩ = some (.int .i64 lb) := HGS.out.cell 5
        have c6 : wS.cell? ⟨w.heap.size, 6, none⟩ = some (.string lc) := HGS.out.cell 6
        go_wp2_with fail
        refine (operandFits_any ⟨lk, li, ⟨la, lb, lc⟩⟩ wS).mono ?_
        rintro e w1 ⟨rfl, hk1⟩
        have HC1 := Lib.hid (HCS.out.kept hk1 (fun h => h))
        have HG1 := Lib.hid (HGS.out.kept hk1 (fun h => h))
        have HK1 := Lib.hid (HKS.out.then0 hk1)
        clear hk1 c2 c3 c4 c5 c6 cS HCS HGS HKS
        cases hf1 : fitO ⟨lk, li, ⟨la, lb, lc⟩⟩ with
        | false =>
          have hwhy : (decide (n + sizeP (.mk op cmp ⟨lk, li, ⟨la, lb, lc⟩⟩ ⟨rk, ri, ⟨ra, rb, rc⟩⟩ args) ≤ 24) && fitP d (.mk op cmp ⟨lk, li, ⟨la, lb, lc⟩⟩ ⟨rk, ri, ⟨ra, rb, rc⟩⟩ args)) = false := by rw [HFP.out, hf1]; simp
          clear hf1
          have hx : Fits C n (sizeP (.mk op cmp ⟨lk, li, ⟨la, lb, lc⟩⟩ ⟨rk, ri, ⟨ra, rb, rc⟩⟩ args)) (decide (n + sizeP (.mk op cmp ⟨lk, li, ⟨la, lb, lc⟩⟩ ⟨rk, ri, ⟨ra, rb, rc⟩⟩ args) ≤ 24) && fitP d (.mk op cmp ⟨lk, li, ⟨la, lb, lc⟩⟩ ⟨rk, ri, ⟨ra, rb, rc⟩⟩ args)) w (.returned (.bool false)) w1 := ⟨_, by rw [hwhy], HC1.out, HK1.out, fun h => by rw [hwhy] at h; cases h⟩
          have HX := Lib.hid hx
          clear hx hwhy
          go_wp2
          go_ret
          exact HX.out
        | true =>
          have HF1 := Lib.hid hf1
          clear hf1
          have c7 : w1.cell? ⟨w.heap.size, 7, none⟩ = some (.int .i64 rk) := HG1.out.cell 7
          have c8 : w1.cell? ⟨w.heap.size, 8, none⟩ = some (.int .i64 ri) := HG1.out.cell 8
          have c9 : w1.cell? ⟨w.heap.size, 9, none⟩ = some (.int .i64 ra) := HG1.out.cell 9
          have c10 : w1.cell? ⟨w.heap.size, 10, none⟩ = some (.int .i64 rb) := HG1.out.cell 10
          have c11 : w1.cell? ⟨w.heap.size, 11, none⟩ = some (.string rc) := HG1.out.cell 11
          go_wp2_with fail
          refine (operandFits_any ⟨rk, ri, ⟨ra, rb, rc⟩⟩ w1).mono ?_
          rintro e w2 ⟨rfl, hk2⟩
          have HC2 := Lib.hid (HC1.out.kept hk2 (fun h => h))
          have HG2 := Lib.hid (HG1.out.kept hk2 (fun h => h))
          have HK2 := Lib.hid (HK1.out.then0 hk2)
          clear hk2 c7 c8 c9 c10 c11 HC1 HG1 HK1
          cases hf2 : fitO ⟨rk, ri, ⟨ra, rb, rc⟩⟩ with
          | false =>
            have hwhy : (decide (n + sizeP (.mk op cmp ⟨lk, li, ⟨la, lb, lc⟩⟩ ⟨rk, ri, ⟨ra, rb, rc⟩⟩ args) ≤ 24) && fitP d (.mk op cmp ⟨lk, li, ⟨la, lb, lc⟩⟩ ⟨rk, ri, ⟨ra, rb, rc⟩⟩ args)) = false := by rw [HFP.out, hf2]; simp
            clear hf2
            have hx : Fits C n (sizeP (.mk op cmp ⟨lk, li, ⟨la, lb, lc⟩⟩ ⟨rk, ri, ⟨ra, rb, rc⟩⟩ args)) (decide (n + sizeP (.mk op cmp ⟨lk, li, ⟨la, lb, lc⟩⟩ ⟨rk, ri, ⟨ra, rb, rc⟩⟩ args) ≤ 24) && fitP d (.mk op cmp ⟨lk, li, ⟨la, lb, lc⟩⟩ ⟨rk, ri, ⟨ra, rb, rc⟩⟩ args)) w (.returned (.bool false)) w2 := ⟨_, by rw [hwhy], HC2.out, HK2.out, fun h => by rw [hwhy] at h; cases h⟩
            have HX := Lib.hid hx
            clear hx hwhy
            go_wp2
            go_ret
            exact HX.out
          | true =>
            have HF2 := Lib.hid hf2
            clear hf2
            have c12 : w2.cell? ⟨w.heap.size, 12, none⟩ = some (.slice A args.length cap) := HG2.out.cell 12
            go_wp2_with fail
            go_loopw [37] (fun i wr => FitRel C n (d + 1) args w i wr) (fun i _ => args.length - (intOf i).toNat)
            case atStart => exact ⟨0, Nat.zero_le _, rfl, by simp [sizePs]; omega, by simp [fitPs], by have := HC2.out; simpa [sizePs] using this, HK2.out⟩
            case round =>
              obtain ⟨k, hk, rfl, hsum, hfk, hCk, hkk⟩ := hrel
              have HCK := Lib.hid hCk
              have HKK := Lib.hid hkk
              have HFK := Lib.hid hfk
              clear hCk hkk hfk
              by_cases hlt : k < args.length
              · obtain ⟨g, o, rfl, hgB, hc⟩ := HAT.out (by omega)
                have hold : Old B w wr := HKK.out.old (by omega) (fun i hi hk => by unfold Kone at hk; omega)
                obtain ⟨q, hq⟩ : ∃ q, args[k]? = some q := ⟨_, List.getElem?_eq_getElem hlt⟩
                obtain ⟨sq, hqi, hqc⟩ := hc.get hq
                have HQI := Lib.hid (PIn.old hold (Nat.le_refl _) _ _ hqi)
                have HQC := Lib.hid (hqc.old hgB hold)
                have hmem := List.mem_of_getElem? hq
                have HST := Lib.hid (sizePs_take_succ args k q hq)
                have HSL := Lib.hid (sizePs_take_le args (k + 1))
                have HFT := Lib.hid (fitPs_take_succ (d + 1) args k q hq)
                have HMEM := Lib.hid hmem
                have hqn := q.cells_length sq
                have hqo := PIn.one hqi
                have HI : Hid ((Tryz.prog.info? 54).map (·.size) = some (q.cells sq).length) := Lib.hid (by rw [hqn]; kernel_rfl)
                have HI2 : Hid ((Tryz.prog.info? 54).map (·.size) = some (q.cells sq).toArray.size) := Lib.hid (by rw [List.size_toArray, hqn]; kernel_rfl)
                have HZ : Hid ((q.cells sq).toArray.size = 13) := Lib.hid (by rw [List.size_toArray, hqn])
                have HO : Hid ((q.cells sq).toArray.all (·.oneCell') = true) := Lib.hid (by simpa using hqo)
                have HQV : Hid (q.v sq = .agg (q.cells sq).toArray) := Lib.hid (q.v_cells sq)
                have hCl2 := HCK.out.lt
                have hkq : Kept Kno wr (wr.alloc (.cells (q.cells sq).toArray 54)) := (Kept.refl _ _).alloc _
                have HCC := Lib.hid (HIH.out q hmem (n + 1 + sizePs (args.take k)) sq _ h2 (PIn.old (hkq.old (B := B) (by omega) (fun _ _ h => h)) (Nat.le_refl _) _ _ HQI.out) (HCK.out.kept hkq (fun h => h)) hsum)
                have HKQ := Lib.hid (HKK.out.then0 hkq)
                have hk0 : (0 : Int) ≤ (k : Int) := by omega
                have hk9 : (k : Int) < (args.length : Int) := by omega
                have hwd : IntKind.i64.wrap ((d : Int) + 1) = (d : Int) + 1 := IntWalk.i64_in _ (by omega)
                clear hqc hqi hq hmem hold hc hqn hqo hkq
                go_wp2_with (first
                  | (refine wpList_load_at rfl 54 (.tmp 39) rfl g (o + k * 13) (q.cells sq) _ rfl HQC.out Tryz.underlying54 rfl HI.out ?_)
                  | (refine wpList_store_new rfl 54 (.tmp 8) (.tmp 40) rfl _ (q.cells sq).toArray rfl rfl HI2.out (by rw [HZ.out]; rfl) HO.out ?_)
                  | (refine wpList_load_row rfl 54 (.tmp 8) rfl wr.heap.size rfl 54 (q.cells sq).toArray (0, 0) _ (Blk.new wr _ _) Tryz.underlying54 rfl HI2.out ?_))
                rw [← HQV.out]
                refine HCC.out.mono ?_
                rintro e w6 ⟨n', rfl, hC6, hk6, hb6⟩
                have HC6 := Lib.hid hC6
                have HK6 := Lib.hid (HKQ.out.trans hk6 (fun _ _ h => h))
                cases hres : (decide (n + 1 + sizePs (args.take k) + sizeP q ≤ 24) && fitP (d + 1) q) with
                | true =>
                  have hn' := hb6 hres
                  subst hn'
                  simp only [Bool.and_eq_true, decide_eq_true_eq] at hres
                  have HRES := Lib.hid hres
                  clear hres hC6 hk6 hb6 hwd
                  go_wp2
                  go_roundw
                  case rel =>
                    refine ⟨k + 1, by omega, by go_num, by rw [HST.out]; have := HRES.out.1; omega, by rw [HFT.out, HFK.out, HRES.out.2]; rfl, ?_, HK6.out⟩
                    have := HC6.out
                    rw [HST.out, ← Nat.add_assoc]
                    exact this
                  case measure => simp [intOf]; omega
                | false =>
                  have hwhy : (decide (n + sizeP (.mk op cmp ⟨lk, li, ⟨la, lb, lc⟩⟩ ⟨rk, ri, ⟨ra, rb, rc⟩⟩ args) ≤ 24) && fitP d (.mk op cmp ⟨lk, li, ⟨la, lb, lc⟩⟩ ⟨rk, ri, ⟨ra, rb, rc⟩⟩ args)) = false := by
                    cases hall : (decide (n + sizeP (.mk op cmp ⟨lk, li, ⟨la, lb, lc⟩⟩ ⟨rk, ri, ⟨ra, rb, rc⟩⟩ args) ≤ 24) && fitP d (.mk op cmp ⟨lk, li, ⟨la, lb, lc⟩⟩ ⟨rk, ri, ⟨ra, rb, rc⟩⟩ args)) with
                    | false => rfl
                    | true =>
                      rw [HFP.out, HSZ.out] at hall
                      simp only [Bool.and_eq_true, decide_eq_true_eq] at hall
                      have h3 := HSL.out
                      rw [HST.out] at h3
                      have h4 := fitPs_mem hall.2.2 HMEM.out
                      rw [h4, Bool.and_true] at hres
                      have := of_decide_eq_false hres
                      omega
                  clear hres hC6 hk6 hb6 hwd
                  have hx : Fits C n (sizeP (.mk op cmp ⟨lk, li, ⟨la, lb, lc⟩⟩ ⟨rk, ri, ⟨ra, rb, rc⟩⟩ args)) (decide (n + sizeP (.mk op cmp ⟨lk, li, ⟨la, lb, lc⟩⟩ ⟨rk, ri, ⟨ra, rb, rc⟩⟩ args) ≤ 24) && fitP d (.mk op cmp ⟨lk, li, ⟨la, lb, lc⟩⟩ ⟨rk, ri, ⟨ra, rb, rc⟩⟩ args)) w (.returned (.bool false)) w6 := ⟨_, by rw [hwhy], HC6.out, HK6.out, fun h => by rw [hwhy] at h; cases h⟩
                  have HX := Lib.hid hx
                  clear hx hwhy
                  go_wp2
                  go_ret
                  exact HX.out
              · have hk9 : ¬ (k : Int) < (args.length : Int) := by omega
                have htk : args.take k = args := List.take_of_length_le (by omega)
                have hwhy : (decide (n + sizeP (.mk op cmp ⟨lk, li, ⟨la, lb, lc⟩⟩ ⟨rk, ri, ⟨ra, rb, rc⟩⟩ args) ≤ 24) && fitP d (.mk op cmp ⟨lk, li, ⟨la, lb, lc⟩⟩ ⟨rk, ri, ⟨ra, rb, rc⟩⟩ args)) = true := by
                  have h3 := HFK.out
                  rw [htk] at h3 hsum
                  rw [HFP.out, HSZ.out, HF1.out, HF2.out, h3, decide_eq_true h2, decide_eq_true (by omega)]
                  rfl
                have hx : Fits C n (sizeP (.mk op cmp ⟨lk, li, ⟨la, lb, lc⟩⟩ ⟨rk, ri, ⟨ra, rb, rc⟩⟩ args)) (decide (n + sizeP (.mk op cmp ⟨lk, li, ⟨la, lb, lc⟩⟩ ⟨rk, ri, ⟨ra, rb, rc⟩⟩ args) ≤ 24) && fitP d (.mk op cmp ⟨lk, li, ⟨la, lb, lc⟩⟩ ⟨rk, ri, ⟨ra, rb, rc⟩⟩ args)) w (.returned (.bool true)) wr := ⟨_, by rw [hwhy], HCK.out, HKK.out, fun h => by rw [htk, HSZ.out]; congr 1; omega⟩
                have HX := Lib.hid hx
                clear hx hwhy htk
                go_wp2
                go_ret
                exact HX.out
      · have h1' : ¬ (24 : Int) < (n : Int) + 1 := by omega
        have h2' : (8 : Int) < (d : Int) := by omega
        have hwhy : (decide (n + sizeP (.mk op cmp ⟨lk, li, ⟨la, lb, lc⟩⟩ ⟨rk, ri, ⟨ra, rb, rc⟩⟩ args) ≤ 24) && fitP d (.mk op cmp ⟨lk, li, ⟨la, lb, lc⟩⟩ ⟨rk, ri, ⟨ra, rb, rc⟩⟩ args)) = false := by rw [HFP.out, decide_eq_false h2]; simp
        have hx : Fits C n (sizeP (.mk op cmp ⟨lk, li, ⟨la, lb, lc⟩⟩ ⟨rk, ri, ⟨ra, rb, rc⟩⟩ args)) (decide (n + sizeP (.mk op cmp ⟨lk, li, ⟨la, lb, lc⟩⟩ ⟨rk, ri, ⟨ra, rb, rc⟩⟩ args) ≤ 24) && fitP d (.mk op cmp ⟨lk, li, ⟨la, lb, lc⟩⟩ ⟨rk, ri, ⟨ra, rb, rc⟩⟩ args)) w (.returned (.bool false)) wS := ⟨_, by rw [hwhy], HCS.out, HKS.out, fun h => by rw [hwhy] at h; cases h⟩
        have HX := Lib.hid hx
        clear hx hwhy
        go_wp2
        go_ret
        exact HX.out
    · have h1' : (24 : Int) < (n : Int) + 1 := by omega
      have hwhy : (decide (n + sizeP (.mk op cmp ⟨lk, li, ⟨la, lb, lc⟩⟩ ⟨rk, ri, ⟨ra, rb, rc⟩⟩ args) ≤ 24) && fitP d (.mk op cmp ⟨lk, li, ⟨la, lb, lc⟩⟩ ⟨rk, ri, ⟨ra, rb, rc⟩⟩ args)) = false := by rw [HSZ.out, decide_eq_false (by omega)]; rfl
      have hx : Fits C n (sizeP (.mk op cmp ⟨lk, li, ⟨la, lb, lc⟩⟩ ⟨rk, ri, ⟨ra, rb, rc⟩⟩ args)) (decide (n + sizeP (.mk op cmp ⟨lk, li, ⟨la, lb, lc⟩⟩ ⟨rk, ri, ⟨ra, rb, rc⟩⟩ args) ≤ 24) && fitP d (.mk op cmp ⟨lk, li, ⟨la, lb, lc⟩⟩ ⟨rk, ri, ⟨ra, rb, rc⟩⟩ args)) w (.returned (.bool false)) wS := ⟨_, by rw [hwhy], HCS.out, HKS.out, fun h => by rw [hwhy] at h; cases h⟩
      have HX := Lib.hid hx
      clear hx hwhy
      go_wp2
      go_ret
      exact HX.out

theorem predicateFits_any (p : Prd) (d C B n : Nat) (s : Value) (w : World) (hp : PIn w B p s) (hB : B ≤ C) (hC : Blk w C 3 #[.int .i64 (n : Int)]) (hn : n ≤ 24) (hd : d ≤ 9) :
    Calls Tryz.prog 202 #[p.v s, .int .i64 d, .pointer (some ⟨C, 0, none⟩)] w (Fits C n (sizeP p) (decide (n + sizeP p ≤ 24) && fitP d p) w) := predicateFits_n (sizeP p) p (Nat.le_refl _) d C B n s w hp hB hC hn hd

end Go.Proofs.YtffdaohmalmkfaaGreat
