/-
  Contracts and plain laws that the claim's theorem rests on, some texts in one file.
-/
import Derived.Test.YtffdaohmalmkfaaGreatM9
import Derived.Deep.WholeRow
/-
  Packet: the writer: predicates.
-/
namespace Go.Proofs.YtffdaohmalmkfaaGreat
open Go.RowKit
set_option linter.unusedVariables false

theorem encPs_take_le (ps : List Prd) (k : Nat) : (encPs (ps.take k)).length ≤ (encPs ps).length := by
  have h := encPs_append (ps.take k) (ps.drop k)
  rw [List.take_append_drop] at h
  rw [h, List.length_append]
  omega
theorem encPs_take_succ (ps : List Prd) (k : Nat) (p : Prd) (h : ps[k]? = some p) : encPs (ps.take (k + 1)) = encPs (ps.take k) ++ encP p := by
  rw [List.take_add_one, h, encPs_append]
  simp [encPs]
theorem sizePs_mem {ps : List Prd} {p : Prd} (h : p ∈ ps) : sizeP p ≤ sizePs ps := by
  induction ps with
  | nil => cases h
  | cons q ps ih =>
    simp only [sizePs]
    rcases List.mem_cons.1 h with rfl | h
    · omega
    · have := ih h; omega
theorem fitPs_mem {d : Nat} {ps : List Prd} {p : Prd} (hf : fitPs d ps = true) (h : p ∈ ps) : fitP d p = true := by
  induction ps with
  | nil => cases h
  | cons q ps ih =>
    simp only [fitPs, Bool.and_eq_true] at hf
    rcases List.mem_cons.1 h with rfl | h
    · exact hf.1
    · exact ih hf.2 h

def PredRel (D : Nat) (v : Value) (pre : List UInt8) (args : List Prd) (w : World) (i : Value) (wr : World) : Prop :=
  ∃ (k : Nat) (v' : Value), k ≤ args.length ∧ i = .int .i64 k ∧ Wr wr D v' (pre ++ encPs (args.take k)) ∧ WStep D v w v' wr

set_option maxRecDepth 100000 in
set_option maxHeartbeats 8000000 in
theorem wpredicate_n (N : Nat) : ∀ (p : Prd), sizeP p ≤ N → ∀ (d D B : Nat) (v s : Value) (l : List UInt8) (w : World), Wr w D v l → PIn w B p s → B ≤ D → fitP d p = true → l.length + (encP p).length ≤ 800000000000 →
    Calls Tryz.prog 204 #[.pointer (some ⟨D, 0, none⟩), p.v s] w (WrOk D v (l ++ encP p) w) := by
  induction N with
  | zero => intro p hp; have := sizeP_pos p; omega
  | succ N IH =>
    intro p hsz d D B v s l w h hp hB hf hl
    obtain ⟨op, cmp, lo, ro, args⟩ := p
    have H := Lib.hid h
    simp only [sizeP] at hsz
    simp only [fitP, Bool.and_eq_true] at hf
    simp only [PIn] at hp
    obtain ⟨p1, p2, p3, p4, A, cap, rfl, hcap, hmax, -, hlow, hat⟩ := hp
    obtain ⟨⟨⟨-, f1⟩, f2⟩, f3⟩ := hf
    have HP1 := Lib.hid p1
    have HP2 := Lib.hid p2
    have HP3 := Lib.hid p3
    have HP4 := Lib.hid p4
    have HF1 := Lib.hid f1
    have HF2 := Lib.hid f2
    have HF3 := Lib.hid f3
    have HAT := Lib.hid hat
    have hEnc : encP (.mk op cmp lo ro args) = inum op ++ inum cmp ++ encO lo ++ encO ro ++ leb args.length ++ encPs args := by simp only [encP]
    have HE := Lib.hid hEnc
    have HIH : Hid (∀ (p : Prd), p ∈ args → ∀ (s v : Value) (l : List UInt8) (w : World), Wr w D v l → PIn w B p s → l.length + (encP p).length ≤ 800000000000 → Calls Tryz.prog 204 #[.pointer (some ⟨D, 0, none⟩), p.v s] w (WrOk D v (l ++ encP p) w)) := Lib.hid (by
      intro p hpm s v l w h1 h2 h3
      exact IH p (by have := sizePs_mem hpm; omega) (d + 1) D B v s l w h1 h2 hB (fitPs_mem f3 hpm) h3)
    rw [hEnc] at hl
    simp only [List.length_append] at hl
    have i1 := (inum_length op).2
    have i2 := (inum_length cmp).2
    have i3 := encO_length lo f1
    have i4 := encO_length ro f2
    have i5 := (leb_length args.length).2
    have hmax' : cap ≤ 9223372036854775807 := by simpa only [maxLen] using hmax
    have HL : Hid (l.length + (inum op).length + (inum cmp).length + (encO lo).length + (encO ro).length + (leb args.length).length + (encPs args).length ≤ 800000000000) := Lib.hid (by omega)
    obtain ⟨lk, li, ⟨la, lb, lc⟩⟩ := lo
    obtain ⟨rk, ri, ⟨ra, rb, rc⟩⟩ := ro
    simp only [Prd.v]
    clear IH h p1 p2 p3 p4 f1 f2 f3 hat hlow hEnc hmax hl hsz
    go_enter Tryz.func204, Tryz.ntmps204
    go_wp2_with fail
    obtain ⟨wA, hA⟩ : ∃ wA, wA = w.alloc (.cells #[.int .i64 op, .int .i64 cmp, .int .i64 lk, .int .i64 li, .int .i64 la, .int .i64 lb, .string lc, .int .i64 rk, .int .i64 ri, .int .i64 ra, .int .i64 rb, .string rc, .slice A args.length cap] 54) := ⟨_, rfl⟩
    rw [← hA]
    have hkA : Kept Kno w wA := by rw [hA]; exact (Kept.refl _ _).alloc _
    have HG : Hid (Gd wA D v w.heap.size 54 #[.int .i64 op, .int .i64 cmp, .int .i64 lk, .int .i64 li, .int .i64 la, .int .i64 lb, .string lc, .int .i64 rk, .int .i64 ri, .int .i64 ra, .int .i64 rb, .string rc, .slice A args.length cap]) := Lib.hid (by rw [hA]; exact Gd.new H.out _ _)
    have HW0 := Lib.hid (H.out.kept hkA)
    have HS0 : Hid (WStep D v w v wA) := Lib.hid (.new hkA)
    clear hA hkA
    refine (wnumber_any D v l op wA HW0.out HP1.out (by have := HL.out; omega)).mono ?_
    rintro e w1 ⟨v1, rfl, hw1, hs1⟩
    have HG1 := Lib.hid (HG.out.step hs1)
    have HW1 := Lib.hid hw1
    have HS1 := Lib.hid (HS0.out.trans hs1)
    have c1 : w1.cell? ⟨w.heap.size, 1, none⟩ = some (.int .i64 cmp) := HG1.out.b.cell 1
    clear hw1 hs1 HG HW0 HS0
    go_wp2_with fail
    refine (wnumber_any D v1 _ cmp w1 HW1.out HP2.out (by have := HL.out; simp only [List.length_append]; omega)).mono ?_
    rintro e w2 ⟨v2, rfl, hw2, hs2⟩
    have HG2 := Lib.hid (HG1.out.step hs2)
    have HW2 := Lib.hid hw2
    have HS2 := Lib.hid (HS1.out.trans hs2)
    have c2 : w2.cell? ⟨w.heap.size, 2, none⟩ = some (.int .i64 lk) := HG2.out.b.cell 2
    have c3 : w2.cell? ⟨w.heap.size, 3, none⟩ = some (.int .i64 li) := HG2.out.b.cell 3
    have c4 : w2.cell? ⟨w.heap.size, 4, none⟩ = some (.int .i64 la) := HG2.out.b.cell 4
    have c5 : w2.cell? ⟨w.heap.size, 5, none⟩ = some (.int .i64 lb) := HG2.out.b.cell 5
    have c6 : w2.cell? ⟨w.heap.size, 6, none⟩ = some (.string lc) := HG2.out.b.cell 6
    clear hw2 hs2 HG1 HW1 HS1 c1
    go_wp2_with fail
    refine (woperand_any D v2 _ ⟨lk, li, ⟨la, lb, lc⟩⟩ w2 HW2.out HP3.out HF1.out (by have := HL.out; simp only [List.length_append]; omega)).mono ?_
    rintro e w3 ⟨v3, rfl, hw3, hs3⟩
    have HG3 := Lib.hid (HG2.out.step hs3)
    have HW3 := Lib.hid hw3
    have HS3 := Lib.hid (HS2.out.trans hs3)
    clear hw3 hs3 HG2 HW2 HS2 c2 c3 c4 c5 c6
    have c7 : w3.cell? ⟨w.heap.size, 7, none⟩ = some (.int .i64 rk) := HG3.out.b.cell 7
    have c8 : w3.cell? ⟨w.heap.size, 8, none⟩ = some (.int .i64 ri) := HG3.out.b.cell 8
    have c9 : w3.cell? ⟨w.heap.size, 9, none⟩ = some (.int .i64 ra) := HG3.out.b.cell 9
    have c10 : w3.cell? ⟨w.heap.size, 10, none⟩ = some (.int .i64 rb) := HG3.out.b.cell 10
    have c11 : w3.cell? ⟨w.heap.size, 11, none⟩ = some (.string rc) := HG3.out.b.cell 11
    go_wp2_with fail
    refine (woperand_any D v3 _ ⟨rk, ri, ⟨ra, rb, rc⟩⟩ w3 HW3.out HP4.out HF2.out (by have := HL.out; simp only [List.length_append]; omega)).mono ?_
    rintro e w4 ⟨v4, rfl, hw4, hs4⟩
    have HG4 := Lib.hid (HG3.out.step hs4)
    have HW4 := Lib.hid hw4
    have HS4 := Lib.hid (HS3.out.trans hs4)
    have c12 : w4.cell? ⟨w.heap.size, 12, none⟩ = some (.slice A args.length cap) := HG4.out.b.cell 12
    clear hw4 hs4 HG3 HW3 HS3 c7 c8 c9 c10 c11
    go_wp2_with fail
    refine (wcount_any D v4 _ args.length w4 HW4.out (by omega) (by have := HL.out; simp only [List.length_append]; omega)).mono ?_
    rintro e w5 ⟨v5, rfl, hw5, hs5⟩
    have HG5 := Lib.hid (HG4.out.step hs5)
    have HS5 := Lib.hid (HS4.out.trans hs5)
    have e12 : w5.cell? ⟨w.heap.size, 12, none⟩ = some (.slice A args.length cap) := HG5.out.b.cell 12
    obtain ⟨L, hLe⟩ : ∃ L, L = l ++ inum op ++ inum cmp ++ encO ⟨lk, li, ⟨la, lb, lc⟩⟩ ++ encO ⟨rk, ri, ⟨ra, rb, rc⟩⟩ ++ leb args.length := ⟨_, rfl⟩
    rw [← hLe] at hw5
    have HW5 := Lib.hid hw5
    have HLL : Hid (L.length + (encPs args).length ≤ 800000000000) := Lib.hid (by rw [hLe]; have := HL.out; simp only [List.length_append]; omega)
    have HRES : Hid (l ++ encP (.mk op cmp ⟨lk, li, ⟨la, lb, lc⟩⟩ ⟨rk, ri, ⟨ra, rb, rc⟩⟩ args) = L ++ encPs args) := Lib.hid (by rw [HE.out, hLe]; simp only [List.append_assoc])
    clear hw5 hs5 HG4 HW4 HS4 c12 hLe HL i1 i2 i3 i4 i5 HE
    go_wp2_with fail
    go_loopw [30] (fun i wr => PredRel D v L args w i wr) (fun i _ => args.length - (intOf i).toNat)
    case atStart => exact ⟨0, v5, Nat.zero_le _, rfl, by simpa [encPs] using HW5.out, HS5.out⟩
    case round =>
      obtain ⟨k, v', hk, rfl, hwr, hsr⟩ := hrel
      have HWR := Lib.hid hwr
      have HSR := Lib.hid hsr
      clear hwr hsr
      by_cases hlt : k < args.length
      · obtain ⟨g, o, rfl, hgB, hc⟩ := HAT.out (by omega)
        have hold := HSR.out.old H.out hB
        obtain ⟨q, hq⟩ : ∃ q, args[k]? = some q := ⟨_, List.getElem?_eq_getElem hlt⟩
        obtain ⟨sq, hqi, hqc⟩ := hc.get hq
        have hqi' := PIn.old hold (Nat.le_refl _) _ _ hqi
        have hqc' := hqc.old hgB hold
        have hmem := List.mem_of_getElem? hq
        have HQ := Lib.hid hq
        have HTK := Lib.hid (encPs_take_succ args k q hq)
        have HTL : Hid ((L ++ encPs (args.take k)).length + (encP q).length ≤ 800000000000) := Lib.hid (by
          have h1 := encPs_take_le args (k + 1)
          rw [encPs_take_succ args k q hq, List.length_append] at h1
          have := HLL.out
          rw [List.length_append]
          omega)
        have HC := Lib.hid (HIH.out q hmem sq v' (L ++ encPs (args.take k)))
        have HQI := Lib.hid hqi'
        have hsl : ∃ A' n' cap', sq = .slice A' n' cap' := by
          cases q
          simp only [PIn] at hqi'
          obtain ⟨-, -, -, -, A', cap', h, -⟩ := hqi'
          exact ⟨_, _, _, h⟩
        obtain ⟨A', n', cap', rfl⟩ := hsl
        obtain ⟨qo, qc, ⟨qlk, qli, ⟨qla, qlb, qlc⟩⟩, ⟨qrk, qri, ⟨qra, qrb, qrc⟩⟩, qa⟩ := q
        simp only [Prd.cells] at hqc'
        have d0 := hqc' 0 _ rfl
        simp only [Nat.add_zero] at d0
        have d1 := hqc' 1 _ rfl
        have d2 := hqc' 2 _ rfl
        rw [show o + k * 13 + 2 = o + k * 13 + 1 + 1 from rfl] at d2
        have d3 := hqc' 3 _ rfl
        rw [show o + k * 13 + 3 = o + k * 13 + 1 + 1 + 1 from rfl] at d3
        have d4 := hqc' 4 _ rfl
        rw [show o + k * 13 + 4 = o + k * 13 + 1 + 1 + 1 + 1 from rfl] at d4
        have d5 := hqc' 5 _ rfl
        rw [show o + k * 13 + 5 = o + k * 13 + 1 + 1 + 1 + 1 + 1 from rfl] at d5
        have d6 := hqc' 6 _ rfl
        rw [show o + k * 13 + 6 = o + k * 13 + 1 + 1 + 1 + 1 + 1 + 1 from rfl] at d6
        have d7 := hqc' 7 _ rfl
        rw [show o + k * 13 + 7 = o + k * 13 + 1 + 1 + 1 + 1 + 1 + 1 + 1 from rfl] at d7
        have d8 := hqc' 8 _ rfl
        rw [show o + k * 13 + 8 = o + k * 13 + 1 + 1 + 1 + 1 + 1 + 1 + 1 + 1 from rfl] at d8
        have d9 := hqc' 9 _ rfl
        rw [show o + k * 13 + 9 = o + k * 13 + 1 + 1 + 1 + 1 + 1 + 1 + 1 + 1 + 1 from rfl] at d9
        have d10 := hqc' 10 _ rfl
        rw [show o + k * 13 + 10 = o + k * 13 + 1 + 1 + 1 + 1 + 1 + 1 + 1 + 1 + 1 + 1 from rfl] at d10
        have d11 := hqc' 11 _ rfl
        rw [show o + k * 13 + 11 = o + k * 13 + 1 + 1 + 1 + 1 + 1 + 1 + 1 + 1 + 1 + 1 + 1 from rfl] at d11
        have d12 := hqc' 12 _ rfl
        rw [show o + k * 13 + 12 = o + k * 13 + 1 + 1 + 1 + 1 + 1 + 1 + 1 + 1 + 1 + 1 + 1 + 1 from rfl] at d12
        have hk0 : (0 : Int) ≤ (k : Int) := by omega
        have hk9 : (k : Int) < (args.length : Int) := by omega
        clear hqc hqc' hqi hqi' hq hmem hold hc
        go_wp2_with fail
        have hkq : Kept Kno wr (wr.alloc (.cells #[.int .i64 qo, .int .i64 qc, .int .i64 qlk, .int .i64 qli, .int .i64 qla, .int .i64 qlb, .string qlc, .int .i64 qrk, .int .i64 qri, .int .i64 qra, .int .i64 qrb, .string qrc, .slice A' n' cap'] 54)) := (Kept.refl _ _).alloc _
        refine (HC.out _ (HWR.out.kept hkq) (PIn.old (hkq.old (Nat.le_trans hB (Nat.le_of_lt HWR.out.lt)) (fun _ _ h => h)) (Nat.le_refl _) _ _ HQI.out) HTL.out).mono ?_
        rintro e w6 ⟨v6, rfl, hw6, hs6⟩
        have HW6 := Lib.hid hw6
        have HS6 := Lib.hid ((HSR.out.then0 hkq).trans hs6)
        clear hw6 hs6 hkq d0 d1 d2 d3 d4 d5 d6 d7 d8 d9 d10 d11 d12
        go_wp2
        go_roundw
        case rel =>
          refine ⟨k + 1, v6, by omega, by go_num, ?_, HS6.out⟩
          rw [HTK.out, ← List.append_assoc]
          exact HW6.out
        case measure => simp [intOf]; omega
      · have hk9 : ¬ (k : Int) < (args.length : Int) := by omega
        have hx : WrOk D v (L ++ encPs args) w (.returned (.tuple #[])) wr := ⟨v', rfl, by have := HWR.out; rw [List.take_of_length_le (by omega)] at this; exact this, HSR.out⟩
        have HX := Lib.hid hx
        clear hx
        go_wp2
        go_end0
        rw [HRES.out]
        exact HX.out

theorem wpredicate_any (p : Prd) (d D B : Nat) (v s : Value) (l : List UInt8) (w : World) (h : Wr w D v l) (hp : PIn w B p s) (hB : B ≤ D) (hf : fitP d p = true) (hl : l.length + (encP p).length ≤ 800000000000) :
    Calls Tryz.prog 204 #[.pointer (some ⟨D, 0, none⟩), p.v s] w (WrOk D v (l ++ encP p) w) := wpredicate_n (sizeP p) p (Nat.le_refl _) d D B v s l w h hp hB hf hl

end Go.Proofs.YtffdaohmalmkfaaGreat
/-
  Laws of the walk: a whole struct loaded out of a row, and stored into a new variable. No program in sight.
-/
namespace Go.Proofs.YtffdaohmalmkfaaGreat
open Go.RowKit
set_option linter.unusedVariables false

section
variable {P : Program}
theorem run_loadVar_at (w : World) (ty : TypeId) (g o : Nat) (cs : List Value) (d : TypeDesc) (hc : CellsAt w g o cs) (hu : P.underlying ty = some d) (hd : (match d with | .struct _ | .array _ _ => true | _ => false) = true) (hi : (P.info? ty).map (·.size) = some cs.length) :
    (loadVar ty ⟨g, o, none⟩).run P w = .ok (.agg cs.toArray) w := by
  have h := run_loadCells_list (P := P) w ⟨g, o, none⟩ cs (fun j v hv => by rw [add_lit0]; exact hc j v hv)
  cases hq : P.info? ty with
  | none => simp [hq] at hi
  | some i =>
    have hs : cs.length = i.size := by simp [hq] at hi; omega
    rw [hs] at h
    cases d <;> simp at hd <;> simp [loadVar, isAgg, run_underlying hu, sizeOf, typeInfo, hq, h]

theorem wpList_load_at {ops : Array Oper} {rest : List Oper} {o : Oper} {a : Act} {w : World} {Q : Exit → Act → World → Prop} (hgd : o.guard = none) (ty : TypeId) (x : Operand) (ho : o.op = .load ty x)
    (g off : Nat) (cs : List Value) (d : TypeDesc) (hx : a.eval x = .pointer (some ⟨g, off, none⟩)) (hc : CellsAt w g off cs)
    (hu : P.underlying ty = some d) (hd : (match d with | .struct _ | .array _ _ => true | _ => false) = true) (hi : (P.info? ty).map (·.size) = some cs.length)
    (h : wpList P ops Q rest (a.put o.dst (.agg cs.toArray)) w) : wpList P ops Q (o :: rest) a w := by
  refine wpList_plain hgd fun K hK => ?_
  have hr := run_loadVar_at (P := P) w ty g off cs d hc hu hd hi
  unfold Oper.wp execOp
  simp only [ho, hx, Instr.loadAt, Instr.sureAddr, Sem.run_bind, Sem.run_pure, Result.andThen_ok, hr]
  exact hK _ _ h

theorem wpList_store_new {ops : Array Oper} {rest : List Oper} {o : Oper} {a : Act} {w : World} {Q : Exit → Act → World → Prop} (hgd : o.guard = none) (ty : TypeId) (p x : Operand) (ho : o.op = .store ty p x)
    (c c' : Array Value) (hp : a.eval p = .pointer (some ⟨w.heap.size, 0, none⟩)) (hx : a.eval x = .agg c') (hi : (P.info? ty).map (·.size) = some c'.size) (hz : c.size = c'.size) (h1 : c'.all (·.oneCell') = true)
    (h : wpList P ops Q rest (a.put o.dst undef) (w.alloc (.cells c' ty))) : wpList P ops Q (o :: rest) a (w.alloc (.cells c ty)) := by
  refine wpList_plain hgd fun K hK => ?_
  have hr := run_storeAt_new (P := P) w ty c c' hi hz h1
  unfold Oper.wp execOp
  simp only [ho, hp, hx, Sem.run_bind, Sem.run_pure, Result.andThen_ok, hr]
  exact hK _ _ h
end
end Go.Proofs.YtffdaohmalmkfaaGreat
