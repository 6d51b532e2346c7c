/-
  Packet: the writer: queries. (Printed by gen_pakl.py.)
-/
import Derived.Test.YtffdaohmalmkfaaGreatW5
import Derived.Test.YtffdaohmalmkfaaGreatW6
set_option linter.unusedSimpArgs false
set_option linter.unusedVariables false
namespace Go.Proofs.YtffdaohmalmkfaaGreat
open Go.RowKit
set_option linter.unusedVariables false

theorem encQs_take_le (ps : List Qry) (k : Nat) : (encQs (ps.take k)).length ≤ (encQs ps).length := by
  have h := encQs_append (ps.take k) (ps.drop k)
  rw [List.take_append_drop] at h
  rw [h, List.length_append]
  omega
theorem encQs_take_succ (ps : List Qry) (k : Nat) (p : Qry) (h : ps[k]? = some p) : encQs (ps.take (k + 1)) = encQs (ps.take k) ++ encQ p := by
  rw [List.take_add_one, h, encQs_append]
  simp [encQs]
theorem sizeQs_mem {ps : List Qry} {p : Qry} (h : p ∈ ps) : sizeQ p ≤ sizeQs ps := by
  induction ps with
  | nil => cases h
  | cons q ps ih =>
    simp only [sizeQs]
    rcases List.mem_cons.1 h with rfl | h
    · omega
    · have := ih h; omega
theorem fitQs_mem {d : Nat} {ps : List Qry} {p : Qry} (hf : fitQs d ps = true) (h : p ∈ ps) : fitQ d p = true := by
  induction ps with
  | nil => cases h
  | cons q ps ih =>
    simp only [fitQs, Bool.and_eq_true] at hf
    rcases List.mem_cons.1 h with rfl | h
    · exact hf.1
    · exact ih hf.2 h

/-- A loop that writes the elements of a list, one after another. -/
def LoopRel (n D : Nat) (v : Value) (f : Nat → List UInt8) (w : World) (i : Value) (wr : World) : Prop :=
  ∃ (k : Nat) (v' : Value), k ≤ n ∧ i = .int .i64 k ∧ Wr wr D v' (f k) ∧ WStep D v w v' wr
def fOn (p : Int × Int) : List UInt8 := inum p.1 ++ inum p.2
def fOrd (p : Int × Bool) : List UInt8 := inum p.1 ++ ibool p.2
theorem flatMap_take_succ {α : Type} (f : α → List UInt8) (l : List α) (k : Nat) (x : α) (h : l[k]? = some x) : (l.take (k + 1)).flatMap f = (l.take k).flatMap f ++ f x := by
  rw [List.take_add_one, h, List.flatMap_append]
  simp
theorem pair_get {α : Type} (f g : α → Value) (l : List α) (k : Nat) (x : α) (h : l[k]? = some x) : (l.flatMap fun p => [f p, g p])[k * 2]? = some (f x) ∧ (l.flatMap fun p => [f p, g p])[k * 2 + 1]? = some (g x) := by
  induction l generalizing k with
  | nil => simp at h
  | cons q l ih =>
    cases k with
    | zero => simp at h; subst h; simp
    | succ k =>
      have h2 := ih k (by simpa using h)
      have e1 : (k + 1) * 2 = k * 2 + 1 + 1 := by omega
      have e2 : (k + 1) * 2 + 1 = k * 2 + 1 + 1 + 1 := by omega
      rw [e1]
      simpa using h2

theorem Qry.cells_length (q : Qry) (s : QS) : (q.cells s).length = 21 := by
  obtain ⟨_, _, ⟨_, _, _, _, _⟩, _, _, _, _, _, _⟩ := q
  rfl
theorem Qry.v_cells (q : Qry) (s : QS) : q.v s = .agg (q.cells s).toArray := by
  obtain ⟨_, _, ⟨_, _, _, _, _⟩, _, _, _, _, _, _⟩ := q
  rfl
theorem QIn.forms {w : World} {B : Nat} {q : Qry} {s : QS} (h : QIn w B q s) : ∃ wA wn wc cA cn cc oA on oc gA gn gc dA dn dc aA an ac, s = ⟨.slice wA wn wc, .slice cA cn cc, .slice oA on oc, .slice gA gn gc, .slice dA dn dc, .slice aA an ac⟩ := by
  obtain ⟨op, table, wh, cols, on, grp, ord, lim, args⟩ := q
  obtain ⟨swa, scols, son, sgrp, sord, sargs⟩ := s
  simp only [QIn] at h
  obtain ⟨-, -, -, h4, ⟨Ca, cac, rfl, -⟩, -, ⟨Oa, oac, rfl, -⟩, -, ⟨Ga, gac, rfl, -⟩, -, ⟨Da, dac, rfl, -⟩, -, Aa, aac, rfl, -⟩ := h
  cases wh
  simp only [PIn] at h4
  obtain ⟨-, -, -, -, A', c', rfl, -⟩ := h4
  exact ⟨_, _, _, _, _, _, _, _, _, _, _, _, _, _, _, _, _, _, rfl⟩

theorem QIn.one {w : World} {B : Nat} {q : Qry} {s : QS} (h : QIn w B q s) : ((q.cells s).all (·.oneCell')) = true := by
  obtain ⟨wA, wn, wc, cA, cn, cc, oA, on, oc, gA, gn, gc, dA, dn, dc, aA, an, ac, rfl⟩ := QIn.forms h
  obtain ⟨_, _, ⟨_, _, _, _, _⟩, _, _, _, _, _, _⟩ := q
  rfl

set_option maxRecDepth 100000 in
set_option maxHeartbeats 16000000 in
theorem wquery_n (N : Nat) : ∀ (q : Qry), sizeQ q ≤ N → ∀ (d D B : Nat) (v : Value) (s : QS) (l : List UInt8) (w : World), Wr w D v l → QIn w B q s → B ≤ D → fitQ d q = true → l.length + (encQ q).length ≤ 700000000000 →
    Calls Tryz.prog 110 #[.pointer (some ⟨D, 0, none⟩), q.v s] w (WrOk D v (l ++ encQ q) w) := by
  induction N with
  | zero => intro p hp; have := sizeQ_pos p; omega
  | succ N IH =>
    intro q hsz d D B v s l w h hq hB hf hl
    obtain ⟨op, table, wh, cols, on, grp, ord, lim, args⟩ := q
    obtain ⟨swa, scols, son, sgrp, sord, sargs⟩ := s
    have H := Lib.hid h
    simp only [sizeQ] at hsz
    simp only [fitQ, Bool.and_eq_true] at hf
    simp only [QIn] at hq
    obtain ⟨q1, q2, q3, q4, q5, q6, q7, q8, q9, q10, q11, q12, Aa, aac, rfl, hcap, hmax, -, hlow, hat⟩ := hq
    obtain ⟨⟨-, -, fwh⟩, fqs⟩ := hf
    have HQ1 := Lib.hid q1
    have HQ2 := Lib.hid q2
    have HQ3 := Lib.hid q3
    have HQ4 := Lib.hid q4
    have HQ5 := Lib.hid q5
    have HQ6 := Lib.hid q6
    have HQ7 := Lib.hid q7
    have HQ8 := Lib.hid q8
    have HQ9 := Lib.hid q9
    have HQ10 := Lib.hid q10
    have HQ11 := Lib.hid q11
    have HQ12 := Lib.hid q12
    have HAT := Lib.hid hat
    have hEnc : encQ (.mk op table wh cols on grp ord lim args) = inum op ++ inum table ++ encP wh ++ inums cols ++ leb on.length ++ on.flatMap fOn ++ inums grp ++ leb ord.length ++ ord.flatMap fOrd ++ inum lim ++ leb args.length ++ encQs args := by simp only [encQ]; rfl
    have HE := Lib.hid hEnc
    have HIH : Hid (∀ (p : Qry), p ∈ args → ∀ (s : QS) (v : Value) (l : List UInt8) (w : World), Wr w D v l → QIn w B p s → l.length + (encQ p).length ≤ 700000000000 → Calls Tryz.prog 110 #[.pointer (some ⟨D, 0, none⟩), p.v s] w (WrOk D v (l ++ encQ p) w)) := Lib.hid (by
      intro p hpm s v l w h1 h2 h3
      exact IH p (by have := sizeQs_mem hpm; omega) (d + 1) D B v s l w h1 h2 hB (fitQs_mem fqs hpm) h3)
    rw [hEnc] at hl
    simp only [List.length_append] at hl
    have hmax' : aac ≤ 9223372036854775807 := by simpa only [maxLen] using hmax
    have HL := Lib.hid hl
    obtain ⟨Ca, cac, rfl, hc1, hc2, -⟩ := q5
    obtain ⟨Oa, oac, rfl, ho1, ho2, -⟩ := q7
    obtain ⟨Ga, gac, rfl, hg1, hg2, -⟩ := q9
    obtain ⟨Da, dac, rfl, hd1, hd2, -⟩ := q11
    simp only [maxLen] at hc2 ho2 hg2 hd2
    have hwa : ∃ A' n' c', swa = .slice A' n' c' := by
      cases wh
      simp only [PIn] at q4
      obtain ⟨-, -, -, -, A', c', h, -⟩ := q4
      exact ⟨_, _, _, h⟩
    obtain ⟨Wa, wan, wac, rfl⟩ := hwa
    have HFP : Hid (fitP 1 wh = true) := Lib.hid fwh
    obtain ⟨wo, wc, ⟨lk, li, ⟨la, lb, lc⟩⟩, ⟨rk, ri, ⟨ra, rb, rc⟩⟩, wargs⟩ := wh
    simp only [Qry.v]
    clear IH h q1 q2 q3 q4 q6 q8 q10 q12 fwh fqs hat hlow hEnc hmax hl hsz
    go_enter Tryz.func110, Tryz.ntmps110
    go_wp2_with fail
    obtain ⟨wA, hA⟩ : ∃ wA, wA = w.alloc (.cells #[.int .i64 op, .int .i64 table, .int .i64 wo, .int .i64 wc, .int .i64 lk, .int .i64 li, .int .i64 la, .int .i64 lb, .string lc, .int .i64 rk, .int .i64 ri, .int .i64 ra, .int .i64 rb, .string rc, .slice Wa wan wac, .slice Ca cols.length cac, .slice Oa on.length oac, .slice Ga grp.length gac, .slice Da ord.length dac, .int .i64 lim, .slice Aa args.length aac] 59) := ⟨_, rfl⟩
    rw [← hA]
    have hkA : Kept Kno w wA := by rw [hA]; exact (Kept.refl _ _).alloc _
    have HG0 : Hid (Gd wA D v w.heap.size 59 #[.int .i64 op, .int .i64 table, .int .i64 wo, .int .i64 wc, .int .i64 lk, .int .i64 li, .int .i64 la, .int .i64 lb, .string lc, .int .i64 rk, .int .i64 ri, .int .i64 ra, .int .i64 rb, .string rc, .slice Wa wan wac, .slice Ca cols.length cac, .slice Oa on.length oac, .slice Ga grp.length gac, .slice Da ord.length dac, .int .i64 lim, .slice Aa args.length aac]) := Lib.hid (by rw [hA]; exact Gd.new H.out _ _)
    have HW0 := Lib.hid (H.out.kept hkA)
    have HS0 : Hid (WStep D v w v wA) := Lib.hid (.new hkA)
    clear hA hkA
    refine (wnumber_any D v l op wA HW0.out HQ1.out (by have := HL.out; first | omega | (simp only [List.length_append]; omega))).mono ?_
    rintro e w1 ⟨v1, rfl, hw1, hs1⟩
    have HG1 := Lib.hid (HG0.out.step hs1)
    have HW1 := Lib.hid hw1
    have HS1 := Lib.hid (HS0.out.trans hs1)
    clear hw1 hs1 HG0 HW0 HS0
    have c1 : w1.cell? ⟨w.heap.size, 1, none⟩ = some (.int .i64 table) := HG1.out.b.cell 1
    go_wp2_with fail
    refine (wnumber_any D v1 _ table w1 HW1.out HQ2.out (by have := HL.out; first | omega | (simp only [List.length_append]; omega))).mono ?_
    rintro e w2 ⟨v2, rfl, hw2, hs2⟩
    have HG2 := Lib.hid (HG1.out.step hs2)
    have HW2 := Lib.hid hw2
    have HS2 := Lib.hid (HS1.out.trans hs2)
    clear hw2 hs2 HG1 HW1 HS1 c1
    have c2 : w2.cell? ⟨w.heap.size, 2, none⟩ = some (.int .i64 wo) := HG2.out.b.cell 2
    have c3 : w2.cell? ⟨w.heap.size, 3, none⟩ = some (.int .i64 wc) := HG2.out.b.cell 3
    have c4 : w2.cell? ⟨w.heap.size, 4, none⟩ = some (.int .i64 lk) := HG2.out.b.cell 4
    have c5 : w2.cell? ⟨w.heap.size, 5, none⟩ = some (.int .i64 li) := HG2.out.b.cell 5
    have c6 : w2.cell? ⟨w.heap.size, 6, none⟩ = some (.int .i64 la) := HG2.out.b.cell 6
    have c7 : w2.cell? ⟨w.heap.size, 7, none⟩ = some (.int .i64 lb) := HG2.out.b.cell 7
    have c8 : w2.cell? ⟨w.heap.size, 8, none⟩ = some (.string lc) := HG2.out.b.cell 8
    have c9 : w2.cell? ⟨w.heap.size, 9, none⟩ = some (.int .i64 rk) := HG2.out.b.cell 9
    have c10 : w2.cell? ⟨w.heap.size, 10, none⟩ = some (.int .i64 ri) := HG2.out.b.cell 10
    have c11 : w2.cell? ⟨w.heap.size, 11, none⟩ = some (.int .i64 ra) := HG2.out.b.cell 11
    have c12 : w2.cell? ⟨w.heap.size, 12, none⟩ = some (.int .i64 rb) := HG2.out.b.cell 12
    have c13 : w2.cell? ⟨w.heap.size, 13, none⟩ = some (.string rc) := HG2.out.b.cell 13
    have c14 : w2.cell? ⟨w.heap.size, 14, none⟩ = some (.slice Wa wan wac) := HG2.out.b.cell 14
    go_wp2_with fail
    refine (wpredicate_any (.mk wo wc ⟨lk, li, ⟨la, lb, lc⟩⟩ ⟨rk, ri, ⟨ra, rb, rc⟩⟩ wargs) 1 D B v2 (.slice Wa wan wac) _ w2 HW2.out (PIn.old (HS2.out.old H.out hB) (Nat.le_refl _) _ _ HQ4.out) hB HFP.out (by have := HL.out; first | omega | (simp only [List.length_append]; omega))).mono ?_
    rintro e w3 ⟨v3, rfl, hw3, hs3⟩
    have HG3 := Lib.hid (HG2.out.step hs3)
    have HW3 := Lib.hid hw3
    have HS3 := Lib.hid (HS2.out.trans hs3)
    clear hw3 hs3 HG2 HW2 HS2 c2 c3 c4 c5 c6 c7 c8 c9 c10 c11 c12 c13 c14
    have c15 : w3.cell? ⟨w.heap.size, 15, none⟩ = some (.slice Ca cols.length cac) := HG3.out.b.cell 15
    go_wp2_with fail
    refine (wnumbers_any D B v3 (.slice Ca cols.length cac) _ cols w3 HW3.out (HQ5.out.old (HS3.out.old H.out hB) (Nat.le_refl _)) HQ6.out hB (by have := HL.out; first | omega | (simp only [List.length_append]; omega))).mono ?_
    rintro e w4 ⟨v4, rfl, hw4, hs4⟩
    have HG4 := Lib.hid (HG3.out.step hs4)
    have HW4 := Lib.hid hw4
    have HS4 := Lib.hid (HS3.out.trans hs4)
    clear hw4 hs4 HG3 HW3 HS3 c15
    have c16 : w4.cell? ⟨w.heap.size, 16, none⟩ = some (.slice Oa on.length oac) := HG4.out.b.cell 16
    go_wp2_with fail
    refine (wcount_any D v4 _ on.length w4 HW4.out (by omega) (by have := HL.out; first | omega | (simp only [List.length_append]; omega))).mono ?_
    rintro e w5 ⟨v5, rfl, hw5, hs5⟩
    have HG5 := Lib.hid (HG4.out.step hs5)
    have HW5 := Lib.hid hw5
    have HS5 := Lib.hid (HS4.out.trans hs5)
    clear hw5 hs5 HG4 HW4 HS4 c16
    have c16 : w5.cell? ⟨w.heap.size, 16, none⟩ = some (.slice Oa on.length oac) := HG5.out.b.cell 16
    go_wp2_with fail
    obtain ⟨L1, hL1⟩ : ∃ L1, L1 = l ++ inum op ++ inum table ++ encP (.mk wo wc ⟨lk, li, ⟨la, lb, lc⟩⟩ ⟨rk, ri, ⟨ra, rb, rc⟩⟩ wargs) ++ inums cols ++ leb on.length := ⟨_, rfl⟩
    rw [← hL1] at HW5
    have HLL1 : Hid (L1.length + (on.flatMap fOn).length + (inums grp).length + (leb ord.length).length + (ord.flatMap fOrd).length + (inum lim).length + (leb args.length).length + (encQs args).length ≤ 700000000000) := Lib.hid (by rw [hL1]; have := HL.out; simp only [List.length_append] at this ⊢; omega)
    have HEL1 := Lib.hid hL1
    clear hL1 c16 HL
    go_loopw [34] (fun i wr => LoopRel on.length D v5 (fun k => L1 ++ (on.take k).flatMap fOn) w5 i wr) (fun i _ => on.length - (intOf i).toNat)
    case atStart => exact ⟨0, v5, Nat.zero_le _, rfl, by simpa [encQs] using HW5.out, WStep.refl _ _ _⟩
    case round =>
      obtain ⟨k, v', hk, rfl, hwr, hsr⟩ := hrel
      have HWR := Lib.hid hwr
      have HSR := Lib.hid hsr
      clear hwr hsr
      by_cases hlt : k < on.length
      · have hk0 : (0 : Int) ≤ (k : Int) := by omega
        as_aux_lemma =>
          have hold := (HS5.out.trans HSR.out).old H.out hB
          obtain ⟨A', cap', hv', -, -, -, -, -, hc⟩ := HQ7.out.old hold (Nat.le_refl _)
          injection hv' with e1 e2 e3
          subst e1 e3
          obtain ⟨g, o, rfl, hgB, hc⟩ := hc (by omega)
          obtain ⟨x, hx⟩ : ∃ x, on[k]? = some x := ⟨_, List.getElem?_eq_getElem hlt⟩
          have HXK := Lib.hid hx
          have hmem := HQ8.out x (List.mem_of_getElem? hx)
          have HTK := Lib.hid (flatMap_take_succ fOn on k x hx)
          have hpg := pair_get (fun p : Int × Int => iv p.1) (fun p => iv p.2) on k x hx
          have hlen := flatMap_take_le fOn on (k + 1)
          rw [HTK.out, List.length_append] at hlen
          obtain ⟨x1, x2⟩ := x
          have d0 : wr.cell? ⟨g, o + k * 2, none⟩ = some (.int .i64 x1) := hc (k * 2) _ hpg.1
          have d1 : wr.cell? ⟨g, o + k * 2 + 1, none⟩ = some (.int .i64 x2) := hc (k * 2 + 1) _ hpg.2
          have HMEM := Lib.hid hmem
          have HLEN : Hid ((L1 ++ (on.take k).flatMap fOn).length + (fOn (x1, x2)).length ≤ 700000000000) := Lib.hid (by have := HLL1.out; rw [List.length_append]; omega)
          clear hc hx hpg hlen hmem hold e2
          go_wp2_with fail
          obtain ⟨wB, hB'⟩ : ∃ wB, wB = wr.alloc (.cells #[.int .i64 x1, .int .i64 x2] 271) := ⟨_, rfl⟩
          rw [← hB']
          have hkB : Kept Kno wr wB := by rw [hB']; exact (Kept.refl _ _).alloc _
          have HGB : Hid (Gd wB D v' wr.heap.size 271 #[.int .i64 x1, .int .i64 x2]) := Lib.hid (by rw [hB']; exact Gd.new HWR.out _ _)
          have HWB := Lib.hid (HWR.out.kept hkB)
          have HSB := Lib.hid (HSR.out.then0 hkB)
          clear hB' hkB d0 d1
          refine (wnumber_any D v' _ x1 wB HWB.out HMEM.out.1 (by have := HLEN.out; omega)).mono ?_
          rintro e wC ⟨vC, rfl, hwC, hsC⟩
          have HWC := Lib.hid hwC
          have HSC := Lib.hid (HSB.out.trans hsC)
          have d1 : wC.cell? ⟨wr.heap.size, 1, none⟩ = some (.int .i64 x2) := (HGB.out.step hsC).b.cell 1
          clear hwC hsC
          go_wp2_with fail
          refine (wnumber_any D vC _ x2 wC HWC.out HMEM.out.2 (by have := HLEN.out; simp only [fOn, List.length_append] at this ⊢; omega)).mono ?_
          rintro e wE ⟨vE, rfl, hwE, hsE⟩
          have HWE := Lib.hid hwE
          have HSE := Lib.hid (HSC.out.trans hsE)
          clear hwE hsE d1
          go_wp2
          go_roundw
          case rel => exact ⟨k + 1, vE, by omega, by go_num, by simp only [HTK.out, ← List.append_assoc]; exact (by have := HWE.out; simpa [fOn] using this), HSE.out⟩
          case measure => simp [intOf]; omega
      · have hk9 : ¬ (k : Int) < (on.length : Int) := by omega
        have hwr : Wr wr D v' (L1 ++ on.flatMap fOn) := by have h9 : Wr wr D v' (L1 ++ (on.take k).flatMap fOn) := HWR.out; rw [List.take_of_length_le (by omega)] at h9; exact h9
        have HW6 := Lib.hid hwr
        have HG6 := Lib.hid (HG5.out.step HSR.out)
        have HS6 := Lib.hid (HS5.out.trans HSR.out)
        as_aux_lemma =>
          have c17 : wr.cell? ⟨w.heap.size, 17, none⟩ = some (.slice Ga grp.length gac) := HG6.out.b.cell 17
          go_wp2_with fail
          refine (wnumbers_any D B v' (.slice Ga grp.length gac) _ grp wr HW6.out (HQ9.out.old (HS6.out.old H.out hB) (Nat.le_refl _)) HQ10.out hB (by have := HLL1.out; simp only [List.length_append]; omega)).mono ?_
          rintro e w7 ⟨v7, rfl, hw7, hs7⟩
          have HG7 := Lib.hid (HG6.out.step hs7)
          have HW7 := Lib.hid hw7
          have HS7 := Lib.hid (HS6.out.trans hs7)
          clear hw7 hs7 HG6 HW6 HS6 c17
          have c18 : w7.cell? ⟨w.heap.size, 18, none⟩ = some (.slice Da ord.length dac) := HG7.out.b.cell 18
          go_wp2_with fail
          refine (wcount_any D v7 _ ord.length w7 HW7.out (by omega) (by have := HLL1.out; simp only [List.length_append]; omega)).mono ?_
          rintro e w8 ⟨v8, rfl, hw8, hs8⟩
          have HG8 := Lib.hid (HG7.out.step hs8)
          have HW8 := Lib.hid hw8
          have HS8 := Lib.hid (HS7.out.trans hs8)
          clear hw8 hs8 HG7 HW7 HS7 c18
          have c18 : w8.cell? ⟨w.heap.size, 18, none⟩ = some (.slice Da ord.length dac) := HG8.out.b.cell 18
          go_wp2_with fail
          obtain ⟨L2, hL2⟩ : ∃ L2, L2 = L1 ++ on.flatMap fOn ++ inums grp ++ leb ord.length := ⟨_, rfl⟩
          rw [← hL2] at HW8
          have HLL2 : Hid (L2.length + (ord.flatMap fOrd).length + (inum lim).length + (leb args.length).length + (encQs args).length ≤ 700000000000) := Lib.hid (by rw [hL2]; have := HLL1.out; simp only [List.length_append] at this ⊢; omega)
          have HEL2 := Lib.hid hL2
          clear hL2 c18
          go_loopw [59] (fun i wr => LoopRel ord.length D v8 (fun k => L2 ++ (ord.take k).flatMap fOrd) w8 i wr) (fun i _ => ord.length - (intOf i).toNat)
          case atStart => exact ⟨0, v8, Nat.zero_le _, rfl, by simpa [encQs] using HW8.out, WStep.refl _ _ _⟩
          case round =>
            obtain ⟨k, v', hk, rfl, hwr, hsr⟩ := hrel
            have HWR := Lib.hid hwr
            have HSR := Lib.hid hsr
            clear hwr hsr
            by_cases hlt : k < ord.length
            · have hk0 : (0 : Int) ≤ (k : Int) := by omega
              as_aux_lemma =>
                have hold := (HS8.out.trans HSR.out).old H.out hB
                obtain ⟨A', cap', hv', -, -, -, -, -, hc⟩ := HQ11.out.old hold (Nat.le_refl _)
                injection hv' with e1 e2 e3
                subst e1 e3
                obtain ⟨g, o, rfl, hgB, hc⟩ := hc (by omega)
                obtain ⟨x, hx⟩ : ∃ x, ord[k]? = some x := ⟨_, List.getElem?_eq_getElem hlt⟩
                have HXK := Lib.hid hx
                have hmem := HQ12.out x (List.mem_of_getElem? hx)
                have HTK := Lib.hid (flatMap_take_succ fOrd ord k x hx)
                have hpg := pair_get (fun p : Int × Bool => iv p.1) (fun p => .bool p.2) ord k x hx
                have hlen := flatMap_take_le fOrd ord (k + 1)
                rw [HTK.out, List.length_append] at hlen
                obtain ⟨x1, x2⟩ := x
                have d0 : wr.cell? ⟨g, o + k * 2, none⟩ = some (.int .i64 x1) := hc (k * 2) _ hpg.1
                have d1 : wr.cell? ⟨g, o + k * 2 + 1, none⟩ = some (.bool x2) := hc (k * 2 + 1) _ hpg.2
                have HMEM := Lib.hid hmem
                have HLEN : Hid ((L2 ++ (ord.take k).flatMap fOrd).length + (fOrd (x1, x2)).length ≤ 700000000000) := Lib.hid (by have := HLL2.out; rw [List.length_append]; omega)
                clear hc hx hpg hlen hmem hold e2
                go_wp2_with fail
                obtain ⟨wB, hB'⟩ : ∃ wB, wB = wr.alloc (.cells #[.int .i64 x1, .bool x2] 273) := ⟨_, rfl⟩
                rw [← hB']
                have hkB : Kept Kno wr wB := by rw [hB']; exact (Kept.refl _ _).alloc _
                have HGB : Hid (Gd wB D v' wr.heap.size 273 #[.int .i64 x1, .bool x2]) := Lib.hid (by rw [hB']; exact Gd.new HWR.out _ _)
                have HWB := Lib.hid (HWR.out.kept hkB)
                have HSB := Lib.hid (HSR.out.then0 hkB)
                clear hB' hkB d0 d1
                refine (wnumber_any D v' _ x1 wB HWB.out HMEM.out (by have := HLEN.out; omega)).mono ?_
                rintro e wC ⟨vC, rfl, hwC, hsC⟩
                have HWC := Lib.hid hwC
                have HSC := Lib.hid (HSB.out.trans hsC)
                have d1 : wC.cell? ⟨wr.heap.size, 1, none⟩ = some (.bool x2) := (HGB.out.step hsC).b.cell 1
                clear hwC hsC
                go_wp2_with fail
                refine (wbool_any D vC _ x2 wC HWC.out (by have := HLEN.out; simp only [fOrd, List.length_append] at this ⊢; omega)).mono ?_
                rintro e wE ⟨vE, rfl, hwE, hsE⟩
                have HWE := Lib.hid hwE
                have HSE := Lib.hid (HSC.out.trans hsE)
                clear hwE hsE d1
                go_wp2
                go_roundw
                case rel => exact ⟨k + 1, vE, by omega, by go_num, by simp only [HTK.out, ← List.append_assoc]; exact (by have := HWE.out; simpa [fOrd] using this), HSE.out⟩
                case measure => simp [intOf]; omega
            · have hk9 : ¬ (k : Int) < (ord.length : Int) := by omega
              have hwr : Wr wr D v' (L2 ++ ord.flatMap fOrd) := by have h9 : Wr wr D v' (L2 ++ (ord.take k).flatMap fOrd) := HWR.out; rw [List.take_of_length_le (by omega)] at h9; exact h9
              have HW9 := Lib.hid hwr
              have HG9 := Lib.hid (HG8.out.step HSR.out)
              have HS9 := Lib.hid (HS8.out.trans HSR.out)
              as_aux_lemma =>
                have c19 : wr.cell? ⟨w.heap.size, 19, none⟩ = some (.int .i64 lim) := HG9.out.b.cell 19
                go_wp2_with fail
                refine (wnumber_any D v' _ lim wr HW9.out HQ3.out (by have := HLL2.out; simp only [List.length_append]; omega)).mono ?_
                rintro e w10 ⟨v10, rfl, hw10, hs10⟩
                have HG10 := Lib.hid (HG9.out.step hs10)
                have HW10 := Lib.hid hw10
                have HS10 := Lib.hid (HS9.out.trans hs10)
                clear hw10 hs10 HG9 HW9 HS9 c19
                have c20 : w10.cell? ⟨w.heap.size, 20, none⟩ = some (.slice Aa args.length aac) := HG10.out.b.cell 20
                go_wp2_with fail
                refine (wcount_any D v10 _ args.length w10 HW10.out (by omega) (by have := HLL2.out; simp only [List.length_append]; omega)).mono ?_
                rintro e w11 ⟨v11, rfl, hw11, hs11⟩
                have HG11 := Lib.hid (HG10.out.step hs11)
                have HW11 := Lib.hid hw11
                have HS11 := Lib.hid (HS10.out.trans hs11)
                clear hw11 hs11 HG10 HW10 HS10 c20
                have c20 : w11.cell? ⟨w.heap.size, 20, none⟩ = some (.slice Aa args.length aac) := HG11.out.b.cell 20
                go_wp2_with fail
                obtain ⟨L3, hL3⟩ : ∃ L3, L3 = L2 ++ ord.flatMap fOrd ++ inum lim ++ leb args.length := ⟨_, rfl⟩
                rw [← hL3] at HW11
                have HLL3 : Hid (L3.length + (encQs args).length ≤ 700000000000) := Lib.hid (by rw [hL3]; have := HLL2.out; simp only [List.length_append] at this ⊢; omega)
                have HEL3 := Lib.hid hL3
                clear hL3 c20
                go_loopw [84] (fun i wr => LoopRel args.length D v11 (fun k => L3 ++ encQs (args.take k)) w11 i wr) (fun i _ => args.length - (intOf i).toNat)
                case atStart => exact ⟨0, v11, Nat.zero_le _, rfl, by simpa [encQs] using HW11.out, WStep.refl _ _ _⟩
                case round =>
                  obtain ⟨k, v', hk, rfl, hwr, hsr⟩ := hrel
                  have HWR := Lib.hid hwr
                  have HSR := Lib.hid hsr
                  clear hwr hsr
                  by_cases hlt : k < args.length
                  · have hk0 : (0 : Int) ≤ (k : Int) := by omega
                    as_aux_lemma =>
                      have hold := (HS11.out.trans HSR.out).old H.out hB
                      obtain ⟨g, o, rfl, hgB, hc⟩ := HAT.out (by omega)
                      obtain ⟨q, hq⟩ : ∃ q, args[k]? = some q := ⟨_, List.getElem?_eq_getElem hlt⟩
                      obtain ⟨sq, hqi, hqc⟩ := hc.get hq
                      have hqi' := QIn.old hold (Nat.le_refl _) _ _ hqi
                      have hqc' := hqc.old hgB hold
                      have hmem := List.mem_of_getElem? hq
                      have HTK := Lib.hid (encQs_take_succ args k q hq)
                      have HTL : Hid ((L3 ++ encQs (args.take k)).length + (encQ q).length ≤ 700000000000) := Lib.hid (by
                        have h1 := encQs_take_le args (k + 1)
                        rw [encQs_take_succ args k q hq, List.length_append] at h1
                        have := HLL3.out
                        rw [List.length_append]
                        omega)
                      have HC := Lib.hid (HIH.out q hmem sq v' (L3 ++ encQs (args.take k)))
                      have HQI := Lib.hid hqi'
                      have hqn := q.cells_length sq
                      have hqo := QIn.one hqi
                      have HI : Hid ((Tryz.prog.info? 59).map (·.size) = some (q.cells sq).length) := Lib.hid (by rw [hqn]; kernel_rfl)
                      have HI2 : Hid ((Tryz.prog.info? 59).map (·.size) = some (q.cells sq).toArray.size) := Lib.hid (by rw [List.size_toArray, hqn]; kernel_rfl)
                      have HZ : Hid ((q.cells sq).toArray.size = 21) := Lib.hid (by rw [List.size_toArray, hqn])
                      have H1 : Hid ((q.cells sq).toArray.all (·.oneCell') = true) := Lib.hid (by simpa using hqo)
                      have HQC := Lib.hid hqc'
                      have HQV : Hid (q.v sq = .agg (q.cells sq).toArray) := Lib.hid (q.v_cells sq)
                      clear hqc hqc' hqi hqi' hq hmem hold hc hqn hqo
                      go_wp2_with (first
                        | (refine wpList_load_at rfl 59 (.tmp 86) rfl g (o + k * 21) (q.cells sq) _ rfl HQC.out Tryz.underlying59 rfl HI.out ?_)
                        | (refine wpList_store_new rfl 59 (.tmp 9) (.tmp 87) rfl _ (q.cells sq).toArray rfl rfl HI2.out (by rw [HZ.out]; rfl) H1.out ?_)
                        | (refine wpList_load_row rfl 59 (.tmp 9) rfl wr.heap.size rfl 59 (q.cells sq).toArray (0, 0) _ (Blk.new wr _ _) Tryz.underlying59 rfl HI2.out ?_))
                      have hkq : Kept Kno wr (wr.alloc (.cells (q.cells sq).toArray 59)) := (Kept.refl _ _).alloc _
                      rw [← HQV.out]
                      refine (HC.out _ (HWR.out.kept hkq) (QIn.old (hkq.old (Nat.le_trans hB (Nat.le_of_lt HWR.out.lt)) (fun _ _ h => h)) (Nat.le_refl _) _ _ HQI.out) HTL.out).mono ?_
                      rintro e wE ⟨vE, rfl, hwE, hsE⟩
                      have HWE := Lib.hid hwE
                      have HSE := Lib.hid ((HSR.out.then0 hkq).trans hsE)
                      clear hwE hsE hkq
                      go_wp2
                      go_roundw
                      case rel =>
                        refine ⟨k + 1, vE, by omega, by go_num, ?_, HSE.out⟩
                        simp only [HTK.out, ← List.append_assoc]
                        exact HWE.out
                      case measure => simp [intOf]; omega
                  · have hk9 : ¬ (k : Int) < (args.length : Int) := by omega
                    have hx : WrOk D v (L3 ++ encQs args) w (.returned (.tuple #[])) wr := ⟨v', rfl, by have h9 : Wr wr D v' (L3 ++ encQs (args.take k)) := HWR.out; rw [List.take_of_length_le (by omega)] at h9; exact h9, HS11.out.trans HSR.out⟩
                    have HX := Lib.hid hx
                    clear hx
                    go_wp2
                    go_end0
                    have he : l ++ encQ (.mk op table (.mk wo wc ⟨lk, li, ⟨la, lb, lc⟩⟩ ⟨rk, ri, ⟨ra, rb, rc⟩⟩ wargs) cols on grp ord lim args) = L3 ++ encQs args := by rw [HE.out, HEL3.out, HEL2.out, HEL1.out]; simp only [List.append_assoc]
                    rw [he]
                    exact HX.out

theorem wquery_any (q : Qry) (d D B : Nat) (v : Value) (s : QS) (l : List UInt8) (w : World) (h : Wr w D v l) (hq : QIn w B q s) (hB : B ≤ D) (hf : fitQ d q = true) (hl : l.length + (encQ q).length ≤ 700000000000) :
    Calls Tryz.prog 110 #[.pointer (some ⟨D, 0, none⟩), q.v s] w (WrOk D v (l ++ encQ q) w) := wquery_n (sizeQ q) q (Nat.le_refl _) d D B v s l w h hq hB hf hl

end Go.Proofs.YtffdaohmalmkfaaGreat
