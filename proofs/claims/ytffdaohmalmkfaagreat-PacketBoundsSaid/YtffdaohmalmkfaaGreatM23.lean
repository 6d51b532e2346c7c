/-
  Contracts and plain laws that the claim's theorem rests on, some texts in one file.
-/
import Derived.Test.YtffdaohmalmkfaaGreatM22
/-
  Packet's reference: the writers of lists of numbers and operands.
-/
namespace Go.Proofs.YtffdaohmalmkfaaGreat
open Go.RowKit
set_option linter.unusedVariables false

theorem xnumber_to {m : List UInt8} {base : Nat} {b : Value} {l : List UInt8} {n : Int} {w : World} (hm : m = l ++ inum n) (h : OwnB w base 5 b l) (hn : I64 n) (hl : l.length ≤ 1000000000000) (hb : base ≤ w.heap.size) :
    Calls Tryz.prog 102 #[b, .int .i64 n] w (AppOk base b m w) := by subst hm; exact xnumber_any base b l n w h hn hl hb
theorem xcount_to {m : List UInt8} {base : Nat} {b : Value} {l : List UInt8} {n : Nat} {w : World} (hm : m = l ++ leb n) (h : OwnB w base 5 b l) (hn : n ≤ 9223372036854775807) (hl : l.length ≤ 1000000000000) (hb : base ≤ w.heap.size) :
    Calls Tryz.prog 112 #[b, .int .i64 n] w (AppOk base b m w) := by subst hm; exact xcount_any base b l n w h hn hl hb
theorem xtruth_to {m : List UInt8} {base : Nat} {b : Value} {l : List UInt8} {x : Bool} {w : World} (hm : m = l ++ ibool x) (h : OwnB w base 5 b l) (hl : l.length ≤ 1000000000000) (hb : base ≤ w.heap.size) :
    Calls Tryz.prog 106 #[b, .bool x] w (AppOk base b m w) := by subst hm; exact xtruth_any base b l x w h hl hb
theorem xvalue_to {m : List UInt8} {base : Nat} {b : Value} {l : List UInt8} {x : Val} {w : World} (hm : m = l ++ ival x) (h : OwnB w base 5 b l) (hx : okVal x) (hf : plainV x = true) (hl : l.length ≤ 1000000000000) (hb : base ≤ w.heap.size) :
    Calls Tryz.prog 280 #[b, x.v] w (AppOk base b m w) := by subst hm; exact xvalue_any base b l x w h hx hf hl hb

set_option maxRecDepth 100000 in
set_option maxHeartbeats 2000000 in
theorem xnumbers_any (base B : Nat) (b u : Value) (l : List UInt8) (xs : List Int) (w : World) (h : OwnB w base 5 b l) (hu : SlIn w B 1 u xs.length (xs.map iv)) (hx : ∀ x ∈ xs, I64 x) (hB : B ≤ base) (hl : l.length + (inums xs).length ≤ 1000000000000) (hb : base ≤ w.heap.size) :
    Calls Tryz.prog 103 #[b, u] w (AppOk base b (l ++ inums xs) w) := by
  have H := Lib.hid h
  have HX := Lib.hid hx
  have hlen : l.length + (leb xs.length).length + (xs.flatMap inum).length ≤ 1000000000000 := by simp only [inums, List.length_append] at hl; omega
  have HL := Lib.hid hlen
  have HU := Lib.hid hu
  obtain ⟨A0, cap0, rfl⟩ := own_form h
  obtain ⟨A, cap, rfl, hcap, hmax, -, hnil, hlow, hat⟩ := hu
  have HAT := Lib.hid hat
  have hmax' : cap ≤ 9223372036854775807 := by simpa only [maxLen] using hmax
  have HC : Hid (Calls Tryz.prog 112 #[.slice A0 l.length cap0, .int .i64 xs.length] w (AppOk base (.slice A0 l.length cap0) (l ++ leb xs.length) w)) := Lib.hid (xcount_any base _ l xs.length w h (by omega) (by omega) hb)
  clear h hx hlen hat hnil hlow hl hmax
  go_enter Tryz.func103, Tryz.ntmps103
  go_wp2_with fail
  refine HC.out.mono ?_
  rintro e w1 ⟨A1, cap1, rfl, ho1, hs1⟩
  obtain ⟨m1, hm1⟩ : ∃ m1, m1 = l ++ leb xs.length := ⟨_, rfl⟩
  rw [← hm1] at ho1 hs1 ⊢
  have HM1 := Lib.hid hm1
  have HO1 := Lib.hid ho1
  have HS1 := Lib.hid hs1
  clear ho1 hs1 hm1
  go_wp2_with fail
  go_loopw [0, 13] (fun b' i wr => XNumsRel base (.slice A0 l.length cap0) l xs w b' i wr) (fun _ i _ => xs.length - (intOf i).toNat)
  case atStart => exact ⟨0, A1, cap1, m1, Nat.zero_le _, rfl, rfl, by rw [HM1.out]; simp, HO1.out, HS1.out⟩
  case round =>
    obtain ⟨k, A2, cap2, m2, hk, rfl, rfl, hm2, ho2, hs2⟩ := hrel
    have HO2 := Lib.hid ho2
    have HS2 := Lib.hid hs2
    have HM2 := Lib.hid hm2
    clear ho2 hs2 hm2
    by_cases hlt : k < xs.length
    · obtain ⟨g, o, rfl, hgB, hc⟩ := HAT.out (by omega)
      have hc' := hc.old hgB ((HS2.out.old H.out hb).less hB)
      obtain ⟨x, hx⟩ : ∃ x, xs[k]? = some x := ⟨xs[k], List.getElem?_eq_getElem hlt⟩
      have c0 : wr.cell? ⟨g, o + k, none⟩ = some (.int .i64 x) := hc' k (iv x) (by rw [List.getElem?_map, hx]; rfl)
      have HXI : Hid (I64 x) := Lib.hid (HX.out x (List.mem_of_getElem? hx))
      have HXX := Lib.hid hx
      have hk0 : (0 : Int) ≤ (k : Int) := by omega
      have hk9 : (k : Int) < (xs.length : Int) := by omega
      have hml : m2.length ≤ 1000000000000 := by rw [HM2.out]; have := HL.out; have := flatMap_take_le inum xs k; simp only [List.length_append]; omega
      have hbr : base ≤ wr.heap.size := Nat.le_trans hb HS2.out.k.size
      obtain ⟨m3, hm3⟩ : ∃ m3, m3 = m2 ++ inum x := ⟨_, rfl⟩
      have HM3 := Lib.hid hm3
      clear hc hc' hx hm3
      go_wp2_with fail
      refine (xnumber_to HM3.out HO2.out HXI.out hml hbr).mono ?_
      rintro e w3 ⟨A3, cap3, rfl, ho3, hs3⟩
      have HO3 := Lib.hid ho3
      have HS3 := Lib.hid (HS2.out.trans hs3)
      clear ho3 hs3
      go_wp2
      go_roundw
      case rel =>
        refine ⟨k + 1, A3, cap3, m3, by omega, by go_num, rfl, ?_, HO3.out, HS3.out⟩
        rw [HM3.out, HM2.out, List.take_add_one, HXX.out]
        simp
      case measure => simp [intOf]; omega
    · have hk9 : ¬ (k : Int) < (xs.length : Int) := by omega
      have he : m2 = l ++ inums xs := by rw [HM2.out, List.take_of_length_le (by omega)]; simp [inums]
      have hx : AppOk base (.slice A0 l.length cap0) (l ++ inums xs) w (.returned (.slice A2 m2.length cap2)) wr := by rw [← he]; exact ⟨A2, cap2, rfl, HO2.out, HS2.out⟩
      have HXX := Lib.hid hx
      clear hx he
      go_wp2
      go_ret
      exact HXX.out

set_option maxRecDepth 100000 in
set_option maxHeartbeats 4000000 in
theorem xoperand_any (base : Nat) (b : Value) (l : List UInt8) (o : Opnd) (w : World) (h : OwnB w base 5 b l) (ho : okOpnd o) (hf : fitO o = true) (hl : l.length ≤ 900000000000) (hb : base ≤ w.heap.size) :
    Calls Tryz.prog 255 #[b, o.v] w (AppOk base b (l ++ encO o) w) := by
  have H := Lib.hid h
  obtain ⟨A0, cap0, rfl⟩ := own_form h
  obtain ⟨kind, idx, ⟨vk, vn, vs⟩⟩ := o
  obtain ⟨o1, o2, o3, o4⟩ := ho
  have HK1 := Lib.hid o1
  have HK2 := Lib.hid o2
  have HK4 := Lib.hid o4
  have HF := Lib.hid hf
  have hk1 := (inum_length kind).2
  have hk2 := (inum_length idx).2
  simp only [Opnd.v]
  obtain ⟨wA, hA⟩ : ∃ wA, wA = w.alloc (.cells #[.int .i64 kind, .int .i64 idx, .int .i64 vk, .int .i64 vn, .string vs] 51) := ⟨_, rfl⟩
  have hkA : Kept Kno w wA := by rw [hA]; exact (Kept.refl _ _).alloc _
  have hGA : GdB wA (.slice A0 l.length cap0) w.heap.size 51 #[.int .i64 kind, .int .i64 idx, .int .i64 vk, .int .i64 vn, .string vs] := by rw [hA]; exact GdB.new h _ _
  have HOA : Hid (OwnB wA base 5 (.slice A0 l.length cap0) l) := Lib.hid (own_kept h hkA (fun _ _ h => h))
  have HSA : Hid (BStep (.slice A0 l.length cap0) w (.slice A0 l.length cap0) wA) := Lib.hid (.new hkA)
  have hbA : base ≤ wA.heap.size := Nat.le_trans hb hkA.size
  have c0 : wA.cell? ⟨w.heap.size, 0, none⟩ = some (.int .i64 kind) := hGA.b.cell 0
  have c1 : wA.cell? ⟨w.heap.size, 1, none⟩ = some (.int .i64 idx) := hGA.b.cell 1
  have c2 : wA.cell? ⟨w.heap.size, 2, none⟩ = some (.int .i64 vk) := hGA.b.cell 2
  have c3 : wA.cell? ⟨w.heap.size, 3, none⟩ = some (.int .i64 vn) := hGA.b.cell 3
  have c4 : wA.cell? ⟨w.heap.size, 4, none⟩ = some (.string vs) := hGA.b.cell 4
  have HGA := Lib.hid hGA
  have HAe := Lib.hid hA
  obtain ⟨M1, hM1⟩ : ∃ M1, M1 = l ++ inum kind := ⟨_, rfl⟩
  obtain ⟨M2, hM2⟩ : ∃ M2, M2 = M1 ++ inum idx := ⟨_, rfl⟩
  obtain ⟨M3, hM3⟩ : ∃ M3, M3 = M2 ++ ival ⟨vk, vn, vs⟩ := ⟨_, rfl⟩
  have HM1 := Lib.hid hM1
  have HM2 := Lib.hid hM2
  have HM3 := Lib.hid hM3
  have HL1 : Hid (M1.length ≤ 900000000011) := Lib.hid (by rw [hM1, List.length_append]; omega)
  have HL2 : Hid (M2.length ≤ 900000000022) := Lib.hid (by rw [hM2, List.length_append]; have := HL1.out; omega)
  have HE : Hid (encO ⟨kind, idx, ⟨vk, vn, vs⟩⟩ = inum kind ++ inum idx ++ ival ⟨vk, vn, vs⟩) := Lib.hid rfl
  clear h o1 o2 o3 o4 hf hkA hGA hA hM1 hM2 hM3
  go_enter Tryz.func255, Tryz.ntmps255
  go_upto_region 1 with (fail)
  rw [← HAe.out]
  go_region_held3 (fun w' => w'.cell? ⟨w.heap.size, 0, none⟩ = some (.int .i64 kind) ∧ w'.cell? ⟨w.heap.size, 1, none⟩ = some (.int .i64 idx) ∧ w'.cell? ⟨w.heap.size, 2, none⟩ = some (.int .i64 vk) ∧ w'.cell? ⟨w.heap.size, 3, none⟩ = some (.int .i64 vn) ∧ w'.cell? ⟨w.heap.size, 4, none⟩ = some (.string vs))
    (first | (exact ⟨f0, f1, f2, f3, f4⟩) | (exact ⟨e0, e1, e2, e3, e4⟩) | (exact ⟨d0, d1, d2, d3, d4⟩) | (exact ⟨c0, c1, c2, c3, c4⟩) | go_keep)
    (first | (go_at_call 102; refine (xnumber_to (w := wA.drew) HM1.out HOA.out HK1.out (by omega) hbA).mono ?_; rintro e x1 ⟨A1, cap1, rfl, ho1, hs1⟩;
              have hs1' : BStep (.slice A0 l.length cap0) wA (.slice A1 M1.length cap1) x1 := (by first | exact hs1 | exact (BStep.new ((Kept.refl _ _).drew)).trans hs1);
              have HS1 := Lib.hid (HSA.out.trans hs1'); have HG1 := Lib.hid (HGA.out.step hs1'); have HO1 := Lib.hid ho1;
              have hb1 : base ≤ x1.heap.size := Nat.le_trans hbA hs1'.k.size;
              have d0 : x1.cell? ⟨w.heap.size, 0, none⟩ = some (.int .i64 kind) := HG1.out.b.cell 0; have d1 : x1.cell? ⟨w.heap.size, 1, none⟩ = some (.int .i64 idx) := HG1.out.b.cell 1; have d2 : x1.cell? ⟨w.heap.size, 2, none⟩ = some (.int .i64 vk) := HG1.out.b.cell 2; have d3 : x1.cell? ⟨w.heap.size, 3, none⟩ = some (.int .i64 vn) := HG1.out.b.cell 3; have d4 : x1.cell? ⟨w.heap.size, 4, none⟩ = some (.string vs) := HG1.out.b.cell 4;
              clear hs1 hs1' ho1)
           | (go_at_call 102; refine (xnumber_to HM2.out HO1.out HK2.out (by have := HL1.out; omega) hb1).mono ?_; rintro e x2 ⟨A2, cap2, rfl, ho2, hs2⟩;
              have HS2 := Lib.hid (HS1.out.trans hs2); have HG2 := Lib.hid (HG1.out.step hs2); have HO2 := Lib.hid ho2;
              have hb2 : base ≤ x2.heap.size := Nat.le_trans hb1 hs2.k.size;
              have e0 : x2.cell? ⟨w.heap.size, 0, none⟩ = some (.int .i64 kind) := HG2.out.b.cell 0; have e1 : x2.cell? ⟨w.heap.size, 1, none⟩ = some (.int .i64 idx) := HG2.out.b.cell 1; have e2 : x2.cell? ⟨w.heap.size, 2, none⟩ = some (.int .i64 vk) := HG2.out.b.cell 2; have e3 : x2.cell? ⟨w.heap.size, 3, none⟩ = some (.int .i64 vn) := HG2.out.b.cell 3; have e4 : x2.cell? ⟨w.heap.size, 4, none⟩ = some (.string vs) := HG2.out.b.cell 4;
              clear hs2 ho2)
           | (go_at_call 280; refine (xvalue_to (x := ⟨vk, vn, vs⟩) HM3.out HO2.out HK4.out HF.out (by have := HL2.out; omega) hb2).mono ?_; rintro e x3 ⟨A3, cap3, rfl, ho3, hs3⟩;
              have HS3 := Lib.hid (HS2.out.trans hs3); have HG3 := Lib.hid (HG2.out.step hs3); have HO3 := Lib.hid ho3;
              have f0 : x3.cell? ⟨w.heap.size, 0, none⟩ = some (.int .i64 kind) := HG3.out.b.cell 0; have f1 : x3.cell? ⟨w.heap.size, 1, none⟩ = some (.int .i64 idx) := HG3.out.b.cell 1; have f2 : x3.cell? ⟨w.heap.size, 2, none⟩ = some (.int .i64 vk) := HG3.out.b.cell 2; have f3 : x3.cell? ⟨w.heap.size, 3, none⟩ = some (.int .i64 vn) := HG3.out.b.cell 3; have f4 : x3.cell? ⟨w.heap.size, 4, none⟩ = some (.string vs) := HG3.out.b.cell 4;
              clear hs3 ho3))
  have he : M3 = l ++ encO ⟨kind, idx, ⟨vk, vn, vs⟩⟩ := by rw [HE.out, HM3.out, HM2.out, HM1.out]; simp only [List.append_assoc]
  have hx : AppOk base (.slice A0 l.length cap0) (l ++ encO ⟨kind, idx, ⟨vk, vn, vs⟩⟩) w (.returned (.slice A3 M3.length cap3)) x3 := by rw [← he]; exact ⟨A3, cap3, rfl, HO3.out, HS3.out⟩
  have HXX := Lib.hid hx
  clear hx he
  go_wp2
  go_ret
  exact HXX.out

theorem xnumbers_to {m : List UInt8} {base B : Nat} {b u : Value} {l : List UInt8} {xs : List Int} {w : World} (hm : m = l ++ inums xs) (h : OwnB w base 5 b l) (hu : SlIn w B 1 u xs.length (xs.map iv)) (hx : ∀ x ∈ xs, I64 x) (hB : B ≤ base) (hl : l.length + (inums xs).length ≤ 1000000000000) (hb : base ≤ w.heap.size) :
    Calls Tryz.prog 103 #[b, u] w (AppOk base b m w) := by subst hm; exact xnumbers_any base B b u l xs w h hu hx hB hl hb
theorem xoperand_to {m : List UInt8} {base : Nat} {b : Value} {l : List UInt8} {o : Opnd} {w : World} (hm : m = l ++ encO o) (h : OwnB w base 5 b l) (ho : okOpnd o) (hf : fitO o = true) (hl : l.length ≤ 900000000000) (hb : base ≤ w.heap.size) :
    Calls Tryz.prog 255 #[b, o.v] w (AppOk base b m w) := by subst hm; exact xoperand_any base b l o w h ho hf hl hb

end Go.Proofs.YtffdaohmalmkfaaGreat
