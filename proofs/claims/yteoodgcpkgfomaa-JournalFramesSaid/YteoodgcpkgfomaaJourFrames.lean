/-
  JournalFrames: the walk of the law.
-/
import Derived.Test.YteoodgcpkgfomaaJourT
namespace Go.Proofs.Yteoodgcpkgfomaa
open Go.RowKit
set_option linter.unusedVariables false

def FrRel (R : List (List UInt8)) (w1 : World) (all i : Value) (wr : World) : Prop :=
  ∃ (k : Nat) (A : Option Addr) (cap : Nat), k ≤ R.length ∧ i = .int .i64 (k : Nat) ∧ all = .slice A (frames (R.take k)).length cap ∧ OwnB wr w1.heap.size 5 (.slice A (frames (R.take k)).length cap) (frames (R.take k)) ∧ Kept Kno w1 wr

set_option maxRecDepth 100000 in
set_option maxHeartbeats 20000000 in
theorem frames_walk (v : Value) (p : List Value × List (List UInt8)) (u : Value) (l : List UInt8) (w : World) (hr : LsR w v p.1 p.2 ∧ p.2.length ≤ maxLen ∧ ∀ b ∈ p.2, b.length ≤ maxLen) (hb : Bs w u l ∧ l.length ≤ maxLen) :
    Calls Try.prog 7 #[v, u] w (RetNew (.bool true) w) := by
  obtain ⟨j0, hj0, hy0, hy1, hy2⟩ := info_parts info_recs
  have hf3 : ∀ (v0 v1 v2 v3 v4 : Value) (w : World), (Instr.field 47 (.agg #[v0, v1, v2, v3, v4]) 3).run Try.prog w = .ok v3 w := fun _ _ _ _ _ _ => by kernel_rfl
  obtain ⟨us, rs⟩ := p
  simp only at hr
  have HR := Lib.hid hr
  have HB := Lib.hid hb.1
  have hll := hb.2
  obtain ⟨Ar, cr, rfl, hrc⟩ := hr.1.form
  obtain ⟨Au, cu, rfl, hcu, -⟩ := hb.1
  have hmin : (if (300 : Int) < (l.length : Int) then (300 : Int) else (l.length : Int)) = ((min l.length 300 : Nat) : Int) := min_natw l.length 300
  have q1 : min l.length 300 ≤ l.length := Nat.min_le_left _ _
  have q1' : min l.length 300 ≤ 300 := Nat.min_le_right _ _
  have hcut := Bs.cut HB.out q1
  have HML : Hid ((l.take (min l.length 300)).length = min l.length 300) := Lib.hid (by rw [List.length_take]; omega)
  have HC := Lib.hid hcut
  generalize l.take (min l.length 300) = M at HC HML
  generalize min l.length 300 = m1 at hmin q1 q1' HC HML
  obtain rfl := HML.out
  clear HML
  have q3 : M.length ≤ cu := by omega
  have q4 : (M.length : Int) ≤ (cu : Int) := by omega
  have q5 : (0 : Int) ≤ (M.length : Int) := by omega
  have n60 : l.length ≤ 9223372036854775807 := by simp only [maxLen] at hll; omega
  clear hr hb hcut hll
  go_enter Try.func7, Try.ntmps7
  go_wp2_with fail
  refine (cut_any 0 0 (.slice none 0 0) _ [] us rs none 0 0 w (nil_bs w) HR.out.1 (by simp) HR.out.2.1 HR.out.2.2).mono ?_
  rintro e w1 ⟨A1, n1, c1, A2, c2, vs, rfl, -, hown1, hel1, hk1⟩
  have HLS : Hid (LsR w1 (.slice A2 (cutR rs).length c2) vs (cutR rs)) := Lib.hid ⟨Rd.of_own hown1, hel1⟩
  have HM1 := Lib.hid (Rd.kept0 HC.out hk1)
  have hRl := cutR_len rs
  have hRm := fun (b : List UInt8) (hb : b ∈ cutR rs) => cutR_mem hb
  have hRf := cutR_frames rs
  have hRs := cutR_short rs
  have HRM := Lib.hid hRm
  have HRS := Lib.hid hRs
  have HK1 := Lib.hid hk1
  have hc3 : (cutR rs).length ≤ c2 := by
    obtain ⟨A3, cap3, e3, hc3⟩ := HLS.out.form
    injection e3 with _ _ e3
    omega
  generalize cutR rs = R at hRl hRf HLS HRM HRS hc3 ⊢
  clear hown1 hel1 hRm hRs hk1 HR hrc
  go_wp2_with fail
  refine (new_ok 16777216 _ (by omega) (by omega)).mono ?_
  rintro e w5 ⟨rfl, hw5⟩
  have hk5 : Kept Kno w1 w5 := by rw [hw5]; exact (Kept.refl _ _).alloc _
  have hn5 : Is w5 w1.heap.size w1.heap.size (List.replicate 8 noFile) (ab0 16777216) := by rw [hw5]; exact is_new w1 _ 16777216 (Nat.le_refl _) (by omega) (by omega)
  have HN5 := Lib.hid hn5
  clear hw5 hn5 hf3
  go_wp2_with fail
  have hop := open_any w1.heap.size w1.heap.size 1 _ (ab0 16777216) w5 HN5.out (by decide)
  rw [jopen_empty (ab0 16777216) 1 (by decide)] at hop
  refine hop.mono ?_
  rintro e w6 ⟨fs6, hi6, hkk6, hd6, J, rv6, ev6, us6, rfl, hj6, ha6⟩
  have hk6 : Kept Kno w1 w6 := HN5.out.kept hk5 (Nat.le_refl _) hkk6
  have HI6 := Lib.hid hi6
  have HJ6 := Lib.hid (hj6.rebase hk5.size)
  have HA6 := Lib.hid ha6
  clear hi6 hj6 ha6 hkk6 hd6 HN5 hop
  go_wp2_with fail
  have hrw := jrewrite_any (⟨ab0 16777216, [], false⟩ : JA) _ vs R HJ6.out HI6.out HA6.out (HLS.out.kept0 hk6) (fun w' hk => HLS.out.kept0 (jkept hk6 (Nat.le_refl _) HJ6.out HI6.out hk)) (by omega) (fun _ => by omega) hk6.size (fun b hb => by have := HRM.out b hb; simp only [maxLen]; omega)
  have e1 : (⟨ab0 16777216, [], false⟩ : JA).rewrite 1 R = (⟨(ab0 16777216).put 1 (frames R, (frames R).length), R, false⟩, 0) := JA.rewrite_calm (f := 1) (calm0 _) (by omega) [] R HRS.out (by rw [used0]; show ((0 : Nat) : Int) + _ ≤ (16777216 : Int); omega)
  rw [e1] at hrw
  refine hrw.mono ?_
  rintro e w7 ⟨rfl, fs7, rv7, ev7, us7, hi7, hj7, ha7, hkk7, -, -⟩
  have hk7 : Kept Kno w1 w7 := jkept hk6 (Nat.le_refl _) HJ6.out HI6.out hkk7
  have HI7 := Lib.hid hi7
  have HJ7 := Lib.hid hj7
  have HA7 := Lib.hid ha7
  clear hi7 hj7 ha7 hkk7 e1 hrw HI6 HJ6 HA6
  have hcalm7 : Calm ((ab0 16777216).put 1 (frames R, (frames R).length)) := (calm0 16777216).put _
  have hfile7 : ((ab0 16777216).put 1 (frames R, (frames R).length)).file 1 = (frames R, (frames R).length) := (calm0 16777216).file_put (by omega) _
  have hused7 : ((ab0 16777216).put 1 (frames R, (frames R).length)).used = (frames R).length := by
    have h9 := (calm0 16777216).used_put (f := 1) (by omega) (frames R, (frames R).length)
    rw [used0, file0] at h9
    simpa using h9
  have hroom7 : ((ab0 16777216).put 1 (frames R, (frames R).length)).room = 16777216 := rfl
  generalize (ab0 16777216).put 1 (frames R, (frames R).length) = a7 at HI7 hcalm7 hfile7 hused7 hroom7
  have hlf : (frame M).length ≤ 311 := by have h9 := (leb_length M.length).2; rw [frame_length]; omega
  have hfS : (frames (R ++ [M])).length = (frames R).length + (frame M).length := by rw [frames_snoc, List.length_append]
  go_wp2_with fail
  have HM7 := Lib.hid (Rd.kept0 HM1.out hk7)
  have hap := jappend_any (⟨a7, R, false⟩ : JA) (.slice Au M.length cu) M HJ7.out HI7.out HA7.out HM7.out (fun w' hk => Rd.kept0 HM1.out (jkept hk7 (Nat.le_refl _) HJ7.out HI7.out hk)) (fun _ _ _ => by show (frames (R ++ [M])).length ≤ 20000000; omega) hk7.size
  have e2 : (⟨a7, R, false⟩ : JA).append 1 M = (⟨a7.put 1 (frames R ++ frame M, (frames R).length), R ++ [M], false⟩, 0) := by
    have h9 := JA.append_calm (f := 1) hcalm7 (by omega) R M (by omega) (by rw [hused7, hroom7]; omega)
    rw [hfile7] at h9
    exact h9
  rw [e2] at hap
  refine hap.mono ?_
  rintro e w8 ⟨rfl, fs8, rv8, ev8, us8, hi8, hj8, ha8, hkk8, -, -⟩
  have hk8 : Kept Kno w1 w8 := jkept hk7 (Nat.le_refl _) HJ7.out HI7.out hkk8
  have HI8 := Lib.hid hi8
  have hcalm8 : Calm (a7.put 1 (frames R ++ frame M, (frames R).length)) := hcalm7.put _
  have hfile8 : ((a7.put 1 (frames R ++ frame M, (frames R).length)).file 1).1 = frames (R ++ [M]) := by rw [hcalm7.file_put (by omega), frames_snoc]
  generalize a7.put 1 (frames R ++ frame M, (frames R).length) = a8 at HI8 hcalm8 hfile8
  have HFS := Lib.hid hfS
  clear hfS
  have HCALM := Lib.hid hcalm8
  have HFILE := Lib.hid hfile8
  have HLS8 := Lib.hid (HLS.out.kept0 hk8)
  have HM8 := Lib.hid (Rd.kept0 HM1.out hk8)
  have HK8 := Lib.hid hk8
  have HSH : Hid (Short (R ++ [M])) := Lib.hid (HRS.out.append (Short.one (by omega)))
  clear hi8 hj8 ha8 hkk8 e2 hap HI7 HJ7 HA7 hcalm7 hfile7 hused7 hroom7 hcalm8 hfile8 HM7 hk5 hk6 hk7
  go_wp2_with fail
  go_loopw [9, 60] (fun all i wr => FrRel R w8 all i wr) (fun _ i _ => R.length - (intOf i).toNat)
  case atStart => exact ⟨0, none, 0, by omega, rfl, rfl, World.ownsRow_nil _ _ _ _, Kept.refl _ _⟩
  case round =>
    obtain ⟨k, A, cap, hk, rfl, rfl, hall, hkk⟩ := hrel
    have HALL := Lib.hid hall
    have HKK := Lib.hid hkk
    clear hall
    by_cases hlt : k < R.length
    · have hR := HLS8.out.kept0 hkk
      obtain ⟨g, o, c9, x, hv, hx, hcell⟩ := hR.at hlt
      injection hv with e1 e2 e3
      subst e1 e3
      have hbk : R[k]? = some R[k] := List.getElem?_eq_getElem hlt
      have hml := HRM.out R[k] (List.getElem_mem hlt)
      generalize R[k] = b at hbk hml
      have hbs := hR.2 k x b hx hbk
      have t1 := run_string_bs (P := Try.prog) 30 9 5 hbs Try.underlying30 Try.underlying5 Try.underlying9
      obtain ⟨Ax, cx, rfl, -⟩ := hbs
      have HBK := Lib.hid hbk
      have hfl : (frames (R.take k)).length ≤ 2488 := Nat.le_trans (frames_take_le R k) hRf
      have hkz : (0 : Int) ≤ (k : Int) := by omega
      have hk1 : (k : Int) < (R.length : Int) := by omega
      clear hR hx hbk hkk e2
      go_wp2_with fail
      have hat := appendText_any (.slice A (frames (R.take k)).length cap) (frames (R.take k)) ⟨b.toArray⟩ wr (OwnB.bs HALL.out) (by show (frames (R.take k)).length + b.length ≤ 16000000; omega)
      have ef : frames (R.take k) ++ (leb (⟨b.toArray⟩ : ByteArray).size ++ sbytes ⟨b.toArray⟩) = frames (R.take (k + 1)) := by rw [take_snocr HBK.out, frames_snoc]; rfl
      rw [ef] at hat
      refine hat.mono ?_
      rintro e w9 ⟨A9, cap9, rfl, hown9, hk9⟩
      have HO9 := Lib.hid hown9
      clear hown9 hat ef t1
      go_wp2
      go_roundw
      case rel => exact ⟨k + 1, A9, cap9, by omega, by go_num, rfl, own_rebase HO9.out (fun q e => Nat.le_trans HKK.out.size (own_base HO9.out e).1), HKK.out.then0 hk9⟩
      case measure => simp [intOf]; omega
    · have hk1 : ¬ (k : Int) < (R.length : Int) := by omega
      obtain rfl : k = R.length := by omega
      have HALL2 : Hid (OwnB wr w8.heap.size 5 (.slice A (frames R).length cap) (frames R)) := Lib.hid (by have h9 := HALL.out; rw [List.take_length] at h9; exact h9)
      rw [List.take_length]
      have hbs := Rd.kept0 HM8.out hkk
      have t1 := run_string_bs (P := Try.prog) 30 9 5 hbs Try.underlying30 Try.underlying5 Try.underlying9
      clear HALL hkk hbs
      go_wp2_with fail
      have hat := appendText_any (.slice A (frames R).length cap) (frames R) ⟨M.toArray⟩ wr (OwnB.bs HALL2.out) (by show (frames R).length + M.length ≤ 16000000; omega)
      have ef : frames R ++ (leb (⟨M.toArray⟩ : ByteArray).size ++ sbytes ⟨M.toArray⟩) = frames (R ++ [M]) := by rw [frames_snoc]; rfl
      rw [ef] at hat
      refine hat.mono ?_
      rintro e w9 ⟨A9, cap9, rfl, hown9, hk9⟩
      have HO9 := Lib.hid hown9
      have HK9 := Lib.hid (HKK.out.then0 hk9)
      clear hown9 hat ef t1
      go_wp2_with fail
      have hop := open_any w1.heap.size w1.heap.size 1 fs8 a8 w9 (HI8.out.kept0 HK9.out) (by have h9 := HCALM.out.read (f := 1) (by omega); rw [HFILE.out] at h9; rw [show (1 : Int) = ((1 : Nat) : Int) from rfl, h9]; show (frames (R ++ [M])).length ≤ 1000000; have := HFS.out; omega)
      rw [show jopen a8 1 = (a8, 0, some (R ++ [M])) from jopen_whole (f := 1) HCALM.out (by omega) HSH.out HFILE.out] at hop
      refine hop.mono ?_
      rintro e w10 ⟨fs10, hi10, hkk10, hd10, J2, rv10, ev10, us10, rfl, hj10, ha10⟩
      have hk10 : Kept Kno w1 w10 := (HI8.out.kept0 HK9.out).kept (HK8.out.then0 HK9.out) (Nat.le_refl _) hkk10
      have HI10 := Lib.hid hi10
      have HJ10 := Lib.hid hj10
      have HB10 : Hid (Bs w10 (.slice A9 (frames (R ++ [M])).length cap9) (frames (R ++ [M]))) := Lib.hid (Rd.kept (OwnB.bs HO9.out) hkk10 (fun q e e' => by
        have h1 := (own_base HO9.out e).1
        have h2 := (HI8.out.low e').2
        have h3 := HKK.out.size
        omega))
      have HLS10 := Lib.hid (HLS.out.kept0 hk10)
      have HM10 := Lib.hid (Rd.kept0 HM1.out hk10)
      have HK10 := Lib.hid (HK1.out.then0 hk10)
      clear hi10 hj10 ha10 hkk10 hd10 hop HI8 HLS8 HM8 HALL2 HM1 HLS
      go_wp2_with fail
      have hrd := read_any 1 HI10.out
      rw [show a8.read 1 = (frames (R ++ [M]), 0) by have h9 := HCALM.out.read (f := 1) (by omega); rw [HFILE.out] at h9; exact h9] at hrd
      refine hrd.mono ?_
      rintro e w11 ⟨A11, cap11, rfl, hown11, hk11⟩
      have HB11 := Lib.hid (OwnB.bs hown11)
      have HB9 := Lib.hid (Rd.kept0 HB10.out hk11)
      have HJ11 := Lib.hid (HJ10.out.kept0 hk11)
      clear hown11 hrd HB10
      go_wp2_with fail
      refine (equal_any _ _ _ _ w11 HB11.out HB9.out).mono ?_
      rw [decide_eq_true (Eq.refl (frames (R ++ [M])))]
      rintro e w12 ⟨rfl, rfl⟩
      clear HB11 HB9
      go_wp2_with fail
      refine (records_any HJ11.out).mono ?_
      rintro e w13 ⟨A13, cap13, vs13, rfl, hls13, hk13⟩
      have HLL : Hid ((R ++ [M]).length = R.length + 1) := Lib.hid (by simp)
      have HL13 : Hid (LsR w13 (.slice A13 (R.length + 1) cap13) vs13 (R ++ [M])) := Lib.hid (by have h9 := hls13.r; rw [HLL.out] at h9; exact h9)
      have HJ13 := Lib.hid (HJ11.out.kept0 hk13)
      have hk13' := hk11.then0 hk13
      have HLS13 := Lib.hid (HLS10.out.kept0 hk13')
      have HM13 := Lib.hid (Rd.kept0 HM10.out hk13')
      have HONE : Hid (∀ u ∈ vs, u.oneCell' = true) := Lib.hid HLS13.out.one
      have m1 : 0 + R.length ≤ maxLen := by simp only [maxLen]; omega
      have m2 : R.length + 1 ≤ maxLen := by simp only [maxLen]; omega
      clear hls13 HLS10 HM10
      go_wp2_with (at_builtin; go_loud (first
        | (refine wpList_append_rdW _ (by rfl) _ _ 45 rfl w13.heap.size 30 j0 _ 1 24 Try.underlying45 hj0 hy0 hy1 hy2 rfl (by decide) _ 0 [] rfl (World.ownsRow_made w13 #[] 0 (Nat.le_refl _) (by decide) (by rfl)) _ R.length vs rfl (HLS13.out.1.alloc _) HONE.out m1 (by omega) (by simp) ?_
           intro A14 cap14 w14 hown14 hg14 hat14
           have hk14 : Kept Kno w13 w14 := ((Kept.refl _ _).alloc _).grown hg14 (fun q hq e => by have e9 : w13.heap.size = q := Option.some.inj e; omega)
           try simp only [Nat.zero_add, List.nil_append] at hown14
           have HO14 := Lib.hid hown14
           try rw [Nat.zero_add]
           clear hown14 hg14 hat14)
        | (refine wpList_append_rdW _ (by rfl) _ _ 45 rfl w13.heap.size 30 j0 _ 1 24 Try.underlying45 hj0 hy0 hy1 hy2 rfl (by decide) _ R.length vs rfl (World.ownsRow.alloc HO14.out _) _ 1 [.slice Au M.length cu] rfl (Rd.one _ _ _ rfl) (by simp [Value.oneCell']) m2 (by omega) (by have := hk14.size; simp; omega) ?_
           intro A15 cap15 w15 hown15 hg15 hat15
           have hk15 : Kept Kno w13 w15 := (hk14.alloc _).grown hg15 (fun q hq e => by have := (own_base HO14.out e).1; omega)
           have HL15 : Hid (LsR w15 (.slice A15 (R.length + 1) cap15) (vs ++ [.slice Au M.length cu]) (R ++ [M])) := Lib.hid (HLS13.out.snoc hk15 (Rd.kept0 HM13.out hk15) hown15)
           clear hown15 hg15 hat15)))
      refine (same_j _ _ vs13 _ (R ++ [M]) (R ++ [M]) w15 (HL13.out.kept0 hk15) HL15.out (by have := HLL.out; omega) (by have := HLL.out; omega)).mono ?_
      rw [decide_eq_true (Eq.refl (R ++ [M]))]
      rintro e w16 ⟨rfl, hk16⟩
      have HJ16 := Lib.hid ((HJ13.out.kept0 hk15).kept0 hk16)
      go_wp2_with fail
      refine (jlen_any HJ16.out).mono ?_
      rw [HLL.out]
      rintro e w17 ⟨rfl, rfl⟩
      go_wp2_with fail
      refine (begun_j _).mono ?_
      rintro e w18 ⟨rfl, hk18⟩
      go_wp2
      go_ret
      exact ⟨rfl, (((HK10.out.then0 hk13').then0 hk15).then0 hk16).then0 hk18⟩

end Go.Proofs.Yteoodgcpkgfomaa
