/-
  JournalTorn: the walk of the law.
-/
import Derived.Test.YteoodgcpkgfomaaJourQ
namespace Go.Proofs.Yteoodgcpkgfomaa
open Go.RowKit
set_option linter.unusedVariables false

def TornRel (R : List (List UInt8)) (w1 : World) (all ends i : Value) (wr : World) : Prop :=
  ∃ (k : Nat) (A : Option Addr) (cap : Nat) (A' : Option Addr) (cap' : Nat), k ≤ R.length ∧ i = .int .i64 (k : Nat) ∧ all = .slice A (frames (R.take k)).length cap ∧ OwnB wr w1.heap.size 5 (.slice A (frames (R.take k)).length cap) (frames (R.take k)) ∧
    ends = .slice A' (k + 1) cap' ∧ wr.ownsRow w1.heap.size 3 1 (.slice A' (k + 1) cap') (k + 1) (.int .i64 0 :: eVal (R.take k)) ∧ Kept Kno w1 wr

theorem take_snoc {α : Type} {R : List α} {k : Nat} {b : α} (h : R[k]? = some b) : R.take (k + 1) = R.take k ++ [b] := by
  rw [List.take_add_one, h]; rfl

theorem LsR.cut {w : World} {A : Option Addr} {cap m : Nat} {us : List Value} {rs : List (List UInt8)} (h : LsR w (.slice A rs.length cap) us rs) (hm : m ≤ rs.length) : LsR w (.slice A m cap) (us.take m) (rs.take m) := by
  have hl := h.len
  obtain ⟨A', cap', hv, h1, h2, h3, h4⟩ := h.1
  injection hv with e1 e2 e3
  subst e1 e3
  have e : (rs.take m).length = m := by rw [List.length_take]; omega
  refine ⟨⟨A, cap, by rw [e], by rw [e]; omega, by rw [e, List.length_take]; omega, fun hA => by have := h3 hA; rw [e]; omega, fun ad hA j u hj => ?_⟩, fun i x b hx hb => ?_⟩
  · rw [List.getElem?_take] at hj
    split at hj
    · exact h4 ad hA j u hj
    · cases hj
  · rw [List.getElem?_take] at hx hb
    split at hx
    · rw [if_pos ‹_›] at hb
      exact h.2 i x b hx hb
    · cases hx

/-- The ends as the law counts them: the first is 0. -/
theorem ends_cell {w : World} {base k : Nat} {A : Option Addr} {cap : Nat} {R : List (List UInt8)} (h : w.ownsRow base 3 1 (.slice A (k + 1) cap) (k + 1) (.int .i64 0 :: eVal R)) (hk : k = R.length) {j : Nat} (hj : j ≤ k) :
    ∃ g, A = some ⟨g, 0, none⟩ ∧ w.cell? ⟨g, j, none⟩ = some (.int .i64 ((frames (R.take j)).length : Nat)) := by
  rcases h.2 with ⟨h3, h4⟩ | ⟨g, cap', cur, h3, hb, hh, hnc, hcm, hs, ht⟩
  · omega
  · injection h3 with e1 e2 e3
    subst e1
    refine ⟨g, rfl, ?_⟩
    rw [cell_of_row w g j cur _ (0, 0) hh]
    have hx : (Value.int .i64 0 :: eVal R)[j]? = some (.int .i64 ((frames (R.take j)).length : Nat)) := by
      cases j with
      | zero => simp [frames]
      | succ j =>
        rw [List.getElem?_cons_succ]
        unfold eVal
        rw [List.getElem?_map, ends_at 0 j R (by omega), Nat.zero_add]
        rfl
    rw [← ht, List.getElem?_take] at hx
    split at hx
    · simpa using hx
    · cases hx

theorem own_onev (w : World) (t : TypeId) (x : Value) : (w.alloc (.cells #[x] t)).ownsRow w.heap.size t 1 (.slice (some ⟨w.heap.size, 0, none⟩) 1 1) 1 [x] :=
  ⟨rfl, .inr ⟨w.heap.size, 1, #[x], rfl, Nat.le_refl _, heap_alloc_new w _, by omega, by simp [maxLen], rfl, rfl⟩⟩
theorem field3 (v0 v1 v2 v3 v4 : Value) (w : World) : (Instr.field 47 (.agg #[v0, v1, v2, v3, v4]) 3).run Try.prog w = .ok v3 w := by kernel_rfl

set_option maxRecDepth 100000 in
set_option maxHeartbeats 20000000 in
theorem torn_walk (v : Value) (p : List Value × List (List UInt8)) (at_ : Int) (w : World) (hr : LsR w v p.1 p.2 ∧ p.2.length ≤ maxLen ∧ ∀ b ∈ p.2, b.length ≤ maxLen) (hat0 : 0 ≤ at_) (hat1 : at_ ≤ 65535) :
    Calls Try.prog 5 #[v, .int .u16 at_] w (RetNew (.bool true) w) := by
  obtain ⟨k0, hk0, hx0, hx1, hx2⟩ := info_parts info_ends
  have hf3 := field3
  obtain ⟨us, rs⟩ := p
  simp only at hr
  have HR := Lib.hid hr
  obtain ⟨Ar, cr, rfl, hrc⟩ := hr.1.form
  clear hr
  go_enter Try.func5, Try.ntmps5
  go_wp2_with fail
  refine (cut_any 0 0 (.slice none 0 0) _ [] us rs none 0 0 w (nil_bs w) HR.out.1 (by simp) HR.out.2.1 HR.out.2.2).mono ?_
  rintro e w1 ⟨A1, n1, c1, A2, c2, vs, rfl, -, hown1, hel1, hk1⟩
  have HLS : Hid (LsR w1 (.slice A2 (cutR rs).length c2) vs (cutR rs)) := Lib.hid ⟨Rd.of_own hown1, hel1⟩
  have hRl := cutR_len rs
  have hRm := fun (b : List UInt8) (hb : b ∈ cutR rs) => cutR_mem hb
  have hRf := cutR_frames rs
  have hRs := cutR_short rs
  have HRM := Lib.hid hRm
  have HRS := Lib.hid hRs
  have HK1 := Lib.hid hk1
  have hc3 : (cutR rs).length ≤ c2 := by
    obtain ⟨A3, cap3, e3, hc3⟩ := HLS.out.form
    injection e3 with _ _ e3
    omega
  generalize cutR rs = R at hRl hRf HLS HRM HRS hc3 ⊢
  clear hown1 hel1 hRm hRs hk1 HR hrc
  go_wp2_with fail
  clear hf3
  have hM := own_onev w1 3 (.int .i64 0)
  have hkM : Kept Kno w1 (w1.alloc (.cells #[.int .i64 0] 3)) := (Kept.refl _ _).alloc _
  generalize (w1.alloc (.cells #[.int .i64 0] 3)) = w2 at hM hkM ⊢
  have HM := Lib.hid hM
  have HKM := Lib.hid hkM
  clear hM hkM
  go_loopw [5, 6, 24] (fun all ends i wr => TornRel R w1 all ends i wr) (fun _ _ i _ => R.length - (intOf i).toNat)
  case atStart => exact ⟨0, none, 0, _, 1, by omega, rfl, rfl, World.ownsRow_nil _ _ _ _, rfl, HM.out, HKM.out⟩
  case round =>
    obtain ⟨k, A, cap, A', cap', hk, rfl, rfl, hall, rfl, hends, hkk⟩ := hrel
    have HALL := Lib.hid hall
    have HENDS := Lib.hid hends
    have HKK := Lib.hid hkk
    clear hall hends
    by_cases hlt : k < R.length
    · have hR := HLS.out.kept0 hkk
      obtain ⟨g, o, c9, x, hv, hx, hcell⟩ := hR.at hlt
      injection hv with e1 e2 e3
      subst e1 e3
      have hbk : R[k]? = some R[k] := List.getElem?_eq_getElem hlt
      have hml := HRM.out R[k] (List.getElem_mem hlt)
      generalize R[k] = b at hbk hml
      have hbs := hR.2 k x b hx hbk
      have t1 := run_string_bs (P := Try.prog) 30 9 5 hbs Try.underlying30 Try.underlying5 Try.underlying9
      obtain ⟨Ax, cx, rfl, -⟩ := hbs
      have HBK := Lib.hid hbk
      have hfl : (frames (R.take k)).length ≤ 2488 := Nat.le_trans (frames_take_le R k) hRf
      have hkz : (0 : Int) ≤ (k : Int) := by omega
      have hk1 : (k : Int) < (R.length : Int) := by omega
      clear hR hx hbk hkk e2
      go_wp2_with fail
      have hat := appendText_any (.slice A (frames (R.take k)).length cap) (frames (R.take k)) ⟨b.toArray⟩ wr (OwnB.bs HALL.out) (by show (frames (R.take k)).length + b.length ≤ 16000000; omega)
      have ef : frames (R.take k) ++ (leb (⟨b.toArray⟩ : ByteArray).size ++ sbytes ⟨b.toArray⟩) = frames (R.take (k + 1)) := by rw [take_snoc HBK.out, frames_snoc]; rfl
      rw [ef] at hat
      refine hat.mono ?_
      rintro e w4 ⟨A4, cap4, rfl, hown4, hk4⟩
      have HO4 := Lib.hid hown4
      have hs4 : w1.heap.size ≤ w4.heap.size := Nat.le_trans HKK.out.size hk4.size
      have mm : k + 1 + 1 ≤ maxLen := by simp only [maxLen]; omega
      have HE4 := Lib.hid (own_kept HENDS.out hk4 (fun _ _ h => h))
      clear hown4 hat ef t1
      go_wp2_with (at_builtin; (refine wpList_append_rd _ rfl _ _ 31 rfl w1.heap.size 3 k0 _ 1 8 Try.underlying31 hk0 hx0 hx1 hx2 rfl (by decide) (.slice A' (k + 1) cap') (k + 1) (.int .i64 0 :: eVal (R.take k)) rfl (World.ownsRow.alloc HE4.out _) _ 1 [.int .i64 ((frames (R.take (k + 1))).length : Nat)] rfl (Rd.one _ _ _ rfl) (by simp [Value.oneCell']) mm (by omega) (by simp; omega) ?_); intro A5 cap5 w5 hown5 hg5 hat5)
      go_roundw
      case rel =>
        have hkA : Kept Kno w4 (w4.alloc (.cells #[.int .i64 ((frames (R.take (k + 1))).length : Nat)] 3)) := (Kept.refl _ _).alloc _
        have hk5 : Kept (Kown (.slice A' (k + 1) cap')) w4 w5 := (hkA.mono (T := Kown (.slice A' (k + 1) cap')) (fun _ _ h => h.elim)).grown hg5 (fun q _ e => e)
        refine ⟨k + 1, A4, cap4, A5, cap5, by omega, by go_num, rfl, ?_, rfl, ?_, ?_⟩
        · exact own_rebase (own_kept HO4.out hk5 (fun q e e' => absurd ((own_bt HO4.out e).one (own_bt HE4.out e')) (by decide))) (fun q e => Nat.le_trans HKK.out.size (own_base HO4.out e).1)
        · rw [take_snoc HBK.out, eVal_snoc, ← take_snoc HBK.out]
          exact hown5
        · exact (HKK.out.then0 hk4).trans hk5 (fun q hq e => by have := (own_base HE4.out e).1; omega)
      case measure => simp [intOf]; omega
    · have hk1 : ¬ (k : Int) < (R.length : Int) := by omega
      obtain rfl : k = R.length := by omega
      have HALL2 : Hid (OwnB wr w1.heap.size 5 (.slice A (frames R).length cap) (frames R)) := Lib.hid (by have h9 := HALL.out; rw [List.take_length] at h9; exact h9)
      have HENDS2 : Hid (wr.ownsRow w1.heap.size 3 1 (.slice A' (R.length + 1) cap') (R.length + 1) (.int .i64 0 :: eVal R)) := Lib.hid (by have h9 := HENDS.out; rw [List.take_length] at h9; exact h9)
      rw [List.take_length]
      clear HALL HENDS hkk HM HKM
      have hL1 : (0 : Int) < ((frames R).length : Int) + 1 := by omega
      obtain ⟨n, hn⟩ : ∃ n : Nat, at_ % (((frames R).length : Int) + 1) = (n : Int) := ⟨(at_ % (((frames R).length : Int) + 1)).toNat, by have := Int.emod_nonneg at_ (show ((frames R).length : Int) + 1 ≠ 0 by omega); omega⟩
      have hn1 : n ≤ (frames R).length := by have := Int.emod_lt_of_pos at_ hL1; omega
      have hcapA := own_cap HALL2.out rfl
      have hn2 : n ≤ cap := by have := hcapA.1; omega
      have hn3 : (n : Int) ≤ (cap : Int) := by omega
      have hn4 : (0 : Int) ≤ (n : Int) := by omega
      clear hcapA
      go_wp2_with fail
      refine (new_ok 16777216 _ (by omega) (by omega)).mono ?_
      rintro e w5 ⟨rfl, hw5⟩
      have hk5 : Kept Kno wr w5 := by rw [hw5]; exact (Kept.refl _ _).alloc _
      have hn5 : Is w5 wr.heap.size wr.heap.size (List.replicate 8 noFile) (ab0 16777216) := by rw [hw5]; exact is_new wr _ 16777216 (Nat.le_refl _) (by omega) (by omega)
      have HN5 := Lib.hid hn5
      have HALL5 := Lib.hid (own_kept HALL2.out hk5 (fun _ _ h => h))
      clear hw5 hn5
      go_wp2_with fail
      have hbsn : Bs w5 (.slice A n cap) ((frames R).take n) := Bs.cut (OwnB.bs HALL5.out) hn1
      have hap := append_any 0 _ ((frames R).take n) HN5.out hbsn
      have hln : ((frames R).take n).length = n := by rw [List.length_take]; omega
      rw [show (0 : Int) = ((0 : Nat) : Int) from rfl, (calm0 16777216).append (f := 0) (by omega) _ (by rw [used0, hln]; show ((0 : Nat) : Int) + (n : Int) ≤ 16777216; omega)] at hap
      have e0 : ((ab0 16777216).file 0) = ([], 0) := rfl
      rw [e0] at hap
      simp only [List.nil_append] at hap
      refine hap.mono ?_
      rintro e w6 ⟨rfl, ht6⟩
      obtain ⟨fs6, hi6, hkk6, -⟩ := ht6.is
      have hk6 : Kept Kno wr w6 := HN5.out.kept hk5 (Nat.le_refl _) hkk6
      have HI6 := Lib.hid hi6
      clear ht6 hi6 hkk6 hap e0 hbsn
      have hcalm : Calm ((ab0 16777216).put 0 ((frames R).take n, 0)) := (calm0 16777216).put _
      have hfile : (((ab0 16777216).put 0 ((frames R).take n, 0)).file 0).1 = (frames R).take n := by rw [(calm0 16777216).file_put (by omega)]
      obtain ⟨kc, hcut⟩ := scan_cut R n HRS.out hn1
      obtain ⟨a7, ho7, hc7, -, hf7, -⟩ := jopen_calm (f := 0) hcalm (by omega) (L := R) (k := kc) (by rw [hfile]; exact hcut)
      have HC := Lib.hid hcut
      have HO7 := Lib.hid ho7
      have HC7 := Lib.hid hc7
      have HF7 := Lib.hid hf7
      clear hcut ho7 hc7 hf7
      go_wp2_with fail
      have hop := open_any wr.heap.size wr.heap.size 0 fs6 _ w6 HI6.out (by rw [show (0 : Int) = ((0 : Nat) : Int) from rfl, hcalm.read (by omega), hfile, hln]; omega)
      have ho7' := HO7.out
      rw [Int.natCast_zero] at ho7'
      rw [ho7'] at hop
      refine hop.mono ?_
      rintro e w7 ⟨fs7, hi7, hkk7, hd7, J, rv, ev, us7, rfl, hj7, ha7⟩
      have hk7 : Kept Kno wr w7 := HI6.out.kept hk6 (Nat.le_refl _) hkk7
      have HI7 := Lib.hid hi7
      have HJ7 := Lib.hid hj7
      have HE7 := Lib.hid (own_kept HENDS2.out hk7 (fun _ _ h => h))
      have HK7 := Lib.hid (HKK.out.then0 hk7)
      clear hi7 hkk7 hd7 hj7 ha7 hop ho7' hfile hcalm HI6 HN5 HALL5 HALL2 HENDS2
      obtain ⟨ge, he0, hce0⟩ := ends_cell HE7.out rfl (j := 0) (by omega)
      have hce : ∀ j, j ≤ R.length → w7.cell? ⟨ge, j, none⟩ = some (.int .i64 ((frames (R.take j)).length : Nat)) := fun j hj => by
        obtain ⟨g2, hg2, hc2⟩ := ends_cell HE7.out rfl (j := j) hj
        rw [he0] at hg2
        injection hg2 with hg2
        injection hg2 with hg2
        rw [hg2]; exact hc2
      have HCE := Lib.hid hce
      subst he0
      clear hce hce0
      go_wp2_with fail
      go_loopw [14] (fun i wx => ∃ j : Nat, j ≤ R.length ∧ i = .int .i64 (j : Nat) ∧ (frames (R.take j)).length ≤ n ∧ Kept Kno w7 wx) (fun i _ => R.length - (intOf i).toNat)
      case atStart => exact ⟨0, by omega, rfl, by simp [frames], Kept.refl _ _⟩
      case round =>
        obtain ⟨j, hj, rfl, hjn, hkx⟩ := hrel
        have hj0 : (0 : Int) ≤ (j : Int) + 1 := by omega
        by_cases hjl : j + 1 < R.length + 1
        · have hcj := hkx.cell_some (HCE.out (j + 1) (by omega)) (fun h => h)
          have hjl2 : (j : Int) + 1 < (R.length : Int) + 1 := by omega
          generalize hG : (frames (R.take (j + 1))).length = G at hcj
          by_cases hle : G ≤ n
          · have hle2 : (G : Int) ≤ (n : Int) := by omega
            have HGG := Lib.hid hG
            clear hG
            go_wp2
            go_roundw
            case rel => exact ⟨j + 1, by omega, by go_num, by rw [HGG.out]; exact hle, hkx⟩
            case measure => simp [intOf]; omega
          · have hle2 : ¬ (G : Int) ≤ (n : Int) := by omega
            have HKJ : Hid (kc = j) := Lib.hid (cut_unique HC.out hj (by rw [hln]; exact hjn) (fun _ => by rw [hln, hG]; omega))
            have hcg := hcj
            clear hG hcj
            obtain rfl := HKJ.out
            have hcj := hkx.cell_some (HCE.out kc hj) (fun h => h)
            have hjz : (0 : Int) ≤ (kc : Int) := by omega
            have hjR : (kc : Int) ≤ (c2 : Int) := by omega
            have hjR2 : kc ≤ c2 := by omega
            have hjR3 : (kc : Int) < (R.length : Int) + 1 := by omega
            have HJX := Lib.hid (HJ7.out.kept0 hkx)
            have HLX := Lib.hid (((HLS.out.kept0 HK7.out).kept0 hkx).cut hj)
            have hrd : a7.read 0 = (frames (R.take kc), 0) := by
              have h9 := HC7.out.read (f := 0) (by omega)
              rw [HF7.out] at h9
              exact h9
            have HRD := Lib.hid hrd
            clear hrd
            go_wp2_with fail
            refine (size_any 0 (HI7.out.kept0 hkx)).mono ?_
            rw [HRD.out]
            rintro e w8 ⟨rfl, rfl⟩
            simp only
            generalize (frames (R.take kc)).length = G at hcj hjn
            have HKX := Lib.hid (HK7.out.then0 hkx)
            have HTL : Hid ((R.take kc).length = kc) := Lib.hid (by rw [List.length_take]; omega)
            clear hkx hL1 hn hn1 hn2 hn3 hn4 hln hat0 hat1 hRf HRM HRS hc3 HC HO7 HC7 HF7 HCE HE7 HLS HKK HRD hk5 hk6 hk7
            go_wp2_with fail
            go_region_with (first
              | (go_at_call 29
                 refine (records_any (HJX.out.kept0 (Kept.drew (Kept.refl Kno _)))).mono ?_
                 rintro e w9 ⟨A9, cap9, vs9, rfl, hls9, hk9⟩
                 have HL9 : Hid (LsR w9 (.slice A9 kc cap9) vs9 (R.take kc)) := Lib.hid (by have h9 := hls9.r; rw [HTL.out] at h9; exact h9)
                 clear hls9
                 have hcj9 := hk9.cell_some hcj (fun h => h))
              | (go_at_call 30
                 refine (same_j _ _ vs9 _ (R.take kc) (R.take kc) _ HL9.out ((HLX.out.kept0 (Kept.drew (Kept.refl Kno _))).kept0 hk9) (by rw [List.length_take]; omega) (by rw [List.length_take]; omega)).mono ?_
                 rw [decide_eq_true (Eq.refl (R.take kc))]
                 rintro e w10 ⟨rfl, hk10⟩
                 have hcj10 := hk10.cell_some hcj9 (fun h => h))
              | (go_at_call 31
                 refine (begun_j _).mono ?_
                 rintro e w11 ⟨rfl, hk11⟩))
            all_goals
              go_wp2
              go_ret
              exact ⟨rfl, ((((HK1.out.then0 HKX.out).then0 (Kept.drew (Kept.refl Kno _))).then0 hk9).then0 hk10).then0 hk11⟩
        · have hjl2 : ¬ (j : Int) + 1 < (R.length : Int) + 1 := by omega
          have HKJ : Hid (kc = j) := Lib.hid (cut_unique HC.out hj (by rw [hln]; exact hjn) (fun h => by omega))
          obtain rfl := HKJ.out
          have hcj := hkx.cell_some (HCE.out kc hj) (fun h => h)
          have hjz : (0 : Int) ≤ (kc : Int) := by omega
          have hjR : (kc : Int) ≤ (c2 : Int) := by omega
          have hjR2 : kc ≤ c2 := by omega
          have hjR3 : (kc : Int) < (R.length : Int) + 1 := by omega
          have HJX := Lib.hid (HJ7.out.kept0 hkx)
          have HLX := Lib.hid (((HLS.out.kept0 HK7.out).kept0 hkx).cut hj)
          have hrd : a7.read 0 = (frames (R.take kc), 0) := by
            have h9 := HC7.out.read (f := 0) (by omega)
            rw [HF7.out] at h9
            exact h9
          have HRD := Lib.hid hrd
          clear hrd
          go_wp2_with fail
          refine (size_any 0 (HI7.out.kept0 hkx)).mono ?_
          rw [HRD.out]
          rintro e w8 ⟨rfl, rfl⟩
          simp only
          generalize (frames (R.take kc)).length = G at hcj hjn
          have HKX := Lib.hid (HK7.out.then0 hkx)
          have HTL : Hid ((R.take kc).length = kc) := Lib.hid (by rw [List.length_take]; omega)
          clear hkx hL1 hn hn1 hn2 hn3 hn4 hln hat0 hat1 hRf HRM HRS hc3 HC HO7 HC7 HF7 HCE HE7 HLS HKK HRD hk5 hk6 hk7
          go_wp2_with fail
          go_region_with (first
            | (go_at_call 29
               refine (records_any (HJX.out.kept0 (Kept.drew (Kept.refl Kno _)))).mono ?_
               rintro e w9 ⟨A9, cap9, vs9, rfl, hls9, hk9⟩
               have HL9 : Hid (LsR w9 (.slice A9 kc cap9) vs9 (R.take kc)) := Lib.hid (by have h9 := hls9.r; rw [HTL.out] at h9; exact h9)
               clear hls9
               have hcj9 := hk9.cell_some hcj (fun h => h))
            | (go_at_call 30
               refine (same_j _ _ vs9 _ (R.take kc) (R.take kc) _ HL9.out ((HLX.out.kept0 (Kept.drew (Kept.refl Kno _))).kept0 hk9) (by rw [List.length_take]; omega) (by rw [List.length_take]; omega)).mono ?_
               rw [decide_eq_true (Eq.refl (R.take kc))]
               rintro e w10 ⟨rfl, hk10⟩
               have hcj10 := hk10.cell_some hcj9 (fun h => h))
            | (go_at_call 31
               refine (begun_j _).mono ?_
               rintro e w11 ⟨rfl, hk11⟩))
          all_goals
            go_wp2
            go_ret
            exact ⟨rfl, ((((HK1.out.then0 HKX.out).then0 (Kept.drew (Kept.refl Kno _))).then0 hk9).then0 hk10).then0 hk11⟩

end Go.Proofs.Yteoodgcpkgfomaa
