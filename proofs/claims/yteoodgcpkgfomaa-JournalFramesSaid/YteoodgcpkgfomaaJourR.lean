/-
  Journal: Rewrite.
-/
import Derived.Test.YteoodgcpkgfomaaJourQ
namespace Go.Proofs.Yteoodgcpkgfomaa
open Go.RowKit
set_option linter.unusedVariables false

def RewRel (bs : List (List UInt8)) (w : World) (b ends i : Value) (wr : World) : Prop :=
  ∃ (k : Nat) (A : Option Addr) (cap : Nat) (A' : Option Addr) (cap' : Nat), k ≤ bs.length ∧ i = .int .i64 (k : Nat) ∧ b = .slice A (frames (bs.take k)).length cap ∧ OwnB wr w.heap.size 5 (.slice A (frames (bs.take k)).length cap) (frames (bs.take k)) ∧
    ends = .slice A' k cap' ∧ wr.ownsRow w.heap.size 3 1 (.slice A' k cap') k (eVal (bs.take k)) ∧ Kept Kno w wr
theorem take_snocr {α : Type} {R : List α} {k : Nat} {b : α} (h : R[k]? = some b) : R.take (k + 1) = R.take k ++ [b] := by
  rw [List.take_add_one, h]; rfl

/-- The journal holds new rows. -/
theorem jr_fresh {w wx w3 w4 : World} {base J B : Nat} {file : Int} {rv ev : Value} {us : List Value} {fs fsq : List File} {rs : List (List UInt8)} {off : Bool} {a' : Ab} {bs : List (List UInt8)} {rv' ev' : Value} {vs : List Value} (hbase : base ≤ w.heap.size)
    (hj3 : Jr w3 base J B file rv ev us rs off) (hi3 : Is w3 base B fsq a') (hk3 : Kept (fun k => JOwn J rv ev us k ∨ DK B fs k) w w3) (hdk : ∀ k, DK B fsq k → DK B fs k ∨ wx.heap.size ≤ k) (hxw : w.heap.size ≤ wx.heap.size) (hfs : ∀ k, DK B fs k → k < w.heap.size)
    (hk4 : Kept Kno w3 w4) (hls : Ls w4 w3.heap.size rv' vs bs) (her : ER w4 w.heap.size ev' bs) (hex : ∀ k, ev'.ownBlock = some k → k < wx.heap.size) (hfit : (frames bs).length ≤ 20000000) :
    JTurn base J B file fs rv ev us ⟨a', bs, off⟩ w ((w4.setCell ⟨J, 2, none⟩ rv').setCell ⟨J, 3, none⟩ ev') := by
  have hJ3 : J < w3.heap.size := hj3.blk.lt
  have hs3 := hk3.size
  have hj4 := hj3.kept0 hk4
  have hkJ : Kept (Kone J) w4 ((w4.setCell ⟨J, 2, none⟩ rv').setCell ⟨J, 3, none⟩ ev') := Kept.setIn (S := Kone J) (Kept.setIn (S := Kone J) (Kept.refl _ _) (p := ⟨J, 2, none⟩) (Eq.refl J) _) (p := ⟨J, 3, none⟩) (Eq.refl J) _
  have hrv : ∀ k, rv'.ownBlock = some k → w3.heap.size ≤ k := fun k e => (own_base hls.1 e).1
  have hvs : ∀ u ∈ vs, ∀ k, u.ownBlock = some k → w3.heap.size ≤ k := fun u hu k e => by
    obtain ⟨i, hi⟩ := List.mem_iff_getElem?.1 hu
    have hl := hls.len
    have hlt : i < vs.length := (List.getElem?_eq_some_iff.1 hi).1
    exact (own_base (hls.2 i u _ hi (List.getElem?_eq_getElem (by omega))) e).1
  have hev : ∀ k, ev'.ownBlock = some k → w.heap.size ≤ k := fun k e => (own_base her e).1
  have hevJ : ev'.ownBlock ≠ some J := fun e => absurd (hj4.blk.bt.one (own_bt her e)) (by decide)
  have hJd : ¬ DK B fsq J := fun h => by
    rcases h with h | ⟨f, hf, e⟩
    · subst h; exact absurd (hj3.blk.bt.one hi3.1.blk.bt) (by decide)
    · exact absurd (hj3.blk.bt.one (own_bt (hi3.1.files f hf).1 e)) (by decide)
  refine ⟨fsq, rv', ev', vs, is_far (is_far hi3 hk4 (fun k h => h.elim)) hkJ (fun k e => by unfold Kone at e; subst e; exact hJd), ⟨hj3.low, (hj4.blk.set_ 2 rv').set_ 3 ev', ?_, ?_, hfit⟩, ?_, ?_, fun k h => (hdk k h).imp_right (fun h => by omega), ?_⟩
  · refine (hls.rr.rebase (by omega)).kept hkJ (fun k e e' => ?_) (fun u hu k e e' => ?_)
    · unfold Kone at e'; have := hrv k e; omega
    · unfold Kone at e'; have := hvs u hu k e; omega
  · exact (her.rebase hbase).kept hkJ (fun k e e' => by unfold Kone at e'; subst e'; exact hevJ e)
  · rintro k (rfl | e | e | ⟨u, hu, e⟩) hd
    · exact hJd hd
    · have := hrv k e; have := (hi3.low hd).2; omega
    · have h1 := hev k e
      have h2 := hex k e
      rcases hdk k hd with h | h
      · have := hfs k h; omega
      · omega
    · have := hvs u hu k e; have := (hi3.low hd).2; omega
  · exact (hk3.then0 hk4).trans hkJ (fun k _ e => .inl (.inl e))
  · rintro k (rfl | e | e | ⟨u, hu, e⟩)
    · exact .inl (.inl rfl)
    · exact .inr (by have := hrv k e; omega)
    · exact .inr (hev k e)
    · exact .inr (by have := hvs u hu k e; omega)

set_option maxRecDepth 100000 in
set_option maxHeartbeats 8000000 in
theorem jrewrite_any {w : World} {base J B : Nat} {file : Int} {rv ev : Value} {us : List Value} {fs : List File} (s : JA) (v : Value) (ws : List Value) (bs : List (List UInt8)) (hj : Jr w base J B file rv ev us s.rs s.off) (hi : Is w base B fs s.a) (ha : JApart J B fs rv ev us) (hb : LsR w v ws bs)
    (hbJ : ∀ w1, Kept (fun k => JOwn J rv ev us k ∨ DK B fs k) w w1 → LsR w1 v ws bs) (hcnt : bs.length ≤ 1000000) (hfit : (bs.any fun b => decide (1048576 < b.length)) = false → (frames bs).length ≤ 20000000) (hbase : base ≤ w.heap.size) (hlen : ∀ b ∈ bs, b.length ≤ maxLen) :
    Calls Try.prog 39 #[.pointer (some ⟨J, 0, none⟩), v] w (JRet base J B file fs rv ev us (s.rewrite file bs) w) := by
  obtain ⟨i0, hi0, hz0, hz1, hz2⟩ := info_parts info_byte
  obtain ⟨q0, hq0, hx0, hx1, hx2⟩ := info_parts info_ends
  obtain ⟨a, rs, off⟩ := s
  simp only at hj hi
  have c4 := hj.c_off
  have HJ := Lib.hid hj
  have HI := Lib.hid hi
  have HA := Lib.hid ha
  have HB := Lib.hid hb
  have HBJ := Lib.hid hbJ
  have HF := Lib.hid hfit
  have HL := Lib.hid hlen
  obtain ⟨Av, cv, rfl, hcv⟩ := hb.form
  clear hj hi ha hbJ hfit hb hlen
  unfold JA.rewrite
  cases off with
  | true =>
    simp only [if_true]
    have HT := Lib.hid (jturn0 HJ.out HI.out HA.out (Kept.refl Kno w))
    go_enter Try.func39, Try.ntmps39
    go_wp2
    go_ret
    exact ⟨rfl, HT.out⟩
  | false =>
    simp only [Bool.false_eq_true, if_false]
    have HT := Lib.hid (jturn0 HJ.out HI.out HA.out (Kept.refl Kno w))
    obtain ⟨⟨a', c⟩, hp⟩ : ∃ p, p = a.replace file (frames bs) := ⟨_, rfl⟩
    have HP := Lib.hid hp
    rw [← hp]
    clear hp
    obtain ⟨res, hres⟩ : ∃ res, res = (if (bs.any fun b => decide (1048576 < b.length)) = true then ((⟨a, rs, false⟩ : JA), (2 : Int)) else (⟨a, rs, false⟩ : JA).done (a', c) bs) := ⟨_, rfl⟩
    rw [← hres]
    have HRES := Lib.hid hres
    clear hres
    go_enter Try.func39, Try.ntmps39
    go_wp2_with fail
    go_loopw [18] (fun i wr => ∃ k : Nat, k ≤ bs.length ∧ i = .int .i64 (k : Nat) ∧ (∀ b ∈ bs.take k, b.length ≤ 1048576) ∧ wr = w) (fun i _ => bs.length - (intOf i).toNat)
    case atStart => exact ⟨0, by omega, rfl, by simp, rfl⟩
    case round =>
      obtain ⟨k, hk, rfl, hsm, hwr⟩ := hrel
      have HSM := Lib.hid hsm
      have HWR := Lib.hid hwr
      clear hsm
      by_cases hlt : k < bs.length
      · obtain ⟨g, o, c9, x, hv, hx, hcell⟩ := HB.out.at hlt
        injection hv with e1 e2 e3
        subst e1 e3
        have hbk : bs[k]? = some bs[k] := List.getElem?_eq_getElem hlt
        generalize bs[k] = b at hbk
        have hbs := HB.out.2 k x b hx hbk
        obtain ⟨Ax, cx, rfl, -⟩ := hbs
        have HBK := Lib.hid hbk
        have hlb := HL.out b (List.mem_of_getElem? hbk)
        have n60 : b.length ≤ 9223372036854775807 := by simp only [maxLen] at hlb; omega
        have hkz : (0 : Int) ≤ (k : Int) := by omega
        have hk1 : (k : Int) < (bs.length : Int) := by omega
        rw [← hwr] at hcell
        clear hx hbk e2 hwr hlb
        by_cases hbig : 1048576 < b.length
        · have hbig2 : (1048576 : Int) < (b.length : Int) := by omega
          have hany : (bs.any fun b => decide (1048576 < b.length)) = true := List.any_eq_true.2 ⟨b, List.mem_of_getElem? HBK.out, by simpa using hbig⟩
          have HE : Hid (res = (⟨a, rs, false⟩, 2)) := Lib.hid (by rw [HRES.out, if_pos hany])
          clear hany
          go_wp2
          go_ret
          rw [HE.out]
          refine ⟨rfl, ?_⟩
          rw [HWR.out]
          exact HT.out
        · have hbig2 : ¬ (1048576 : Int) < (b.length : Int) := by omega
          go_wp2
          go_roundw
          case rel =>
            refine ⟨k + 1, by omega, by go_num, fun c hc => ?_, HWR.out⟩
            rw [take_snocr HBK.out] at hc
            rcases List.mem_append.1 hc with h | h
            · exact HSM.out c h
            · rw [List.mem_singleton.1 h]; omega
          case measure => simp [intOf]; omega
      · have hk1 : ¬ (k : Int) < (bs.length : Int) := by omega
        obtain rfl : k = bs.length := by omega
        have hany : (bs.any fun b => decide (1048576 < b.length)) = false := by
          rw [List.any_eq_false]
          intro b hb
          have h9 := HSM.out
          rw [List.take_length] at h9
          have := h9 b hb
          simp; omega
        have hft := HF.out hany
        have HSH : Hid (Short bs) := Lib.hid (by have h9 := HSM.out; rw [List.take_length] at h9; exact h9)
        have HE : Hid (res = (⟨a, rs, false⟩ : JA).done (a', c) bs) := Lib.hid (by rw [HRES.out, hany]; rfl)
        subst hwr
        clear hany HSM HWR HRES
        obtain ⟨w0, rfl⟩ : ∃ w0 : World, w0 = wr := ⟨_, rfl⟩
        go_wp2_with fail
        go_loopw [7, 8, 28] (fun b ends i wr' => RewRel bs w0 b ends i wr') (fun _ _ i _ => bs.length - (intOf i).toNat)
        case atStart => exact ⟨0, none, 0, none, 0, by omega, rfl, rfl, World.ownsRow_nil _ _ _ _, rfl, World.ownsRow_nil _ _ _ _, Kept.refl _ _⟩
        case round =>
          obtain ⟨k, A, cap, A', cap', hk, rfl, rfl, hall, rfl, hends, hkk⟩ := hrel
          have HALL := Lib.hid hall
          have HENDS := Lib.hid hends
          have HKK := Lib.hid hkk
          clear hall hends
          by_cases hlt : k < bs.length
          · have hR := HB.out.kept0 hkk
            obtain ⟨g, o, c9, x, hv, hx, hcell⟩ := hR.at hlt
            injection hv with e1 e2 e3
            subst e1 e3
            have hbk : bs[k]? = some bs[k] := List.getElem?_eq_getElem hlt
            have hml := HSH.out bs[k] (List.getElem_mem hlt)
            generalize bs[k] = b at hbk hml
            have hbs := hR.2 k x b hx hbk
            have t1 := run_string_bs (P := Try.prog) 30 9 5 hbs Try.underlying30 Try.underlying5 Try.underlying9
            obtain ⟨Ax, cx, rfl, -⟩ := hbs
            have HBK := Lib.hid hbk
            have hfl : (frames (bs.take (k + 1))).length ≤ 20000000 := Nat.le_trans (frames_take_le bs (k + 1)) hft
            have hfe : (frames (bs.take (k + 1))).length = (frames (bs.take k)).length + (frame b).length := by rw [take_snocr hbk, frames_snoc, List.length_append]
            have hkz : (0 : Int) ≤ (k : Int) := by omega
            have hk1 : (k : Int) < (bs.length : Int) := by omega
            have HFE := Lib.hid hfe
            clear hR hx hbk hkk e2 hfe
            have hat := appendText_nil b wr (by omega)
            simp only [strOf] at hat
            go_wp2_with fail
            refine hat.mono ?_
            rintro e w4 ⟨A4, cap4, rfl, hown4, hk4⟩
            have HO4 := Lib.hid hown4
            have hs4 : w0.heap.size ≤ w4.heap.size := Nat.le_trans HKK.out.size hk4.size
            have HB4 := Lib.hid (own_kept HALL.out hk4 (fun _ _ h => h))
            have HE4 := Lib.hid (own_kept HENDS.out hk4 (fun _ _ h => h))
            have m1 : (frames (bs.take k)).length + (frame b).length ≤ maxLen := by have := HFE.out; simp only [maxLen]; omega
            have m3 : ((frames (bs.take k)).length + (frame b).length) * 1 ≤ 140737488355328 := by have := HFE.out; omega
            have m2 : k + 1 ≤ maxLen := by simp only [maxLen]; omega
            clear hown4 hat t1
            go_wp2_with (at_builtin; first
              | (refine wpList_append_rd _ rfl _ _ 30 rfl w0.heap.size 5 i0 _ 1 1 Try.underlying30 hi0 hz0 hz1 hz2 rfl (by decide) (.slice A (frames (bs.take k)).length cap) (frames (bs.take k)).length ((frames (bs.take k)).map bv) rfl HB4.out _ (frame b).length ((frame b).map bv) rfl (OwnB.bs HO4.out) (bvs_one _) m1 m3 hs4 ?_
                 intro A5 cap5 w5 hown5 hg5 hat5
                 have hk5 : Kept (Kown (.slice A (frames (bs.take k)).length cap)) w4 w5 := (Kept.refl _ w4).grown hg5 (fun q _ e => e)
                 have HB5 : Hid (OwnB w5 w0.heap.size 5 (.slice A5 ((frames (bs.take k)).length + (frame b).length) cap5) (frames (bs.take (k + 1)))) := Lib.hid (by
                   unfold OwnB
                   rw [HFE.out, take_snocr HBK.out, frames_snoc, List.map_append]
                   exact hown5)
                 have HE5 := Lib.hid (own_kept HE4.out hk5 (fun q e e' => absurd ((own_bt HE4.out e).one (own_bt HB4.out e')) (by decide)))
                 have hs5 := hk5.size
                 have hkk5 : Kept Kno w0 w5 := (HKK.out.then0 hk4).trans hk5 (fun q hq e => by have := (own_base HB4.out e).1; omega)
                 rw [← HFE.out]
                 clear hown5 hg5 hat5)
              | (refine wpList_append_rd _ rfl _ _ 31 rfl w0.heap.size 3 q0 _ 1 8 Try.underlying31 hq0 hx0 hx1 hx2 rfl (by decide) (.slice A' k cap') k (eVal (bs.take k)) rfl (World.ownsRow.alloc HE5.out _) _ 1 [.int .i64 ((frames (bs.take (k + 1))).length : Nat)] rfl (Rd.one _ _ _ rfl) (by simp [Value.oneCell']) m2 (by omega) (by simp; omega) ?_
                 intro A6 cap6 w6 hown6 hg6 hat6))
            go_roundw
            case rel =>
              have hkA : Kept Kno w5 (w5.alloc (.cells #[.int .i64 ((frames (bs.take (k + 1))).length : Nat)] 3)) := (Kept.refl _ _).alloc _
              have hk6 : Kept (Kown (.slice A' k cap')) w5 w6 := (hkA.mono (T := Kown (.slice A' k cap')) (fun _ _ h => h.elim)).grown hg6 (fun q _ e => e)
              have hB5 := HB5.out
              rw [← HFE.out] at hB5
              refine ⟨k + 1, A5, cap5, A6, cap6, by omega, by go_num, rfl, ?_, rfl, ?_, ?_⟩
              · exact own_kept hB5 hk6 (fun q e e' => absurd ((own_bt hB5 e).one (own_bt HE5.out e')) (by decide))
              · rw [take_snocr HBK.out, eVal_snoc, ← take_snocr HBK.out]
                exact hown6
              · exact hkk5.trans hk6 (fun q hq e => by have := (own_base HE5.out e).1; omega)
            case measure => simp [intOf]; omega
          · have hk1 : ¬ (k : Int) < (bs.length : Int) := by omega
            obtain rfl : k = bs.length := by omega
            have HALL2 : Hid (OwnB wr w0.heap.size 5 (.slice A (frames bs).length cap) (frames bs)) := Lib.hid (by have h9 := HALL.out; rw [List.take_length] at h9; exact h9)
            have HENDS2 : Hid (ER wr w0.heap.size (.slice A' bs.length cap') bs) := Lib.hid (by have h9 := HENDS.out; rw [List.take_length] at h9; exact h9)
            rw [List.take_length]
            have HJR := Lib.hid (HJ.out.kept0 hkk)
            have c0 := HJR.out.c_disk
            have c1 := HJR.out.c_file
            clear HALL HENDS hkk c4
            have HJd := Lib.hid (HJR.out.kept0 (Kept.drew (Kept.refl Kno wr)))
            have HId := Lib.hid ((HI.out.kept0 HKK.out).kept0 (Kept.drew (Kept.refl Kno wr)))
            have hrep := replace_any file _ (frames bs) HId.out (OwnB.bs (own_kept HALL2.out (Kept.drew (Kept.refl Kno wr)) (fun _ _ h => h)))
            rw [← HP.out] at hrep
            have HREP := Lib.hid hrep
            clear hrep
            go_wp2_with fail
            go_region_with (first
              | (go_at_call 34
                 refine HREP.out.mono ?_
                 rintro e w2 ⟨rfl, ht⟩
                 have HTN := Lib.hid (jturn_note c HJd.out HId.out HA.out ht)
                 have d4 := (jr_turn HJd.out HA.out ht).c_off
                 have g4 := (jr_turn HJd.out HA.out ht).blk.frozen 4
                 clear ht)
              | (go_at_call 63
                 refine (note_any J _ false w2 d4 g4).mono ?_
                 rintro e w3 ⟨rfl, hw3⟩
                 rw [← hw3] at HTN
                 clear hw3))
            all_goals
              clear c0 c1 d4 g4
              by_cases hc : c = 0
              · subst hc
                obtain ⟨fsq, hiq, hjq, haq, hkq, hdkq⟩ := HTN.out.2
                rw [decide_eq_false (show ¬ (0 : Int) = 220 by decide)] at hjq
                have hkd : Kept Kno w0 wr.drew := HKK.out.then0 (Kept.drew (Kept.refl Kno wr))
                have hk3 : Kept (fun k => JOwn J rv ev us k ∨ DK B fs k) w0 w3 := (hkd.mono (T := fun k => JOwn J rv ev us k ∨ DK B fs k) (fun _ _ h => h.elim)).trans hkq (fun _ _ h => h)
                have HL3 := Lib.hid (HBJ.out w3 hk3)
                have HIQ := Lib.hid hiq
                have HJQ := Lib.hid hjq
                have HK3 := Lib.hid hk3
                have HDQ := Lib.hid hdkq
                have HE3 : Hid (ER w3 w0.heap.size (.slice A' bs.length cap') bs) := Lib.hid ((HENDS2.out.kept0 (Kept.drew (Kept.refl Kno wr))).kept hkq (fun q e e' => by
                  have h1 := (own_base HENDS2.out e).1
                  rcases e' with e' | e'
                  · have := (HJ.out.own_low e').2; omega
                  · have := (HI.out.low e').2; omega))
                have d2 := hjq.c_recs
                have d3 := hjq.c_ends
                have g2 := hjq.blk.frozen 2
                have g3 := hjq.blk.frozen 3
                have lJ := hjq.blk.lt
                obtain ⟨Ar, cr, hrv⟩ := own_form hjq.rr.row
                obtain ⟨Ae, ce, hev⟩ := own_form hjq.er
                rw [hrv] at d2
                rw [hev] at d3
                clear hiq hjq haq hkq hdkq HTN hk3 hrv hev HREP HJd HId
                go_wp2_with fail
                refine (clone_any _ ws bs w3 HL3.out (by omega) (fun b hb => by have := HSH.out b hb; omega)).mono ?_
                rintro e w4 ⟨A8, cap8, vs8, rfl, hls8, hk8⟩
                have HT9 := Lib.hid (jr_fresh (wx := wr.drew) hbase HJQ.out HIQ.out HK3.out HDQ.out hkd.size (fun k h => (HI.out.low h).2) hk8 hls8 (HE3.out.kept0 hk8) (fun k e => (own_base HENDS2.out e).2) hft)
                have p2 := hk8.cell_some d2 (fun h => h)
                have p3 := hk8.cell_some d3 (fun h => h)
                have r2 := hk8.frozen_no g2 lJ (fun h => h)
                have r3 := hk8.frozen_no g3 lJ (fun h => h)
                clear hls8 d2 d3 g2 g3
                go_wp2
                go_ret
                rw [HE.out]
                refine ⟨rfl, ?_⟩
                have h9 := HT9.out
                simpa [JA.done] using h9
              · go_wp2
                go_ret
                rw [HE.out]
                refine ⟨rfl, ?_⟩
                have h9 := HTN.out.1.before (HKK.out.then0 (Kept.drew (Kept.refl Kno wr)))
                simpa [JA.done, hc] using h9

end Go.Proofs.Yteoodgcpkgfomaa
