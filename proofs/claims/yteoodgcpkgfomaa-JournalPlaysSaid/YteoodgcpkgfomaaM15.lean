/-
  Contracts and plain laws that the claim's theorem rests on, some texts in one file.
-/
import Derived.Test.YteoodgcpkgfomaaM14
/-
  The reference's journal: Rewrite.
-/
namespace Go.Proofs.Yteoodgcpkgfomaa
open Go.RowKit
set_option linter.unusedVariables false

section
variable {w w1 w2 : World} {base K B : Nat} {file : Int} {rv rv1 : Value} {us us1 vs vs1 : List Value} {rs : List (List UInt8)} {dead : Bool} {a : Ab} {s2 : JA}
theorem kturn_trans (hk : Kept (fun k => KOwn K rv us k ∨ RK B vs k) w w1) (hd : ∀ k, RK B vs1 k → RK B vs k ∨ w.heap.size ≤ k) (ho : ∀ k, KOwn K rv1 us1 k → KOwn K rv us k ∨ w.heap.size ≤ k) (h : KTurn base K B file vs1 rv1 us1 s2 w1 w2) : KTurn base K B file vs rv us s2 w w2 := by
  obtain ⟨vs', rv', us', h1, h2, h3, h4, h5, h6⟩ := h
  have hs := hk.size
  refine ⟨vs', rv', us', h1, h2, h3, hk.trans h4 (fun i hi e => ?_), fun k h => ?_, fun k h => ?_⟩
  · rcases e with e | e
    · rcases ho i e with h | h
      · exact .inl h
      · omega
    · rcases hd i e with h | h
      · exact .inr h
      · omega
  · rcases h5 k h with h | h
    · exact hd k h
    · exact .inr (by omega)
  · rcases h6 k h with h | h
    · exact ho k h
    · exact .inr (by omega)
theorem RJ.nil (h : RJ w base K B file rv us rs dead) : RJ (w.setCell ⟨K, 2, none⟩ (.slice none 0 0)) base K B file (.slice none 0 0) [] [] dead ∧ Kept (KOwn K rv us) w (w.setCell ⟨K, 2, none⟩ (.slice none 0 0)) ∧ (∀ k, KOwn K (.slice none 0 0) [] k → KOwn K rv us k ∨ w.heap.size ≤ k) := by
  have hk2 : Kept (Kone K) w (w.setCell ⟨K, 2, none⟩ (.slice none 0 0)) := Kept.setIn (S := Kone K) (Kept.refl _ _) (p := ⟨K, 2, none⟩) (Eq.refl K) _
  refine ⟨⟨h.low, h.blk.set_ 2 _, ⟨World.ownsRow_nil _ _ _ _, fun i x b hx => by simp at hx⟩, by simp [frames]⟩, hk2.mono (fun k _ e => .inl e), ?_⟩
  rintro k (e | e | ⟨u, hu, e⟩)
  · exact .inl (.inl e)
  · cases e
  · simp at hu
end

set_option maxRecDepth 100000 in
set_option maxHeartbeats 8000000 in
theorem krewrite_any {w : World} {base K B : Nat} {file : Int} {rv : Value} {us vs : List Value} (s : JA) (v : Value) (ws : List Value) (bs : List (List UInt8)) (hj : RJ w base K B file rv us s.rs s.off) (hi : RIs w base B vs s.a) (ha : KApart K B vs rv us) (hb : LsR w v ws bs)
    (hbJ : ∀ w1, Kept (fun k => KOwn K rv us k ∨ RK B vs k) w w1 → LsR w1 v ws bs) (hcnt : bs.length ≤ 1000000) (hfit : (bs.any fun b => decide (1048576 < b.length)) = false → (frames bs).length ≤ 10000000) (hbase : base ≤ w.heap.size) (hlen : ∀ b ∈ bs, b.length ≤ maxLen) :
    Calls Try.prog 47 #[.pointer (some ⟨K, 0, none⟩), v] w (KRet base K B file vs rv us (s.rewrite file bs) w) := by
  obtain ⟨i0, hi0, hz0, hz1, hz2⟩ := info_parts info_byte
  obtain ⟨j0, hj0, hy0, hy1, hy2⟩ := info_parts info_recs
  obtain ⟨a, rs, off⟩ := s
  simp only at hj hi
  have c4 := hj.c_dead
  have HJ := Lib.hid hj
  have HI := Lib.hid hi
  have HA := Lib.hid ha
  have HB := Lib.hid hb
  have HBJ := Lib.hid hbJ
  have HF := Lib.hid hfit
  have HL := Lib.hid hlen
  obtain ⟨Av, cv, rfl, hcv⟩ := hb.form
  clear hj hi ha hbJ hfit hb hlen
  unfold JA.rewrite
  cases off with
  | true =>
    simp only [if_true]
    have HT := Lib.hid (kturn0 HJ.out HI.out HA.out (Kept.refl Kno w))
    go_enter Try.func47, Try.ntmps47
    go_wp2
    go_ret
    exact ⟨rfl, HT.out⟩
  | false =>
    simp only [Bool.false_eq_true, if_false]
    have HT := Lib.hid (kturn0 HJ.out HI.out HA.out (Kept.refl Kno w))
    obtain ⟨⟨a', c⟩, hp⟩ : ∃ p, p = a.replace file (frames bs) := ⟨_, rfl⟩
    have HP := Lib.hid hp
    rw [← hp]
    clear hp
    obtain ⟨res, hres⟩ : ∃ res, res = (if (bs.any fun b => decide (1048576 < b.length)) = true then ((⟨a, rs, false⟩ : JA), (2 : Int)) else (⟨a, rs, false⟩ : JA).done (a', c) bs) := ⟨_, rfl⟩
    rw [← hres]
    have HRES := Lib.hid hres
    clear hres
    go_enter Try.func47, Try.ntmps47
    go_wp2_with fail
    go_loopw [16] (fun i wr => ∃ k : Nat, k ≤ bs.length ∧ i = .int .i64 (k : Nat) ∧ (∀ b ∈ bs.take k, b.length ≤ 1048576) ∧ wr = w) (fun i _ => bs.length - (intOf i).toNat)
    case atStart => exact ⟨0, by omega, rfl, by simp, rfl⟩
    case round =>
      obtain ⟨k, hk, rfl, hsm, hwr⟩ := hrel
      have HSM := Lib.hid hsm
      have HWR := Lib.hid hwr
      clear hsm
      by_cases hlt : k < bs.length
      · obtain ⟨g, o, c9, x, hv, hx, hcell⟩ := HB.out.at hlt
        injection hv with e1 e2 e3
        subst e1 e3
        have hbk : bs[k]? = some bs[k] := List.getElem?_eq_getElem hlt
        generalize bs[k] = b at hbk
        have hbs := HB.out.2 k x b hx hbk
        obtain ⟨Ax, cx, rfl, -⟩ := hbs
        have HBK := Lib.hid hbk
        have hlb := HL.out b (List.mem_of_getElem? hbk)
        have n60 : b.length ≤ 9223372036854775807 := by simp only [maxLen] at hlb; omega
        have hkz : (0 : Int) ≤ (k : Int) := by omega
        have hk1 : (k : Int) < (bs.length : Int) := by omega
        rw [← hwr] at hcell
        clear hx hbk e2 hwr hlb
        by_cases hbig : 1048576 < b.length
        · have hbig2 : (1048576 : Int) < (b.length : Int) := by omega
          have hany : (bs.any fun b => decide (1048576 < b.length)) = true := List.any_eq_true.2 ⟨b, List.mem_of_getElem? HBK.out, by simpa using hbig⟩
          have HE : Hid (res = (⟨a, rs, false⟩, 2)) := Lib.hid (by rw [HRES.out, if_pos hany])
          clear hany
          go_wp2
          go_ret
          rw [HE.out]
          refine ⟨rfl, ?_⟩
          rw [HWR.out]
          exact HT.out
        · have hbig2 : ¬ (1048576 : Int) < (b.length : Int) := by omega
          go_wp2
          go_roundw
          case rel =>
            refine ⟨k + 1, by omega, by go_num, fun c hc => ?_, HWR.out⟩
            rw [take_snocr HBK.out] at hc
            rcases List.mem_append.1 hc with h | h
            · exact HSM.out c h
            · rw [List.mem_singleton.1 h]; omega
          case measure => simp [intOf]; omega
      · have hk1 : ¬ (k : Int) < (bs.length : Int) := by omega
        obtain rfl : k = bs.length := by omega
        have hany : (bs.any fun b => decide (1048576 < b.length)) = false := by
          rw [List.any_eq_false]
          intro b hb
          have h9 := HSM.out
          rw [List.take_length] at h9
          have := h9 b hb
          simp; omega
        have hft := HF.out hany
        have HFT := Lib.hid hft
        have HSH : Hid (Short bs) := Lib.hid (by have h9 := HSM.out; rw [List.take_length] at h9; exact h9)
        have HE : Hid (res = (⟨a, rs, false⟩ : JA).done (a', c) bs) := Lib.hid (by rw [HRES.out, hany]; rfl)
        subst hwr
        clear hany HSM HWR HRES hft
        obtain ⟨w0, rfl⟩ : ∃ w0 : World, w0 = wr := ⟨_, rfl⟩
        have c0 := HJ.out.c_disk
        have c1 := HJ.out.c_file
        have HKD : Hid (Kept Kno w0 w0.drew) := Lib.hid (Kept.drew (Kept.refl Kno w0))
        have hfrm := rframes_any (.slice Av bs.length cv) ws bs w0.drew (HB.out.kept0 HKD.out) HFT.out
        have HFR := Lib.hid hfrm
        clear hfrm
        go_wp2_with fail
        go_cut [7] (fun e wx => e = .int .i64 c ∧ KMid base K B file vs rv us a' rs c w0 wx)
        case first =>
          go_region_held3 (fun w' => w'.cell? ⟨K, 0, none⟩ = some (.pointer (some ⟨B, 0, none⟩)) ∧ w'.cell? ⟨K, 1, none⟩ = some (.int .i64 file)) (first | go_keep | exact ⟨e0, e1⟩ | exact ⟨y0, y1⟩ | exact ⟨x0, x1⟩)
            (first
            | (go_at_call 75
               refine HFR.out.mono ?_
               rintro e w1 ⟨A1, cap1, rfl, hown1, hk1⟩
               have HK1 := Lib.hid (HKD.out.then0 hk1)
               have HJ1 := Lib.hid (HJ.out.kept0 HK1.out)
               have HI1 := Lib.hid (HI.out.kept0 HK1.out)
               have HO1 := Lib.hid hown1
               have e0 := hk1.cell_some c0 (fun h => h)
               have e1 := hk1.cell_some c1 (fun h => h)
               clear hown1 hk1)
            | (go_at_call 35
               refine (rreplace_any file _ (frames bs) HI1.out (OwnB.bs HO1.out) (by have := HFT.out; omega)).mono ?_
               rw [← HP.out]
               rintro e w2 ⟨rfl, ht⟩
               have HTN := Lib.hid (kturn_note c HJ1.out HI1.out HA.out ht).2
               have d4 := (rj_turn HJ1.out HA.out ht).c_dead
               have g4 := (rj_turn HJ1.out HA.out ht).blk.frozen 3
               have y0 := (rj_turn HJ1.out HA.out ht).c_disk
               have y1 := (rj_turn HJ1.out HA.out ht).c_file
               clear ht)
            | (go_at_call 73
               refine (rnote_any K _ w2 d4 g4).mono ?_
               rintro e w3 ⟨rfl, hw3⟩
               rw [← hw3] at HTN
               obtain ⟨x0, x1⟩ : w3.cell? ⟨K, 0, none⟩ = some (.pointer (some ⟨B, 0, none⟩)) ∧ w3.cell? ⟨K, 1, none⟩ = some (.int .i64 file) := by
                 obtain ⟨vs', -, hjx, -⟩ := HTN.out
                 exact ⟨hjx.c_disk, hjx.c_file⟩
               clear hw3))
          all_goals
            go_wp2_with fail
            go_meet
            exact ⟨rfl, KMid.before HK1.out HTN.out⟩
        case rest =>
          obtain ⟨rfl, hmid⟩ := hcut
          have HMID := Lib.hid hmid
          clear c0 c1 c4 hmid
          by_cases hc : c = 0
          · subst hc
            obtain ⟨vsq, hiq, hjq, haq, hkq, hdq⟩ := HMID.out
            rw [decide_eq_false (show ¬ (0 : Int) = 220 by decide)] at hjq
            have c2 := hjq.c_recs
            have f2 := hjq.blk.frozen 2
            obtain ⟨n1, n2, n3⟩ := hjq.nil
            have HT0 := Lib.hid (kturn_after hkq hdq (kturn_own hiq haq n2 n1 n3))
            obtain ⟨Aq, cq, hrq⟩ := own_form hjq.rr.row
            rw [hrq] at c2
            clear hiq hjq haq hkq hdq HMID n1 n2 n3 hrq
            go_wp2_with fail
            go_loopw [44] (fun i wr => ∃ k : Nat, k ≤ bs.length ∧ i = .int .i64 (k : Nat) ∧ KTurn base K B file vs rv us ⟨a', bs.take k, false⟩ w0 wr) (fun i _ => bs.length - (intOf i).toNat)
            case atStart => exact ⟨0, by omega, rfl, HT0.out⟩
            case round =>
              rename_i wr
              obtain ⟨k, hk, rfl, hkt⟩ := hrel
              have HKT := Lib.hid hkt
              clear hkt
              by_cases hlt : k < bs.length
              · obtain ⟨vsq, rvq, usq, hiq, hjq, haq, hkq, hdq, hoq⟩ := HKT.out
                simp only at hiq hjq
                have hR := HBJ.out wr hkq
                obtain ⟨g, o, c9, x, hv, hx, hcell⟩ := hR.at hlt
                injection hv with e1 e2 e3
                subst e1 e3
                have hbk : bs[k]? = some bs[k] := List.getElem?_eq_getElem hlt
                have hml := HSH.out bs[k] (List.getElem_mem hlt)
                generalize bs[k] = b at hbk hml
                have hbs := hR.2 k x b hx hbk
                have HBS := Lib.hid hbs
                obtain ⟨Ax, cx, rfl, -⟩ := hbs
                have HBK := Lib.hid hbk
                have htl : (bs.take k).length = k := by rw [List.length_take]; omega
                have HIQ := Lib.hid hiq
                have HJQ := Lib.hid hjq
                have HAQ := Lib.hid haq
                have HKQ := Lib.hid hkq
                have HDQ := Lib.hid hdq
                have HOQ := Lib.hid hoq
                have c2 := hjq.c_recs
                have f2 := hjq.blk.frozen 2
                have lK := hjq.blk.lt
                have hwb : base ≤ wr.heap.size := Nat.le_trans hbase hkq.size
                obtain ⟨Ar, cr, hrv⟩ := own_form hjq.rr.row
                rw [htl] at hrv
                have HRV := Lib.hid hrv
                have HTL := Lib.hid htl
                have HFIT : Hid ((frames (bs.take k ++ [b])).length ≤ 10000000) := Lib.hid (by rw [← take_snocr hbk]; exact Nat.le_trans (frames_take_le bs (k + 1)) HFT.out)
                rw [hrv] at c2
                have M0 := Lib.hid (World.ownsRow_made (base := wr.heap.size) (e := 5) (size := 1) wr #[] 0 (Nat.le_refl _) (by decide) rfl)
                have m1 : 0 + b.length ≤ maxLen := by simp only [maxLen]; omega
                have m2 : k + 1 ≤ maxLen := by simp only [maxLen]; omega
                have hkz : (0 : Int) ≤ (k : Int) := by omega
                have hk1 : (k : Int) < (bs.length : Int) := by omega
                clear hiq hjq haq hkq hdq hoq hrv hR hx hbk e2 htl
                go_wp2_with fail
                go_region_law (first
                  | (refine step_append_rd _ (by rfl) (.tmp 53) (.tmp 54) 30 (by rfl) wr.heap.size 5 i0 _ 1 1 Try.underlying30 hi0 hz0 hz1 hz2 rfl (by omega) (.slice (some ⟨wr.heap.size, 0, none⟩) 0 0) 0 [] (by rfl) M0.out _ b.length (b.map bv) (by rfl) (Rd.alloc HBS.out _) (bvs_one b) m1 (by omega) (by simp) ?_
                     intro A7 cap7 w7 hown7 hg7 hat7
                     have hk7 : Kept Kno wr w7 := (Kept.drew (Kept.alloc (Kept.refl _ wr) _)).grown hg7 (fun k hk e => by cases e; exact absurd hk (Nat.lt_irrefl _))
                     have q : w7.cell? ⟨K, 2, none⟩ = some (.slice Ar k cr) := hk7.cell_some c2 (fun h => h)
                     have q7 : ∀ o, (w7.alloc o).cell? ⟨K, 2, none⟩ = some (.slice Ar k cr) := fun o => Kept.cell_some (hk7.alloc o) c2 (fun h => h)
                     simp only [Nat.zero_add, List.nil_append] at hown7
                     have HO7 : Hid (OwnB w7 wr.heap.size 5 (.slice A7 b.length cap7) b) := Lib.hid hown7
                     rw [Nat.zero_add])
                  | (refine step_append_rd _ (by rfl) (.tmp 52) (.tmp 56) 45 (by rfl) base 30 j0 _ 1 24 Try.underlying45 hj0 hy0 hy1 hy2 rfl (by omega) (.slice Ar k cr) k usq (by rfl) (by have h9 := HJQ.out.rr.row; rw [HRV.out, HTL.out] at h9; exact World.ownsRow.alloc (own_kept h9 hk7 (fun _ _ h => h)) _) _ 1 [.slice A7 b.length cap7] (by rfl) (Rd.one _ _ _ rfl) (by simp [Value.oneCell']) m2 (by omega) (by have := hk7.size; simp; omega) ?_
                     intro A9 cap9 w9 hown9 hg9 hat9
                     have hk9 : Kept (Kown (.slice Ar k cr)) wr w9 := ((hk7.mono (T := Kown (.slice Ar k cr)) (fun _ _ h => h.elim)).alloc _).grown hg9 (fun k _ e => e)
                     have hKr : ¬ Kown (.slice Ar k cr) K := by have h9 := HJQ.out.K_rv; rw [HRV.out] at h9; exact h9
                     have q2 := hk9.cell_some c2 hKr
                     have q2' := hk9.frozen_no f2 lK hKr
                     have hO := own_kept HO7.out ((Kept.refl Kno w7).alloc (.cells #[.slice A7 b.length cap7] 30)) (fun _ _ h => h)
                     have HG := Lib.hid (HJQ.out.grow (b := b) (hk7.alloc _) ((RecIn.own hO).rebase hwb) (fun k e => (own_base hO e).1) (by rw [HRV.out]; exact hg9) (by rw [HTL.out]; exact hown9) (by rw [HRV.out]; exact hat9) HFIT.out)))
                all_goals
                  go_wp2
                  go_roundw
                  case rel =>
                    refine ⟨k + 1, by omega, by go_num, ?_⟩
                    rw [take_snocr HBK.out]
                    exact kturn_trans HKQ.out HDQ.out HOQ.out (kturn_own HIQ.out HAQ.out HG.out.2.1 HG.out.1 HG.out.2.2)
                  case measure => simp [intOf]; omega
              · have hk1 : ¬ (k : Int) < (bs.length : Int) := by omega
                obtain rfl : k = bs.length := by omega
                go_wp2
                go_ret
                rw [HE.out]
                refine ⟨rfl, ?_⟩
                have h9 := HKT.out
                rw [List.take_length] at h9
                simpa [JA.done] using h9
          · go_wp2
            go_ret
            rw [HE.out]
            refine ⟨rfl, ?_⟩
            have h9 := HMID.out.turn
            simpa [JA.done, hc] using h9

end Go.Proofs.Yteoodgcpkgfomaa
/-
  Journal: the plain law of a journal that is played and crashed. No program in sight.
-/
namespace Go.Proofs.Yteoodgcpkgfomaa
open Go.RowKit
set_option linter.unusedVariables false

/-- The file holds whole records; a journal that has not met the power's failure holds the same. -/
structure Good (s : JA) (F : Nat) : Prop where
  len : s.a.fs.length = 8
  short : Short s.rs
  whole : ∃ L, Short L ∧ (s.a.file F).1 = frames L
  live : s.off = false → s.a.off = false ∧ (s.a.file F).1 = frames s.rs

theorem gate_casesF (a : Ab) (t : Bool) (F : Nat) (x : List UInt8 × Nat) :
    (∃ p, gateOf a t F x = (⟨a.room, a.fs.set F x, a.off, p⟩, 0)) ∨ gateOf a t F x = (⟨a.room, if t then a.fs.set F x else a.fs, true, 0⟩, 220) := by
  unfold gateOf
  split
  · exact .inl ⟨_, rfl⟩
  · split
    · exact .inr rfl
    · exact .inl ⟨_, rfl⟩
theorem file_setF (r : Int) (fs : List (List UInt8 × Nat)) (F : Nat) (x : List UInt8 × Nat) (o : Bool) (p : Int) (hl : fs.length = 8) (hF : F < 8) : (⟨r, fs.set F x, o, p⟩ : Ab).file F = x := by
  simp only [Ab.file, List.getD]
  rw [List.getElem?_set_self (by omega)]
  rfl

theorem good_play {s : JA} {F : Nat} (h : Good s F) (hF : F < 8) (kind n : Int) (l : List UInt8) (bs : List (List UInt8)) (hl : l.length ≤ 1048576) (hb : Short bs) : Good (s.play F kind n l bs).1 F := by
  obtain ⟨⟨room, fs, aoff, plan⟩, rs, off⟩ := s
  have h0 := h
  obtain ⟨a3, a5, ⟨L, aL, aF⟩, a7⟩ := h
  simp only at a3 a5 aF a7
  have hck : checkOf false (F : Int) = 0 := by
    have h1 : ¬ ((F : Int) < 0 ∨ 8 ≤ (F : Int)) := by omega
    simp [checkOf, h1]
  unfold JA.play
  split
  · unfold JA.append
    split
    · exact h0
    · rename_i hoff
      simp only [Bool.not_eq_true] at hoff
      subst hoff
      obtain ⟨a2, a4⟩ := a7 rfl
      subst a2
      rw [if_neg (by omega)]
      unfold Ab.append
      simp only [hck, ne_eq, not_true_eq_false, if_false, Int.toNat_natCast]
      split
      · exact ⟨a3, a5, ⟨L, aL, aF⟩, fun _ => ⟨rfl, a4⟩⟩
      · rcases gate_casesF ⟨room, fs, false, plan⟩ true F (((⟨room, fs, false, plan⟩ : Ab).file F).1 ++ frame l, ((⟨room, fs, false, plan⟩ : Ab).file F).2) with ⟨p, e⟩ | e
        · rw [e, done0, a4]
          refine ⟨by simp [a3], a5.append (Short.one hl), ⟨rs ++ [l], a5.append (Short.one hl), ?_⟩, fun _ => ⟨rfl, ?_⟩⟩
          · simp only; rw [file_setF _ _ _ _ _ _ a3 hF, frames_snoc]
          · simp only; rw [file_setF _ _ _ _ _ _ a3 hF, frames_snoc]
        · rw [e, done220, a4]
          refine ⟨by simp [a3], a5, ⟨rs ++ [l], a5.append (Short.one hl), ?_⟩, fun h => by cases h⟩
          simp only [if_true]
          rw [file_setF _ _ _ _ _ _ a3 hF, frames_snoc]
  · split
    · unfold JA.sync
      split
      · exact h0
      · rename_i hoff
        simp only [Bool.not_eq_true] at hoff
        subst hoff
        obtain ⟨a2, a4⟩ := a7 rfl
        subst a2
        unfold Ab.sync
        simp only [hck, ne_eq, not_true_eq_false, if_false, Int.toNat_natCast]
        rcases gate_casesF ⟨room, fs, false, plan⟩ false F (((⟨room, fs, false, plan⟩ : Ab).file F).1, ((⟨room, fs, false, plan⟩ : Ab).file F).1.length) with ⟨p, e⟩ | e
        · rw [e, done0, a4]
          refine ⟨by simp [a3], a5, ⟨rs, a5, ?_⟩, fun _ => ⟨rfl, ?_⟩⟩
          · simp only; rw [file_setF _ _ _ _ _ _ a3 hF]
          · simp only; rw [file_setF _ _ _ _ _ _ a3 hF]
        · rw [e, done220]
          exact ⟨a3, a5, ⟨rs, a5, a4⟩, fun h => by cases h⟩
    · split
      · unfold JA.trunc
        split
        · exact h0
        · rename_i hoff
          simp only [Bool.not_eq_true] at hoff
          subst hoff
          obtain ⟨a2, a4⟩ := a7 rfl
          subst a2
          split
          · exact h0
          · rename_i hn
            simp only at hn
            obtain ⟨q, rfl⟩ : ∃ q : Nat, n = q := ⟨n.toNat, by omega⟩
            unfold Ab.trunc
            have hle := frames_take_le rs q
            simp only [hck, ne_eq, not_true_eq_false, if_false, Int.toNat_natCast]
            rw [a4, if_neg (by omega), frames_take]
            rcases gate_casesF ⟨room, fs, false, plan⟩ false F (frames (rs.take q), (frames (rs.take q)).length) with ⟨p, e⟩ | e
            · rw [e, done0]
              refine ⟨by simp [a3], a5.take q, ⟨rs.take q, a5.take q, ?_⟩, fun _ => ⟨rfl, ?_⟩⟩
              · simp only; rw [file_setF _ _ _ _ _ _ a3 hF]
              · simp only; rw [file_setF _ _ _ _ _ _ a3 hF]
            · rw [e, done220]
              exact ⟨a3, a5, ⟨rs, a5, a4⟩, fun h => by cases h⟩
      · split
        · unfold JA.rewrite
          split
          · exact h0
          · rename_i hoff
            simp only [Bool.not_eq_true] at hoff
            subst hoff
            obtain ⟨a2, a4⟩ := a7 rfl
            subst a2
            rw [any_short hb, if_neg (by decide)]
            unfold Ab.replace
            simp only [hck, ne_eq, not_true_eq_false, if_false, Int.toNat_natCast]
            split
            · exact ⟨a3, a5, ⟨L, aL, aF⟩, fun _ => ⟨rfl, a4⟩⟩
            · rcases gate_casesF ⟨room, fs, false, plan⟩ false F (frames bs, (frames bs).length) with ⟨p, e⟩ | e
              · rw [e, done0]
                refine ⟨by simp [a3], hb, ⟨bs, hb, ?_⟩, fun _ => ⟨rfl, ?_⟩⟩
                · simp only; rw [file_setF _ _ _ _ _ _ a3 hF]
                · simp only; rw [file_setF _ _ _ _ _ _ a3 hF]
              · rw [e, done220]
                exact ⟨a3, a5, ⟨rs, a5, a4⟩, fun h => by cases h⟩
        · exact h0

/-- How many bytes the records have. -/
theorem size_play (s : JA) (f kind n : Int) (l : List UInt8) (bs : List (List UInt8)) (N : Nat) (hs : (frames s.rs).length ≤ N) (hl : l.length ≤ 300) (hb : (frames bs).length ≤ N) : (frames (s.play f kind n l bs).1.rs).length ≤ N + 311 := by
  have hlf : (frame l).length ≤ 311 := by have h9 := (leb_length l.length).2; rw [frame_length]; omega
  have hdone : ∀ (p : Ab × Int) (rs : List (List UInt8)), (frames rs).length ≤ N + 311 → (frames (s.done p rs).1.rs).length ≤ N + 311 := by
    intro p rs h
    unfold JA.done
    simp only
    split
    · exact h
    · omega
  unfold JA.play
  split
  · unfold JA.append
    split
    · simp only; omega
    · split
      · simp only; omega
      · refine hdone _ _ ?_
        rw [frames_snoc, List.length_append]; omega
  · split
    · unfold JA.sync
      split
      · simp only; omega
      · exact hdone _ _ (by omega)
    · split
      · unfold JA.trunc
        split
        · simp only; omega
        · split
          · simp only; omega
          · exact hdone _ _ (by have := frames_take_le s.rs n.toNat; omega)
      · split
        · unfold JA.rewrite
          split
          · simp only; omega
          · split
            · simp only; omega
            · exact hdone _ _ (by omega)
        · simp only; omega

theorem good_fail {s : JA} {F : Nat} (h : Good s F) (n : Int) : Good ⟨s.a.fail n, s.rs, s.off⟩ F := by
  have e1 : (s.a.fail n).fs = s.a.fs := by unfold Ab.fail; split <;> rfl
  have e2 : (s.a.fail n).off = s.a.off := by unfold Ab.fail; split <;> rfl
  have e3 : (s.a.fail n).file F = s.a.file F := by simp only [Ab.file, e1]
  exact ⟨by simp only; rw [e1]; exact h.len, h.short, by simp only; rw [e3]; exact h.whole, fun ho => by simp only; rw [e2, e3]; exact h.live ho⟩

theorem good_crash {s : JA} {F : Nat} (h : Good s F) (hF : F < 8) (hs : (s.a.file F).2 ≤ (s.a.file F).1.length) (ks : List Int) :
    ∃ a' L, jopen (s.a.crash ks) F = (a', 0, some L) ∧ Good ⟨a', L, false⟩ F ∧ a'.room = s.a.room ∧ (frames L).length ≤ (s.a.file F).1.length := by
  obtain ⟨h1, h2, ⟨L, hL, hf⟩, h4⟩ := h
  have hcalm : Calm (s.a.crash ks) := ⟨rfl, rfl, by show (crashTo 8 s.a.fs ks).length = 8; rw [crashTo_length, h1]⟩
  have hc : (s.a.crash ks).file F = crashF (s.a.file F) ks[F]? := by
    simp only [Ab.file, Ab.crash, List.getD]
    rw [crashTo_at, List.getElem?_eq_getElem (l := s.a.fs) (i := F) (by omega)]
    simp [hF]
  obtain ⟨c, hc1, hc3⟩ : ∃ c, ((s.a.crash ks).file F).1 = (frames L).take c ∧ c ≤ (frames L).length := by
    refine ⟨crashN (s.a.file F) ks[F]?, by rw [hc]; show (s.a.file F).1.take _ = _; rw [hf], ?_⟩
    rw [← hf]
    unfold crashN
    split
    · exact hs
    · rename_i x _
      have := Nat.min_le_right x.toNat ((s.a.file F).1.length - (s.a.file F).2)
      omega
  obtain ⟨k, hcut⟩ := scan_cut L c hL hc3
  rw [← hc1] at hcut
  obtain ⟨a', e1, e2, e3, e4, -⟩ := jopen_calm (f := F) hcalm hF hcut
  refine ⟨a', L.take k, e1, ⟨e2.len, hL.take k, ⟨L.take k, hL.take k, e4⟩, fun _ => ⟨e2.off, e4⟩⟩, e3, ?_⟩
  rw [hf]
  exact frames_take_le L k

end Go.Proofs.Yteoodgcpkgfomaa
/-
  Journal: cut, told by its own slices.
-/
namespace Go.Proofs.Yteoodgcpkgfomaa
open Go.RowKit
set_option linter.unusedVariables false

def cutS : Value → Nat → Value
  | .slice A _ c, m => .slice A m c
  | v, _ => v
def zipV (us : List Value) (rs : List (List UInt8)) : List Value := List.zipWith (fun v (b : List UInt8) => cutS v (min b.length 300)) us rs
theorem take_snocw {α : Type} {R : List α} {k : Nat} {b : α} (h : R[k]? = some b) : R.take (k + 1) = R.take k ++ [b] := by
  rw [List.take_add_one, h]; rfl
theorem zip_eight (us : List Value) (rs : List (List UInt8)) (hl : us.length = rs.length) {m : Nat} (hm : m = min rs.length 8) : (zipV us rs).take 8 = (zipV us rs).take m := by
  subst hm
  have h1 : (zipV us rs).length = rs.length := by simp [zipV, hl]
  rcases Nat.le_total rs.length 8 with h | h
  · rw [Nat.min_eq_left h, List.take_of_length_le (by omega), List.take_of_length_le (by omega)]
  · rw [Nat.min_eq_right h]
theorem zip_lsr2 {w w1 : World} {rv : Value} {us : List Value} {rs : List (List UInt8)} {A : Option Addr} {c : Nat} (h : LsR w rv us rs) (hr : Rd w1 1 (.slice A (cutR rs).length c) (cutR rs).length ((zipV us rs).take 8)) (hk1 : Kept Kno w w1) : LsR w1 (.slice A (cutR rs).length c) ((zipV us rs).take 8) (cutR rs) := by
  refine ⟨hr, fun i x b hx hb => ?_⟩
  have hl := h.len
  rw [List.getElem?_take] at hx
  split at hx
  · rename_i hi
    unfold zipV at hx
    rw [List.getElem?_zipWith] at hx
    unfold cutR at hb
    rw [List.getElem?_map, List.getElem?_take, if_pos hi] at hb
    cases hu : us[i]? with
    | none => rw [hu] at hx; cases hx
    | some u =>
      cases hr : rs[i]? with
      | none => rw [hr] at hb; cases hb
      | some r =>
        rw [hu, hr] at hx
        rw [hr] at hb
        simp only [Option.map_some, Option.some.injEq] at hx hb
        subst hx hb
        have hbs := h.2 i u r hu hr
        obtain ⟨A', c', hv, -⟩ := id hbs
        subst hv
        have h2 := Bs.cut (Rd.kept0 hbs hk1) (Nat.min_le_left r.length 300)
        rw [take_min] at h2
        exact h2
  · cases hx

def CutRel2 (vin : List Value) (rs : List (List UInt8)) (w : World) (c0 c1 c2 c3 c4 : Value) (m : Nat) (l i : Value) (wr : World) : Prop :=
  ∃ (k : Nat) (A : Option Addr) (cap : Nat) (us : List Value), k ≤ m ∧ i = .int .i64 (k : Nat) ∧ l = .slice A k cap ∧ wr.ownsRow (w.heap.size + 2) 30 1 (.slice A k cap) k us ∧
    us = (zipV vin rs).take k ∧
    Blk wr w.heap.size 47 #[c0, c1, c2, c3, c4] ∧ Blk wr (w.heap.size + 1) 47 #[.int .i64 0, .int .i64 0, .slice none 0 0, .slice none 0 0, .slice none 0 0] ∧ Kept Kno w wr

/-- What cut returns: the same slices, shortened, the records in a row of their own. -/
def CutOk2 (kk n : Int) (Ab : Option Addr) (cb : Nat) (l : List UInt8) (vin : List Value) (rs : List (List UInt8)) (keep : Value) (w : World) (e : Ending) (w' : World) : Prop :=
  ∃ A2 c2, e = .returned (.agg #[.int .i64 kk, .int .i64 n, .slice Ab (min l.length 300) cb, .slice A2 (cutR rs).length c2, keep]) ∧
    w'.ownsRow w.heap.size 30 1 (.slice A2 (cutR rs).length c2) (cutR rs).length ((zipV vin rs).take 8) ∧ Kept Kno w w'

set_option maxRecDepth 100000 in
set_option maxHeartbeats 4000000 in
theorem cut_any2 (kk n : Int) (Ab : Option Addr) (cb : Nat) (rv : Value) (l : List UInt8) (us : List Value) (rs : List (List UInt8)) (Ak : Option Addr) (nk ck : Nat) (w : World) (hb : Bs w (.slice Ab l.length cb) l) (hr : LsR w rv us rs) (hll : l.length ≤ maxLen) (hrl : rs.length ≤ maxLen) (hrm : ∀ b ∈ rs, b.length ≤ maxLen) :
    Calls Try.prog 25 #[.agg #[.int .i64 kk, .int .i64 n, .slice Ab l.length cb, rv, .slice Ak nk ck]] w (CutOk2 kk n Ab cb l us rs (.slice Ak nk ck) w) := by
  obtain ⟨j0, hj0, hy0, hy1, hy2⟩ := info_parts info_recs
  have HB := Lib.hid hb
  have HR := Lib.hid hr
  have HM := Lib.hid hrm
  have hlc : l.length ≤ cb := by obtain ⟨A', c', e, h9, -⟩ := hb; injection e with _ _ e; omega
  clear hb
  obtain ⟨Ar, cr, rfl, hrc⟩ := hr.form
  have hmin : (if (300 : Int) < (l.length : Int) then (300 : Int) else (l.length : Int)) = ((min l.length 300 : Nat) : Int) := min_natw l.length 300
  have q1 : min l.length 300 ≤ l.length := Nat.min_le_left _ _
  have hcut := Bs.cut HB.out q1
  rw [take_min] at hcut
  have HC := Lib.hid hcut
  have HMM : Hid (min l.length 300 = min l.length 300) := Lib.hid rfl
  generalize hm1 : min l.length 300 = m1 at hmin q1 HC
  have HM1 := Lib.hid hm1
  clear hm1 HMM
  have hmin2 : (if (8 : Int) < (rs.length : Int) then (8 : Int) else (rs.length : Int)) = ((min rs.length 8 : Nat) : Int) := min_natw rs.length 8
  have q2 : min rs.length 8 ≤ rs.length := Nat.min_le_left _ _
  have q2' : min rs.length 8 ≤ 8 := Nat.min_le_right _ _
  have hm8 : rs.take (min rs.length 8) = rs.take 8 := take_min rs 8
  have HM8 := Lib.hid hm8
  generalize hm2 : min rs.length 8 = m2 at hmin2 q2 q2' HM8
  have HM8b := Lib.hid hm2.symm
  clear hm2
  have q3 : m1 ≤ cb := by omega
  have q4 : (m1 : Int) ≤ (cb : Int) := by omega
  have q5 : (0 : Int) ≤ (m1 : Int) := by omega
  have q6 : m2 ≤ cr := by omega
  have q7 : (m2 : Int) ≤ (cr : Int) := by omega
  have q8 : (0 : Int) ≤ (m2 : Int) := by omega
  have n60 : l.length ≤ 9223372036854775807 := by simp only [maxLen] at hll; omega
  have n61 : rs.length ≤ 9223372036854775807 := by simp only [maxLen] at hrl; omega
  clear hr hrm hcut hm8 hll hrl
  go_enter Try.func25, Try.ntmps25
  go_wp2_with fail
  have hk1 : Kept Kno w (((w.alloc (.cells #[.int .i64 kk, .int .i64 n, .slice Ab m1 cb, .slice Ar rs.length cr, .slice Ak nk ck] 47)).alloc (.cells #[.int .i64 0, .int .i64 0, .slice none 0 0, .slice none 0 0, .slice none 0 0] 47)).alloc (.cells #[] 30)) := (((Kept.refl Kno w).alloc _).alloc _).alloc _
  have hb0 := ((Blk.new w 47 #[.int .i64 kk, .int .i64 n, .slice Ab m1 cb, .slice Ar rs.length cr, .slice Ak nk ck]).alloc (.cells #[.int .i64 0, .int .i64 0, .slice none 0 0, .slice none 0 0, .slice none 0 0] 47)).alloc (.cells #[] 30)
  have hb1 := (Blk.new (w.alloc (.cells #[.int .i64 kk, .int .i64 n, .slice Ab m1 cb, .slice Ar rs.length cr, .slice Ak nk ck] 47)) 47 #[.int .i64 0, .int .i64 0, .slice none 0 0, .slice none 0 0, .slice none 0 0]).alloc (.cells #[] 30)
  have hM0 := World.ownsRow_made (base := w.heap.size + 2) (e := 30) (size := 1) ((w.alloc (.cells #[.int .i64 kk, .int .i64 n, .slice Ab m1 cb, .slice Ar rs.length cr, .slice Ak nk ck] 47)).alloc (.cells #[.int .i64 0, .int .i64 0, .slice none 0 0, .slice none 0 0, .slice none 0 0] 47)) #[] 0 (by simp) (by decide) rfl
  simp only [World.size_alloc] at hb1 hM0
  generalize (((w.alloc (.cells #[.int .i64 kk, .int .i64 n, .slice Ab m1 cb, .slice Ar rs.length cr, .slice Ak nk ck] 47)).alloc (.cells #[.int .i64 0, .int .i64 0, .slice none 0 0, .slice none 0 0, .slice none 0 0] 47)).alloc (.cells #[] 30)) = W1 at hk1 hb0 hb1 hM0 ⊢
  have HK1 := Lib.hid hk1
  have HB0 := Lib.hid hb0
  have HB1 := Lib.hid hb1
  have HM0 := Lib.hid hM0
  clear hk1 hb0 hb1 hM0
  go_loopw [3, 23] (fun l i wr => CutRel2 us rs w (.int .i64 kk) (.int .i64 n) (.slice Ab m1 cb) (.slice Ar rs.length cr) (.slice Ak nk ck) m2 l i wr) (fun _ i _ => m2 - (intOf i).toNat)
  case atStart => exact ⟨0, _, 0, [], by omega, rfl, rfl, HM0.out, by simp, HB0.out, HB1.out, HK1.out⟩
  case round =>
    obtain ⟨k, A, cap, vs, hk, rfl, rfl, hown, hel, hc0, hc1, hkk⟩ := hrel
    have HOWN := Lib.hid hown
    have HEL := Lib.hid hel
    have HC0 := Lib.hid hc0
    have HC1 := Lib.hid hc1
    have HKK := Lib.hid hkk
    have hsz : w.heap.size + 2 ≤ wr.heap.size := by have := hc1.lt; omega
    clear hown hel
    by_cases hlt : k < m2
    · have hR := HR.out.kept0 hkk
      obtain ⟨g, o, c2, x, hv, hx, hcell⟩ := hR.at (i := k) (by omega)
      injection hv with e1 e2 e3
      subst e1 e3
      have hbk : rs[k]? = some (rs[k]'(by omega)) := List.getElem?_eq_getElem (by omega)
      have hml := HM.out (rs[k]'(by omega)) (List.getElem_mem _)
      generalize (rs[k]'(by omega)) = b at hbk hml
      have hbs := HR.out.2 k x b hx hbk
      have HBS := Lib.hid hbs
      have HX := Lib.hid hx
      obtain ⟨Ax, cx, rfl, hcx, -⟩ := hbs
      have HBK := Lib.hid hbk
      have hmin3 : (if (300 : Int) < (b.length : Int) then (300 : Int) else (b.length : Int)) = ((min b.length 300 : Nat) : Int) := min_natw b.length 300
      have p1 : min b.length 300 ≤ b.length := Nat.min_le_left _ _
      have hcut := Bs.cut HBS.out p1
      rw [take_min] at hcut
      have HCB := Lib.hid hcut
      have HZV : Hid ((zipV us rs)[k]? = some (.slice Ax (min b.length 300) cx)) := Lib.hid (by unfold zipV; rw [List.getElem?_zipWith, HX.out, HBK.out]; rfl)
      generalize min b.length 300 = m3 at hmin3 p1 HCB HZV
      have p3 : m3 ≤ cx := by omega
      have p4 : (m3 : Int) ≤ (cx : Int) := by omega
      have p5 : (0 : Int) ≤ (m3 : Int) := by omega
      have n62 : b.length ≤ 9223372036854775807 := by simp only [maxLen] at hml; omega
      have hk0 : (0 : Int) ≤ (k : Int) := by omega
      have hk1 : (k : Int) < (m2 : Int) := by omega
      have mm : k + 1 ≤ maxLen := by simp only [maxLen]; omega
      clear hR hx hbk hkk e2 hml hcut hc0 hc1
      go_wp2_with (at_builtin; (refine wpList_append_rd _ rfl _ _ 45 rfl (w.heap.size + 2) 30 j0 _ 1 24 Try.underlying45 hj0 hy0 hy1 hy2 rfl (by decide) (.slice A k cap) k vs rfl (World.ownsRow.alloc HOWN.out _) _ 1 [.slice Ax m3 cx] rfl (Rd.one _ _ _ rfl) (by simp [Value.oneCell']) mm (by omega) (by simp; omega) ?_); intro A3 cap3 w3 hown3 hg3 hat3)
      go_roundw
      case rel =>
        have hkA : Kept Kno wr (wr.alloc (.cells #[.slice Ax m3 cx] 30)) := (Kept.refl _ _).alloc _
        have hk3 : Kept (Kown (.slice A k cap)) wr w3 := (hkA.mono (T := Kown (.slice A k cap)) (fun _ _ h => h.elim)).grown hg3 (fun q _ e => e)
        have hno : ∀ q, Kown (.slice A k cap) q → w.heap.size + 2 ≤ q := fun q e => (own_base HOWN.out e).1
        have hvl : vs.length = k := by have := HOWN.out.1; omega
        refine ⟨k + 1, A3, cap3, vs ++ [.slice Ax m3 cx], by omega, by go_num, rfl, hown3, by rw [take_snocw HZV.out, HEL.out], HC0.out.kept hk3 (fun e => by have := hno _ e; omega), HC1.out.kept hk3 (fun e => by have := hno _ e; omega), HKK.out.trans hk3 (fun q hq e => by have := hno q e; omega)⟩
      case measure => simp [intOf]; omega
    · have hk1 : ¬ (k : Int) < (m2 : Int) := by omega
      obtain rfl : k = m2 := by omega
      have d0 := hc0.cell 0
      have d1 := hc0.cell 1
      have d2 := hc0.cell 2
      have d3 := hc0.cell 3
      have d4 := hc0.cell 4
      have g3 := hc0.frozen 3
      have e0 := hc1.cell 0
      have e1 := hc1.cell 1
      have e2 := hc1.cell 2
      have e3 := hc1.cell 3
      have e4 := hc1.cell 4
      have h0 := hc1.frozen 0
      have h1 := hc1.frozen 1
      have h2 := hc1.frozen 2
      have h3 := hc1.frozen 3
      have h4 := hc1.frozen 4
      simp only [List.getElem?_toArray, List.getElem?_cons_zero, List.getElem?_cons_succ] at d0 d1 d2 d3 d4 e0 e1 e2 e3 e4
      clear hc0 hc1 hkk
      go_wp2
      have hfin : Blk ((((((wr.setCell ⟨w.heap.size, 3, none⟩ (.slice A k cap)).setCell ⟨w.heap.size + 1, 0, none⟩ (.int .i64 kk)).setCell ⟨w.heap.size + 1, 1, none⟩ (.int .i64 n)).setCell ⟨w.heap.size + 1, 2, none⟩ (.slice Ab m1 cb)).setCell ⟨w.heap.size + 1, 3, none⟩ (.slice A k cap)).setCell ⟨w.heap.size + 1, 4, none⟩ (.slice Ak nk ck)) (w.heap.size + 1) 47 #[.int .i64 kk, .int .i64 n, .slice Ab m1 cb, .slice A k cap, .slice Ak nk ck] := (((((HC1.out.far (p := ⟨w.heap.size, 3, none⟩) (by simp) _).set_ 0 (.int .i64 kk)).set_ 1 (.int .i64 n)).set_ 2 (.slice Ab m1 cb)).set_ 3 (.slice A k cap)).set_ 4 (.slice Ak nk ck)
      have hkF : Kept (fun q => q = w.heap.size ∨ q = w.heap.size + 1) wr ((((((wr.setCell ⟨w.heap.size, 3, none⟩ (.slice A k cap)).setCell ⟨w.heap.size + 1, 0, none⟩ (.int .i64 kk)).setCell ⟨w.heap.size + 1, 1, none⟩ (.int .i64 n)).setCell ⟨w.heap.size + 1, 2, none⟩ (.slice Ab m1 cb)).setCell ⟨w.heap.size + 1, 3, none⟩ (.slice A k cap)).setCell ⟨w.heap.size + 1, 4, none⟩ (.slice Ak nk ck)) := (((((((Kept.refl _ wr).setIn (p := ⟨w.heap.size, 3, none⟩) (.inl rfl) _).setIn (p := ⟨w.heap.size + 1, 0, none⟩) (.inr rfl) _).setIn (p := ⟨w.heap.size + 1, 1, none⟩) (.inr rfl) _).setIn (p := ⟨w.heap.size + 1, 2, none⟩) (.inr rfl) _).setIn (p := ⟨w.heap.size + 1, 3, none⟩) (.inr rfl) _).setIn (p := ⟨w.heap.size + 1, 4, none⟩) (.inr rfl) _)
      generalize ((((((wr.setCell ⟨w.heap.size, 3, none⟩ (.slice A k cap)).setCell ⟨w.heap.size + 1, 0, none⟩ (.int .i64 kk)).setCell ⟨w.heap.size + 1, 1, none⟩ (.int .i64 n)).setCell ⟨w.heap.size + 1, 2, none⟩ (.slice Ab m1 cb)).setCell ⟨w.heap.size + 1, 3, none⟩ (.slice A k cap)).setCell ⟨w.heap.size + 1, 4, none⟩ (.slice Ak nk ck)) = wF at hfin hkF ⊢
      have hkW : Kept Kno w wF := HKK.out.trans hkF (fun q hq e => by rcases e with e | e <;> omega)
      have HLN := Lib.hid HR.out.len
      have hcl : (cutR rs).length = k := by unfold cutR; rw [← HM8.out, List.length_map, List.length_take]; omega
      refine bodyPost_ret (results_cell_row rfl _ _ (w.heap.size + 1) 47 _ (0, 0) _ rfl hfin Try.underlying47 rfl (by kernel_rfl)) rfl ?_
      have hz8 : (zipV us rs).take 8 = vs := by rw [HEL.out]; exact zip_eight us rs HLN.out HM8b.out
      refine ⟨A, cap, by rw [hcl, ← HM1.out], ?_, hkW⟩
      rw [hcl, hz8]
      exact own_rebase (own_kept HOWN.out hkF (fun q e e' => by have := (own_base HOWN.out e).1; rcases e' with e' | e' <;> omega)) (fun q e => by have := (own_base HOWN.out e).1; omega)

end Go.Proofs.Yteoodgcpkgfomaa
/-
  Journal: the program's journal and the reference's, side by side.
-/
namespace Go.Proofs.Yteoodgcpkgfomaa
open Go.RowKit
set_option linter.unusedVariables false

/-- The program's disk and journal hold s1, the reference's s2; the blocks of X have stood since wF. -/
structure PS (W wF w : World) (X : Nat → Prop) (B J BR K : Nat) (F : Int) (fs : List File) (rv ev : Value) (us vs : List Value) (rv2 : Value) (us2 : List Value) (s1 s2 : JA) : Prop where
  is : Is w W.heap.size B fs s1.a
  jr : Jr w W.heap.size J B F rv ev us s1.rs s1.off
  ja : JApart J B fs rv ev us
  ri : RIs w W.heap.size BR vs s2.a
  rj : RJ w W.heap.size K BR F rv2 us2 s2.rs s2.off
  ka : KApart K BR vs rv2 us2
  sd : Sides W w (fun k => JOwn J rv ev us k ∨ DK B fs k) (fun k => KOwn K rv2 us2 k ∨ RK BR vs k)
  x : ∀ k, X k → k < wF.heap.size ∧ ¬ (JOwn J rv ev us k ∨ DK B fs k) ∧ ¬ (KOwn K rv2 us2 k ∨ RK BR vs k)
  kx : Kept (fun k => ¬ X k) wF w

section
variable {W wF w w' : World} {X : Nat → Prop} {B J BR K : Nat} {F : Int} {fs : List File} {rv ev rv2 : Value} {us vs us2 : List Value} {s1 s2 s' : JA}
theorem PS.farP (h : PS W wF w X B J BR K F fs rv ev us vs rv2 us2 s1 s2) (hk : Kept (fun k => JOwn J rv ev us k ∨ DK B fs k) w w') : Kept Kno W w' :=
  h.sd.k.trans hk (fun i hi e => by have := (h.sd.pl i e).1; omega)
theorem PS.farQ (h : PS W wF w X B J BR K F fs rv ev us vs rv2 us2 s1 s2) (hk : Kept (fun k => KOwn K rv2 us2 k ∨ RK BR vs k) w w') : Kept Kno W w' :=
  h.sd.k.trans hk (fun i hi e => by have := (h.sd.ql i e).1; omega)
theorem PS.kept0 (h : PS W wF w X B J BR K F fs rv ev us vs rv2 us2 s1 s2) (hk : Kept Kno w w') : PS W wF w' X B J BR K F fs rv ev us vs rv2 us2 s1 s2 :=
  ⟨h.is.kept0 hk, h.jr.kept0 hk, h.ja, h.ri.kept0 hk, h.rj.kept0 hk, h.ka, h.sd.kept0 hk, h.x, h.kx.then0 hk⟩
theorem PS.reset {Y : Nat → Prop} (h : PS W wF w X B J BR K F fs rv ev us vs rv2 us2 s1 s2) (hY : ∀ k, Y k → k < w.heap.size ∧ ¬ (JOwn J rv ev us k ∨ DK B fs k) ∧ ¬ (KOwn K rv2 us2 k ∨ RK BR vs k)) : PS W w w Y B J BR K F fs rv ev us vs rv2 us2 s1 s2 :=
  ⟨h.is, h.jr, h.ja, h.ri, h.rj, h.ka, h.sd, hY, Kept.refl _ _⟩
theorem PS.jturn (h : PS W wF w X B J BR K F fs rv ev us vs rv2 us2 s1 s2) (ht : JTurn W.heap.size J B F fs rv ev us s' w w') : ∃ fs' rv' ev' us', PS W wF w' X B J BR K F fs' rv' ev' us' vs rv2 us2 s' s2 := by
  obtain ⟨fs', rv', ev', us', h1, h2, h3, h4, h5, h6⟩ := ht
  have hs := h.kx.size
  have hP : ∀ k, (JOwn J rv' ev' us' k ∨ DK B fs' k) → (JOwn J rv ev us k ∨ DK B fs k) ∨ w.heap.size ≤ k := fun k e => by
    rcases e with e | e
    · exact (h6 k e).imp_left .inl
    · exact (h5 k e).imp_left .inr
  refine ⟨fs', rv', ev', us', h1, h2, h3, ris_far h.ri h4 (fun k e e' => h.sd.ap k e (.inr e')), h.rj.kept h4 (fun k e e' => h.sd.ap k e' (.inl e)), h.ka, h.sd.move h4 (fun _ h => h) hP (fun k e => ?_), fun k e => ⟨(h.x k e).1, fun e' => ?_, (h.x k e).2.2⟩, h.kx.trans h4 (fun i hi e hX => (h.x i hX).2.1 e)⟩
  · rcases e with e | e
    · exact (h2.own_low e).2
    · exact (h1.low e).2
  · rcases hP k e' with h7 | h7
    · exact (h.x k e).2.1 h7
    · have := (h.x k e).1; omega
theorem PS.kturn (h : PS W wF w X B J BR K F fs rv ev us vs rv2 us2 s1 s2) (ht : KTurn W.heap.size K BR F vs rv2 us2 s' w w') : ∃ vs' rv' us', PS W wF w' X B J BR K F fs rv ev us vs' rv' us' s1 s' := by
  obtain ⟨vs', rv', us', h1, h2, h3, h4, h5, h6⟩ := ht
  have hs := h.kx.size
  have hQ : ∀ k, (KOwn K rv' us' k ∨ RK BR vs' k) → (KOwn K rv2 us2 k ∨ RK BR vs k) ∨ w.heap.size ≤ k := fun k e => by
    rcases e with e | e
    · exact (h6 k e).imp_left .inl
    · exact (h5 k e).imp_left .inr
  refine ⟨vs', rv', us', is_far h.is h4 (fun k e e' => h.sd.ap k (.inr e') e), h.jr.kept h4 (fun k e e' => h.sd.ap k (.inl e) e'), h.ja, h1, h2, h3, (h.sd.swap.move h4 (fun _ h => h) hQ (fun k e => ?_)).swap, fun k e => ⟨(h.x k e).1, (h.x k e).2.1, fun e' => ?_⟩, h.kx.trans h4 (fun i hi e hX => (h.x i hX).2.2 e)⟩
  · rcases e with e | e
    · exact (h2.own_low e).2
    · exact (ris_low h1 e).2
  · rcases hQ k e' with h7 | h7
    · exact (h.x k e).2.2 h7
    · have := (h.x k e).1; omega
theorem PS.dturn (h : PS W wF w X B J BR K F fs rv ev us vs rv2 us2 s1 s2) {a' : Ab} (ht : Turn W.heap.size B fs a' w w') : ∃ fs' rv' ev' us', PS W wF w' X B J BR K F fs' rv' ev' us' vs rv2 us2 ⟨a', s1.rs, s1.off⟩ s2 := by
  obtain ⟨fs', h1, h2, h3⟩ := ht.is
  refine h.jturn ⟨fs', rv, ev, us, h1, h.jr.kept h2 (fun k e => h.ja k e), fun k e e' => ?_, h2.mono (fun k _ e => .inr e), h3, fun k e => .inl e⟩
  rcases h3 k e' with h7 | h7
  · exact h.ja k e h7
  · have := (h.jr.own_low e).2; omega
theorem PS.rturn (h : PS W wF w X B J BR K F fs rv ev us vs rv2 us2 s1 s2) {a' : Ab} (ht : RTurn W.heap.size BR vs a' w w') : ∃ vs' rv' us', PS W wF w' X B J BR K F fs rv ev us vs' rv' us' s1 ⟨a', s2.rs, s2.off⟩ := by
  obtain ⟨⟨vs', h1, hf⟩, h2⟩ := ht
  have h3 : ∀ k, RK BR vs' k → RK BR vs k ∨ w.heap.size ≤ k := rk_from hf
  refine h.kturn ⟨vs', rv2, us2, h1, h.rj.kept h2 (fun k e e' => h.ka k e (.inl e')), fun k e e' => ?_, h2.mono (fun k _ e => .inr (.inl e)), h3, fun k e => .inl e⟩
  rcases h3 k e' with h7 | h7
  · exact h.ka k e h7
  · have := (h.rj.own_low e).2; omega
/-- The program's journal is opened anew. -/
theorem PS.jnew (h : PS W wF w X B J BR K F fs rv ev us vs rv2 us2 s1 s2) {a' : Ab} {L : List (List UInt8)} {fs' : List File} {J' : Nat} {rv' ev' : Value} {us' : List Value} (h1 : Is w' W.heap.size B fs' a') (h2 : Kept (DK B fs) w w') (h3 : ∀ k, DK B fs' k → DK B fs k ∨ w.heap.size ≤ k)
    (h4 : Jr w' w.heap.size J' B F rv' ev' us' L false) (h5 : JApart J' B fs' rv' ev' us') : PS W wF w' X B J' BR K F fs' rv' ev' us' vs rv2 us2 ⟨a', L, false⟩ s2 := by
  have hs := h.kx.size
  have hW := h.sd.k.size
  have hP : ∀ k, (JOwn J' rv' ev' us' k ∨ DK B fs' k) → (JOwn J rv ev us k ∨ DK B fs k) ∨ w.heap.size ≤ k := fun k e => by
    rcases e with e | e
    · exact .inr (h4.own_low e).1
    · exact (h3 k e).imp_left .inr
  refine ⟨h1, h4.rebase hW, h5, ris_far h.ri h2 (fun k e e' => h.sd.ap k (.inr e) (.inr e')), h.rj.kept h2 (fun k e e' => h.sd.ap k (.inr e') (.inl e)), h.ka, h.sd.move h2 (fun _ h => .inr h) hP (fun k e => ?_), fun k e => ⟨(h.x k e).1, fun e' => ?_, (h.x k e).2.2⟩, h.kx.trans h2 (fun i hi e hX => (h.x i hX).2.1 (.inr e))⟩
  · rcases e with e | e
    · exact (h4.own_low e).2
    · exact (h1.low e).2
  · rcases hP k e' with h7 | h7
    · exact (h.x k e).2.1 h7
    · have := (h.x k e).1; omega
/-- The reference's journal is opened anew. -/
theorem PS.knew (h : PS W wF w X B J BR K F fs rv ev us vs rv2 us2 s1 s2) {a' : Ab} {L : List (List UInt8)} {vs' : List Value} {K' : Nat} {rv' : Value} {us' : List Value} (h1 : RIs w' W.heap.size BR vs' a') (h2 : Kept (Kone BR) w w') (h3 : ∀ k, RK BR vs' k → RK BR vs k ∨ w.heap.size ≤ k)
    (h4 : RJ w' w.heap.size K' BR F rv' us' L false) (h5 : KApart K' BR vs' rv' us') : PS W wF w' X B J BR K' F fs rv ev us vs' rv' us' s1 ⟨a', L, false⟩ := by
  have hs := h.kx.size
  have hW := h.sd.k.size
  have hQ : ∀ k, (KOwn K' rv' us' k ∨ RK BR vs' k) → (KOwn K rv2 us2 k ∨ RK BR vs k) ∨ w.heap.size ≤ k := fun k e => by
    rcases e with e | e
    · exact .inr (h4.own_low e).1
    · exact (h3 k e).imp_left .inr
  refine ⟨is_far h.is h2 (fun k e e' => h.sd.ap k (.inr e') (.inr (.inl e))), h.jr.kept h2 (fun k e e' => h.sd.ap k (.inl e) (.inr (.inl e'))), h.ja, h1, h4.rebase hW, h5, (h.sd.swap.move h2 (fun k h => .inr (.inl h)) hQ (fun k e => ?_)).swap, fun k e => ⟨(h.x k e).1, (h.x k e).2.1, fun e' => ?_⟩, h.kx.trans h2 (fun i hi e hX => (h.x i hX).2.2 (.inr (.inl e)))⟩
  · rcases e with e | e
    · exact (h4.own_low e).2
    · exact (ris_low h1 e).2
  · rcases hQ k e' with h7 | h7
    · exact (h.x k e).2.2 h7
    · have := (h.x k e).1; omega
end

theorem file_leF {w : World} {base B : Nat} {fs : List File} {a : Ab} (h : Is w base B fs a) (hr : a.room ≤ 4000) {F : Nat} (hF : F < 8) : (a.file F).1.length ≤ 4000 ∧ (a.file F).2 ≤ (a.file F).1.length := by
  obtain ⟨f, hf, e⟩ := h.file hF
  have hm := List.mem_of_getElem? hf
  have h1 := used_le hm
  have h2 := h.1.fits
  rw [e]
  exact ⟨by show f.l.length ≤ 4000; omega, (h.1.files f hm).2⟩
theorem read_leF {w : World} {base B : Nat} {fs : List File} {a : Ab} (h : Is w base B fs a) (hr : a.room ≤ 4000) {F : Nat} (hF : F < 8) : (a.read F).1.length ≤ 4000 := by
  unfold Ab.read
  split
  · simp
  · exact (file_leF h hr hF).1

end Go.Proofs.Yteoodgcpkgfomaa
