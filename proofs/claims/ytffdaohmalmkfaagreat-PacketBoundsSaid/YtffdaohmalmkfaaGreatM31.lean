/-
  Contracts and plain laws that the claim's theorem rests on, some texts in one file.
-/
import Derived.Test.YtffdaohmalmkfaaGreatM30
/-
  Packet's reference: plain, terms, nodes, Writable. (Printed by gen_pakrg.py.)
-/
namespace Go.Proofs.YtffdaohmalmkfaaGreat
open Go.RowKit
set_option linter.unusedVariables false

set_option maxRecDepth 100000 in
set_option maxHeartbeats 1000000 in
theorem xplain_any (x : Val) (w : World) : Calls Tryz.prog 254 #[x.v] w (RetBool (plainV x) w) := by
  obtain ⟨vk, vn, vs⟩ := x
  simp only [Val.v]
  by_cases hz : valZ ⟨vk, vn, vs⟩ = true
  · have hv := valZ_is _ hz
    injection hv with e1 e2 e3
    subst e1 e2 e3
    have hx : ∀ w', Kept Kno w w' → RetBool (plainV ⟨0, 0, ⟨#[]⟩⟩) w (.returned (.bool true)) w' := fun w' h => ⟨by unfold plainV; rw [hz]; rfl, h⟩
    have HX := Lib.hid hx
    clear hx hz
    go_enter Tryz.func254, Tryz.ntmps254
    go_wp2
    go_ret
    exact HX.out _ ((Kept.refl _ _).alloc _)
  · have hx : ∀ w', Kept Kno w w' → RetBool (plainV ⟨vk, vn, vs⟩) w (.returned (.bool (validB vk vn vs))) w' := fun w' h => ⟨by unfold plainV; simp [hz], h⟩
    have HX := Lib.hid hx
    clear hx
    by_cases hk : vk = 0
    · have hv : validB vk vn vs = false := by
        cases h : validB vk vn vs with
        | false => rfl
        | true => exact absurd hk (valid_kind ⟨vk, vn, vs⟩ h)
      clear hv
      subst hk
      by_cases hvn : vn = 0
      · subst hvn
        have hs1 : ¬ vs.toList = [] := fun h2 => hz (by
          have : vs.size = 0 := by rw [Lib.toList_data] at h2; exact (congrArg List.length h2 : _)
          simp [valZ, this])
        have hs2 : vs.toList.isEmpty = false := by cases h : vs.toList with
          | nil => exact absurd h hs1
          | cons a b => rfl
        clear hz
        go_enter Tryz.func254, Tryz.ntmps254
        go_wp2_with fail
        refine (refValid_any 0 _ vs _).mono ?_
        rintro e w1 ⟨rfl, hk1⟩
        have HK := Lib.hid (((Kept.refl Kno w).alloc _).then0 hk1)
        clear hk1
        go_wp2
        go_ret
        exact HX.out _ HK.out
      · have hn0 : (vn == 0) = false := by simpa using hvn
        clear hz hvn
        go_enter Tryz.func254, Tryz.ntmps254
        go_wp2_with fail
        refine (refValid_any 0 _ vs _).mono ?_
        rintro e w1 ⟨rfl, hk1⟩
        have HK := Lib.hid (((Kept.refl Kno w).alloc _).then0 hk1)
        clear hk1
        go_wp2
        go_ret
        exact HX.out _ HK.out
    · have hk0 : (vk == 0) = false := by simpa using hk
      clear hz hk
      go_enter Tryz.func254, Tryz.ntmps254
      go_wp2_with fail
      refine (refValid_any vk vn vs _).mono ?_
      rintro e w1 ⟨rfl, hk1⟩
      have HK := Lib.hid (((Kept.refl Kno w).alloc _).then0 hk1)
      clear hk1
      go_wp2
      go_ret
      exact HX.out _ HK.out

/-- What terms and nodes count: m is the number of nodes, or too large. -/
def CntOk (m size : Nat) (fit : Bool) (d : Nat) : Prop := (m ≤ 24 → m = size ∧ fit = true) ∧ (size ≤ 24 → fit = true → m = size) ∧ m ≤ 25 + 24 * (9 - d)
def RetCnt (size : Nat) (fit : Bool) (d : Nat) (w : World) (e : Ending) (w' : World) : Prop := ∃ m : Nat, e = .returned (.int .i64 m) ∧ CntOk m size fit d ∧ Kept Kno w w'
theorem CntOk.no {size : Nat} {fit : Bool} {d : Nat} (h : (decide (size ≤ 24) && fit) = false) : CntOk 25 size fit d :=
  ⟨fun h2 => absurd h2 (by decide), fun h1 h2 => (by rw [h2, decide_eq_true h1] at h; cases h), by omega⟩
theorem CntOk.iff {m size : Nat} {fit : Bool} {d : Nat} (h : CntOk m size fit d) : decide (m ≤ 24) = (decide (size ≤ 24) && fit) := by
  obtain ⟨h1, h2, -⟩ := h
  by_cases hm : m ≤ 24
  · obtain ⟨rfl, hf⟩ := h1 hm
    rw [hf, Bool.and_true]
  · rw [decide_eq_false hm]
    cases hf : fit with
    | false => simp
    | true =>
      rw [Bool.and_true, decide_eq_false]
      intro hs
      exact hm (by rw [h2 hs hf]; exact hs)
def CntRel (d : Nat) (tot : Nat → Nat) (fits : Nat → Bool) (n : Nat) (w : World) (t i : Value) (wr : World) : Prop :=
  ∃ k : Nat, k ≤ n ∧ i = .int .i64 k ∧ t = .int .i64 ((1 + tot k : Nat) : Int) ∧ 1 + tot k ≤ 24 ∧ fits k = true ∧ Kept Kno w wr

set_option maxRecDepth 100000 in
set_option maxHeartbeats 8000000 in
theorem xterms_n (N : Nat) : ∀ (p : Prd), sizeP p ≤ N → ∀ (d B : Nat) (s : Value) (w : World), PIn w B p s → B ≤ w.heap.size → 1 ≤ d → d ≤ 9 →
    Calls Tryz.prog 205 #[p.v s, .int .i64 d] w (RetCnt (sizeP p) (fitP d p) d w) := by
  induction N with
  | zero => intro p hp; have := sizeP_pos p; omega
  | succ N IH =>
    intro p hsz d B s w hp hB hd1 hd
    obtain ⟨op, cmp, lo, ro, args⟩ := p
    simp only [sizeP] at hsz
    simp only [PIn] at hp
    obtain ⟨p1, p2, p3, p4, A, cap, rfl, hcap, hmax, -, hlow, hat⟩ := hp
    have HAT := Lib.hid hat
    have hmax' : cap ≤ 9223372036854775807 := by simpa only [maxLen] using hmax
    have HFP : Hid (∀ d, fitP d (.mk op cmp lo ro args) = (decide (d ≤ 8) && fitO lo && fitO ro && fitPs (d + 1) args)) := Lib.hid (fun d => by simp only [fitP])
    have HSZ : Hid (sizeP (.mk op cmp lo ro args) = 1 + sizePs args) := Lib.hid (by simp only [sizeP])
    have HIH : Hid (∀ (p : Prd), p ∈ args → ∀ (s : Value) (w : World), d ≤ 8 → PIn w B p s → B ≤ w.heap.size → Calls Tryz.prog 205 #[p.v s, .int .i64 ((d : Int) + 1)] w (RetCnt (sizeP p) (fitP (d + 1) p) (d + 1) w)) := Lib.hid (by
      intro p hpm s w h0 h1 h2
      exact IH p (by have := sizePs_mem hpm; omega) (d + 1) B s w h1 h2 (by omega) (by omega))
    have HSL := Lib.hid (sizePs_len args)
    obtain ⟨lk, li, ⟨la, lb, lc⟩⟩ := lo
    obtain ⟨rk, ri, ⟨ra, rb, rc⟩⟩ := ro
    generalize hT : Prd.mk op cmp ⟨lk, li, ⟨la, lb, lc⟩⟩ ⟨rk, ri, ⟨ra, rb, rc⟩⟩ args = T at HFP HSZ ⊢
    have hTv : T.v (.slice A args.length cap) = .agg #[.int .i64 op, .int .i64 cmp, .int .i64 lk, .int .i64 li, .int .i64 la, .int .i64 lb, .string lc, .int .i64 rk, .int .i64 ri, .int .i64 ra, .int .i64 rb, .string rc, .slice A args.length cap] := by rw [← hT]; rfl
    rw [hTv]
    obtain ⟨wA, hA⟩ : ∃ wA, wA = w.alloc (.cells #[.int .i64 op, .int .i64 cmp, .int .i64 lk, .int .i64 li, .int .i64 la, .int .i64 lb, .string lc, .int .i64 rk, .int .i64 ri, .int .i64 ra, .int .i64 rb, .string rc, .slice A args.length cap] 54) := ⟨_, rfl⟩
    have hkA : Kept Kno w wA := by rw [hA]; exact (Kept.refl _ _).alloc _
    have hGA : Blk wA w.heap.size 54 #[.int .i64 op, .int .i64 cmp, .int .i64 lk, .int .i64 li, .int .i64 la, .int .i64 lb, .string lc, .int .i64 rk, .int .i64 ri, .int .i64 ra, .int .i64 rb, .string rc, .slice A args.length cap] := by rw [hA]; exact Blk.new _ _ _
    have HAe := Lib.hid hA
    have HGA := Lib.hid hGA
    have HKA := Lib.hid hkA
    have HNO : Hid (∀ w', (decide (sizeP T ≤ 24) && fitP d T) = false → Kept Kno w w' → RetCnt (sizeP T) (fitP d T) d w (.returned (.int .i64 25)) w') := Lib.hid (fun w' h hk => ⟨25, rfl, CntOk.no h, hk⟩)
    clear IH p1 p2 p3 p4 hat hlow hmax hsz hA hkA hGA hT hTv
    go_enter Tryz.func205, Tryz.ntmps205
    go_upto_region 1 with (fail)
    rw [← HAe.out]
    by_cases h2 : d ≤ 8
    rotate_left
    · have h2' : (8 : Int) < (d : Int) := by omega
      have HX := Lib.hid (HNO.out wA (by rw [HFP.out, decide_eq_false h2]; simp) HKA.out)
      go_wp2
      go_ret
      exact HX.out
    have h2' : ¬ (8 : Int) < (d : Int) := by omega
    have c4 : wA.cell? ⟨w.heap.size, 4, none⟩ = some (.int .i64 la) := HGA.out.cell 4
    have c5 : wA.cell? ⟨w.heap.size, 5, none⟩ = some (.int .i64 lb) := HGA.out.cell 5
    have c6 : wA.cell? ⟨w.heap.size, 6, none⟩ = some (.string lc) := HGA.out.cell 6
    go_wp2_with fail
    refine (xplain_any ⟨la, lb, lc⟩ wA).mono ?_
    rintro e w1 ⟨rfl, hk1⟩
    have HG1 := Lib.hid (HGA.out.kept hk1 (fun h => h))
    have HK1 := Lib.hid (HKA.out.then0 hk1)
    clear hk1 c4 c5 c6
    cases hf1 : plainV ⟨la, lb, lc⟩ with
    | false =>
      have HX := Lib.hid (HNO.out w1 (by rw [HFP.out]; simp [fitO, hf1]) HK1.out)
      clear hf1
      go_wp2
      go_ret
      exact HX.out
    | true =>
      have HF1 := Lib.hid hf1
      clear hf1
      have c9 : w1.cell? ⟨w.heap.size, 9, none⟩ = some (.int .i64 ra) := HG1.out.cell 9
      have c10 : w1.cell? ⟨w.heap.size, 10, none⟩ = some (.int .i64 rb) := HG1.out.cell 10
      have c11 : w1.cell? ⟨w.heap.size, 11, none⟩ = some (.string rc) := HG1.out.cell 11
      go_wp2_with fail
      refine (xplain_any ⟨ra, rb, rc⟩ w1).mono ?_
      rintro e w2 ⟨rfl, hk2⟩
      have HG2 := Lib.hid (HG1.out.kept hk2 (fun h => h))
      have HK2 := Lib.hid (HK1.out.then0 hk2)
      clear hk2 c9 c10 c11 HG1 HK1
      cases hf2 : plainV ⟨ra, rb, rc⟩ with
      | false =>
        have HX := Lib.hid (HNO.out w2 (by rw [HFP.out]; simp [fitO, hf2]) HK2.out)
        clear hf2
        go_wp2
        go_ret
        exact HX.out
      | true =>
        have HF2 := Lib.hid hf2
        clear hf2
        have c12 : w2.cell? ⟨w.heap.size, 12, none⟩ = some (.slice A args.length cap) := HG2.out.cell 12
        by_cases hal : args.length ≤ 24
        rotate_left
        · have hal' : (24 : Int) < (args.length : Int) := by omega
          have HX := Lib.hid (HNO.out w2 (by rw [HSZ.out, decide_eq_false (by have := HSL.out; omega)]; rfl) HK2.out)
          go_wp2
          go_ret
          exact HX.out
        have hal' : ¬ (24 : Int) < (args.length : Int) := by omega
        go_wp2_with fail
        go_loopw [5, 33] (fun t i wr => CntRel d (fun k => sizePs (args.take k)) (fun k => fitPs (d + 1) (args.take k)) args.length w t i wr) (fun _ i _ => args.length - (intOf i).toNat)
        case atStart => exact ⟨0, Nat.zero_le _, rfl, rfl, by simp [sizePs], by simp [fitPs], HK2.out⟩
        case round =>
          obtain ⟨k, hk, rfl, rfl, hsum, hfk, hkk⟩ := hrel
          have HKK := Lib.hid hkk
          have HFK := Lib.hid hfk
          have HSUM : Hid (1 + sizePs (args.take k) ≤ 24) := Lib.hid hsum
          clear hkk hfk hsum
          by_cases hlt : k < args.length
          · obtain ⟨g, o, rfl, hgB, hc⟩ := HAT.out (by omega)
            have hold : Old B w wr := HKK.out.old (by omega) (fun _ _ h => h)
            obtain ⟨q, hq⟩ : ∃ q, args[k]? = some q := ⟨_, List.getElem?_eq_getElem hlt⟩
            obtain ⟨sq, hqi, hqc⟩ := hc.get hq
            have HQI := Lib.hid (PIn.old hold (Nat.le_refl _) _ _ hqi)
            have HQC := Lib.hid (hqc.old hgB hold)
            have hmem := List.mem_of_getElem? hq
            have HST := Lib.hid (sizePs_take_succ args k q hq)
            have HSTL := Lib.hid (sizePs_take_le args (k + 1))
            have HFT := Lib.hid (fitPs_take_succ (d + 1) args k q hq)
            have HMEM := Lib.hid hmem
            have hqn := q.cells_length sq
            have hqo := PIn.one hqi
            have HI : Hid ((Tryz.prog.info? 54).map (·.size) = some (q.cells sq).length) := Lib.hid (by rw [hqn]; kernel_rfl)
            have HI2 : Hid ((Tryz.prog.info? 54).map (·.size) = some (q.cells sq).toArray.size) := Lib.hid (by rw [List.size_toArray, hqn]; kernel_rfl)
            have HZ : Hid ((q.cells sq).toArray.size = 13) := Lib.hid (by rw [List.size_toArray, hqn])
            have HO : Hid ((q.cells sq).toArray.all (·.oneCell') = true) := Lib.hid (by simpa using hqo)
            have HQV : Hid (q.v sq = .agg (q.cells sq).toArray) := Lib.hid (q.v_cells sq)
            have hkq : Kept Kno wr (wr.alloc (.cells (q.cells sq).toArray 54)) := (Kept.refl _ _).alloc _
            have HBR : Hid (B ≤ wr.heap.size) := Lib.hid (Nat.le_trans hB HKK.out.size)
            have HCC := Lib.hid (HIH.out q hmem sq _ h2 (PIn.old (hkq.old (B := B) HBR.out (fun _ _ h => h)) (Nat.le_refl _) _ _ HQI.out) (Nat.le_trans HBR.out hkq.size))
            have HKQ := Lib.hid (HKK.out.then0 hkq)
            have hk0 : (0 : Int) ≤ (k : Int) := by omega
            have hk9 : (k : Int) < (args.length : Int) := by omega
            have hwd : IntKind.i64.wrap ((d : Int) + 1) = (d : Int) + 1 := IntWalk.i64_in _ (by omega)
            clear hqc hqi hq hmem hold hc hqn hqo hkq
            obtain ⟨tk, htk⟩ : ∃ tk : Nat, tk = 1 + sizePs (args.take k) := ⟨_, rfl⟩
            have hsum : tk ≤ 24 := by rw [htk]; exact HSUM.out
            have HTK := Lib.hid htk
            rw [← htk]
            clear htk
            go_wp2_with (first
              | (refine wpList_load_at rfl 54 (.tmp 35) rfl g (o + k * 13) (q.cells sq) _ rfl HQC.out Tryz.underlying54 rfl HI.out ?_)
              | (refine wpList_store_new rfl 54 (.tmp 7) (.tmp 36) rfl _ (q.cells sq).toArray rfl rfl HI2.out (by rw [HZ.out]; rfl) HO.out ?_)
              | (refine wpList_load_row rfl 54 (.tmp 7) rfl wr.heap.size rfl 54 (q.cells sq).toArray (0, 0) _ (Blk.new wr _ _) Tryz.underlying54 rfl HI2.out ?_))
            rw [← HQV.out]
            refine HCC.out.mono ?_
            rintro e w6 ⟨m, rfl, hm, hk6⟩
            have HM := Lib.hid hm
            have hmb : m ≤ 1000 := by have := hm.2.2; omega
            have HK6 := Lib.hid (HKQ.out.then0 hk6)
            clear hk6 hwd hm
            by_cases hle : tk + m ≤ 24
            · have hle' : ¬ (24 : Int) < (tk : Int) + (m : Int) := by omega
              obtain ⟨hms, hmf⟩ := HM.out.1 (by omega)
              have HMS := Lib.hid hms
              have HMF := Lib.hid hmf
              clear hms hmf
              go_wp2
              go_roundw
              case rel => exact ⟨k + 1, by omega, by go_num, by (dsimp only; rw [HST.out, ← HMS.out, ← Nat.add_assoc, ← HTK.out]; go_num), by (dsimp only; rw [HST.out, ← HMS.out, ← Nat.add_assoc, ← HTK.out]; exact hle), by (dsimp only; rw [HFT.out, HFK.out, HMF.out]; rfl), HK6.out⟩
              case measure => simp [intOf]; omega
            · have hle' : (24 : Int) < (tk : Int) + (m : Int) := by omega
              have hx : RetCnt (sizeP T) (fitP d T) d w (.returned (.int .i64 ((tk : Int) + m))) w6 := by
                refine ⟨tk + m, by go_num, ⟨fun h => absurd h hle, fun h1 hf => ?_, ?_⟩, HK6.out⟩
                · exfalso
                  rw [HFP.out] at hf
                  simp only [Bool.and_eq_true] at hf
                  have hfm := fitPs_mem hf.2 HMEM.out
                  rw [HSZ.out] at h1
                  have h3 := HSTL.out
                  rw [HST.out] at h3
                  have h4 := HM.out.2.1 (by omega) hfm
                  have h5 := HTK.out
                  omega
                · have := HM.out.2.2
                  omega
              have HX := Lib.hid hx
              clear hx
              go_wp2
              go_ret
              exact HX.out
          · have hk9 : ¬ (k : Int) < (args.length : Int) := by omega
            have htk : args.take k = args := List.take_of_length_le (by omega)
            have hx : RetCnt (sizeP T) (fitP d T) d w (.returned (.int .i64 ((1 + sizePs (args.take k) : Nat) : Int))) wr := by
              refine ⟨1 + sizePs (args.take k), rfl, ⟨fun h => ⟨by rw [htk, HSZ.out], ?_⟩, fun _ _ => by rw [htk, HSZ.out], by have := HSUM.out; omega⟩, HKK.out⟩
              have h3 := HFK.out
              dsimp only at h3
              rw [htk] at h3
              rw [HFP.out, h3]
              simp only [fitO, HF1.out, HF2.out, decide_eq_true h2, Bool.and_true, Bool.true_and]
            have HX := Lib.hid hx
            clear hx htk
            go_wp2
            go_ret
            exact HX.out

theorem xterms_any (p : Prd) (d B : Nat) (s : Value) (w : World) (hp : PIn w B p s) (hB : B ≤ w.heap.size) (h1 : 1 ≤ d) (hd : d ≤ 9) :
    Calls Tryz.prog 205 #[p.v s, .int .i64 d] w (RetCnt (sizeP p) (fitP d p) d w) := xterms_n (sizeP p) p (Nat.le_refl _) d B s w hp hB h1 hd

end Go.Proofs.YtffdaohmalmkfaaGreat
