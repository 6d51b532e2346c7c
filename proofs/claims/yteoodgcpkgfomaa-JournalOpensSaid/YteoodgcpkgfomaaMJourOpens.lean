/-
  JournalOpens: the walk of the law.
-/
import Derived.Test.YteoodgcpkgfomaaM14
import Derived.Deep.CutBlock
import Derived.Deep.RegionHeld3
namespace Go.Proofs.Yteoodgcpkgfomaa
open Go.RowKit
set_option linter.unusedVariables false

theorem read_le_any {w : World} {base B : Nat} {fs : List File} {a : Ab} (h : Is w base B fs a) (hr : a.room ≤ 4000) (f : Int) : (a.read f).1.length ≤ 4000 := by
  unfold Ab.read
  split
  · simp
  · rename_i hc
    obtain ⟨h1, h2, h3⟩ := check_range hc
    obtain ⟨g, hg, e⟩ := h.file (i := f.toNat) (by omega)
    have h4 := used_le (List.mem_of_getElem? hg)
    have h5 := h.1.fits
    show (a.file f.toNat).1.length ≤ 4000
    rw [e]
    show g.l.length ≤ 4000
    omega

set_option maxRecDepth 100000 in
set_option maxHeartbeats 8000000 in
theorem opens_walk (u : Value) (l : List UInt8) (file : Int) (off : Bool) (w : World) (hb : Bs w u l ∧ l.length ≤ maxLen) :
    Calls Try.prog 6 #[u, .int .i64 file, .bool off] w (RetNew (.bool true) w) := by
  have HB := Lib.hid hb.1
  have hll := hb.2
  obtain ⟨Au, cu, rfl, hcu, -⟩ := hb.1
  have hmin : (if (3000 : Int) < (l.length : Int) then (3000 : Int) else (l.length : Int)) = ((min l.length 3000 : Nat) : Int) := min_natw l.length 3000
  have q1 : min l.length 3000 ≤ l.length := Nat.min_le_left _ _
  have q1' : min l.length 3000 ≤ 3000 := Nat.min_le_right _ _
  have hcut := Bs.cut HB.out q1
  have HML : Hid ((l.take (min l.length 3000)).length = min l.length 3000) := Lib.hid (by rw [List.length_take]; omega)
  have HC := Lib.hid hcut
  generalize l.take (min l.length 3000) = M at HC HML
  generalize min l.length 3000 = m1 at hmin q1 q1' HC HML
  obtain rfl := HML.out
  clear HML
  have q3 : M.length ≤ cu := by omega
  have q4 : (M.length : Int) ≤ (cu : Int) := by omega
  have q5 : (0 : Int) ≤ (M.length : Int) := by omega
  have n60 : l.length ≤ 9223372036854775807 := by simp only [maxLen] at hll; omega
  clear hb hcut hll
  go_enter Try.func6, Try.ntmps6
  go_wp2_with fail
  refine (new_ok 4000 _ (by omega) (by omega)).mono ?_
  rintro e w1 ⟨rfl, hw1⟩
  have hk1 : Kept Kno w w1 := by rw [hw1]; exact (Kept.refl _ _).alloc _
  have hn1 : Is w1 w.heap.size w.heap.size (List.replicate 8 noFile) (ab0 4000) := by rw [hw1]; exact is_new w _ 4000 (Nat.le_refl _) (by omega) (by omega)
  have HN1 := Lib.hid hn1
  have HK1 := Lib.hid hk1
  clear hw1 hn1 hk1
  go_wp2_with fail
  refine (knew_any 4000 _ (by omega) (by omega)).mono ?_
  rintro e w2 ⟨rfl, hw2⟩
  have hk2 : Kept Kno w1 w2 := by rw [hw2]; exact (Kept.refl _ _).alloc _
  have hr2 : RIs w2 w.heap.size w1.heap.size (List.replicate 8 (Value.slice none 0 0)) (ab0 4000) := by rw [hw2]; exact kris_new w1 _ 4000 HK1.out.size (by omega) (by omega)
  have HN2 := Lib.hid (HN1.out.kept0 hk2)
  have HR2 := Lib.hid hr2
  have HSD : Hid (Sides w w2 (DK w.heap.size (List.replicate 8 noFile)) (RK w1.heap.size (List.replicate 8 (Value.slice none 0 0)))) := Lib.hid (by
    refine ⟨fun k e e' => ?_, fun k e => HN2.out.low e, fun k e => ris_low HR2.out e, HK1.out.then0 hk2⟩
    have h1 := (HN1.out.low e).2
    rcases e' with rfl | ⟨v, hv, e2⟩
    · omega
    · rw [List.eq_of_mem_replicate hv] at e2
      cases e2)
  have HM2 := Lib.hid (Rd.kept0 HC.out (HK1.out.then0 hk2))
  have HMC := Lib.hid HC.out
  generalize w1.heap.size = BR at HR2 HSD ⊢
  clear hw2 hr2 hk2 HN1 HC HB
  by_cases hfl : 0 ≤ file ∧ file < 8
  · have f0 : 0 ≤ file := hfl.1
    have f1 : file < 8 := hfl.2
    obtain ⟨F, hF⟩ : ∃ F : Nat, file = F := ⟨file.toNat, by omega⟩
    have hF8 : F < 8 := by omega
    subst hF
    clear hfl
    go_wp2_with fail
    have e1 : (ab0 4000).replace (F : Nat) M = ((ab0 4000).put F (M, M.length), 0) := (calm0 4000).replace (f := F) (by omega) M (by rw [used0]; show ((0 : Nat) : Int) + (M.length : Int) ≤ 4000; omega)
    have hrp := replace_any (F : Nat) _ M HN2.out HM2.out
    rw [e1] at hrp
    refine hrp.mono ?_
    rintro e w3 ⟨rfl, ht⟩
    obtain ⟨fs3, hi3, hk3, hd3⟩ := ht.is
    have HSD3 := Lib.hid (HSD.out.move hk3 (fun _ h => h) hd3 (fun k e => (hi3.low e).2))
    have HI3 := Lib.hid hi3
    have HR3 := Lib.hid (ris_far HR2.out hk3 (fun k e => HSD.out.ap k e))
    have HM3 := Lib.hid (Rd.kept0 HMC.out HSD3.out.k)
    clear ht hi3 hk3 hd3 hrp HSD HN2 HR2 HM2
    go_wp2_with fail
    have hrp := rreplace_any (F : Nat) _ M HR3.out HM3.out (by omega)
    rw [e1] at hrp
    refine hrp.mono ?_
    rintro e w4 ⟨rfl, ⟨vs4, hr4, hf4⟩, hk4⟩
    have HSD4 := Lib.hid (HSD3.out.swap.move (P' := RK BR vs4) hk4 (fun k e => .inl e) (rk_from hf4) (fun k e => (ris_low hr4 e).2)).swap
    have HI4 := Lib.hid (is_far HI3.out hk4 (fun k e h => HSD3.out.ap k h (.inl e)))
    have HR4 := Lib.hid hr4
    have HRM : Hid (((ab0 4000).put F (M, M.length)).room ≤ 4000) := Lib.hid (Int.le_refl _)
    clear hr4 hf4 hk4 hrp e1 HSD3 HI3 HR3 HM3
    simp only at HI4 HR4
    generalize (ab0 4000).put F (M, M.length) = a4 at HI4 HR4 HRM
    cases off with
    | true =>
      go_wp2_with fail
      refine (fail_any 1 (by omega) HI4.out).mono ?_
      rintro e w5 ⟨rfl, ht⟩
      obtain ⟨fs5, hi5, hk5, hd5⟩ := ht.is
      have HSD5 := Lib.hid (HSD4.out.move hk5 (fun _ h => h) hd5 (fun k e => (hi5.low e).2))
      have HI5 := Lib.hid hi5
      have HR5 := Lib.hid (ris_far HR4.out hk5 (fun k e => HSD4.out.ap k e))
      clear ht hi5 hk5 hd5 HSD4 HI4 HR4
      go_wp2_with fail
      refine (rfail_any 1 HR5.out (by omega)).mono ?_
      rintro e wz ⟨rfl, ⟨vsz, hr6, hf6⟩, hk6⟩
      have HSZ := Lib.hid (HSD5.out.swap.move (P' := RK BR vsz) hk6 (fun k e => .inl e) (rk_from hf6) (fun k e => (ris_low hr6 e).2)).swap
      have HIZ := Lib.hid (is_far HI5.out hk6 (fun k e h => HSD5.out.ap k h (.inl e)))
      have HRZ := Lib.hid hr6
      have HRM2 : Hid ((a4.fail 1).room ≤ 4000) := Lib.hid (by have h9 := HRM.out; unfold Ab.fail; split <;> exact h9)
      clear hr6 hf6 hk6 HSD5 HI5 HR5 HRM
      have HRM := HRM2
      clear HRM2
      generalize a4.fail 1 = az at HIZ HRZ HRM
      obtain ⟨fsz, rfl⟩ : ∃ f : List File, f = fs5 := ⟨_, rfl⟩
      go_wp2_with fail
      have hop := open_any w.heap.size w.heap.size (F : Nat) fsz az wz HIZ.out (by have := read_le_any HIZ.out HRM.out (F : Nat); omega)
      obtain ⟨⟨a7, c7, o7⟩, hr⟩ : ∃ r, r = jopen az (F : Nat) := ⟨_, rfl⟩
      rw [← hr] at hop
      have HJO := Lib.hid hr
      clear hr
      refine hop.mono ?_
      rintro e w7 ⟨fs7, hi7, hk7, hd7, hov⟩
      simp only at hi7 hov
      have HR7 := Lib.hid (ris_far HRZ.out hk7 (fun k e => HSZ.out.ap k e))
      have hs7 := hk7.size
      clear hop
      cases o7 with
      | none =>
        have he : e = .returned (.tuple #[.pointer none, .int .i64 c7]) := hov
        subst he
        have HS7 := Lib.hid (HSZ.out.move hk7 (fun _ h => h) hd7 (fun k e => (hi7.low e).2))
        have HI7 := Lib.hid hi7
        clear hi7 hk7 hd7 hov
        go_wp2_with fail
        have hko := kopen_any w.heap.size BR (F : Nat) vsz az w7 HR7.out (by have := read_le_any HIZ.out HRM.out (F : Nat); omega)
        rw [← HJO.out] at hko
        refine hko.mono ?_
        rintro e w8 ⟨vs8, hr8, hk8, hd8, hkv⟩
        have he : e = .returned (.tuple #[.pointer none, .int .i64 c7]) := hkv
        subst he
        have HI9 := Lib.hid (is_far HI7.out hk8 (fun k e h => HS7.out.ap k h (.inl e)))
        have HR9 := Lib.hid hr8
        have HK9 := Lib.hid (HS7.out.swap.move (P' := RK BR vs8) hk8 (fun k e => .inl e) hd8 (fun k e => (ris_low hr8 e).2)).k
        clear hr8 hk8 hd8 hkv hko
        go_wp2_with fail
        go_cut [100] (fun b wx => b = .bool false ∧ Kept Kno w8 wx)
        case first =>
          go_quiet (fail)
          go_wp2_with fail
          go_meet
          exact ⟨by simp, Kept.drewN (Kept.refl _ _) _⟩
        case rest =>
          obtain ⟨rfl, hkc⟩ := hcut
          have HI9' := Lib.hid (HI9.out.kept0 hkc)
          have HR9' := Lib.hid (HR9.out.kept0 hkc)
          have HK9' := Lib.hid (HK9.out.then0 hkc)
          clear HI9 HR9 HK9 hkc
          have HI9 := HI9'
          have HR9 := HR9'
          have HK9 := HK9'
          clear HI9' HR9' HK9'
          go_wp2_with fail
          refine (read_any (F : Nat) HI9.out).mono ?_
          rintro e w10 ⟨A10, cap10, rfl, hown10, hk10⟩
          have HB10 := Lib.hid (OwnB.bs hown10)
          have HR10 := Lib.hid (HR9.out.kept0 hk10)
          clear hown10
          generalize hRD : a7.read (F : Nat) = rd at HB10
          obtain ⟨p, z⟩ := rd
          have HRD := Lib.hid hRD
          clear hRD
          simp only at HB10 ⊢
          go_wp2_with fail
          have hrr := rread_any (F : Nat) HR10.out
          rw [HRD.out] at hrr
          refine hrr.mono ?_
          rintro e w11 ⟨A11, cap11, rfl, hown11, hk11⟩
          have HB11 := Lib.hid (OwnB.bs hown11)
          have HB10b := Lib.hid (Rd.kept0 HB10.out hk11)
          clear hown11 hrr
          go_wp2_with fail
          refine (equal_any _ _ p p w11 HB10b.out HB11.out).mono ?_
          rw [decide_eq_true (Eq.refl p)]
          rintro e w12 ⟨rfl, rfl⟩
          go_wp2_with fail
          refine (begun_j _).mono ?_
          rintro e w13 ⟨rfl, hk13⟩
          go_wp2
          go_ret
          exact ⟨rfl, ((HK9.out.then0 hk10).then0 hk11).then0 hk13⟩
      | some rs =>
        obtain ⟨J, rv, ev, us, he, hj, ha⟩ := hov
        subst he
        have HS7 : Hid (Sides w w7 (fun k => JOwn J rv ev us k ∨ DK w.heap.size fs7 k) (RK BR vsz)) := Lib.hid (HSZ.out.move hk7 (fun _ h => h) (fun k e => by
          rcases e with e | e
          · exact .inr (hj.own_low e).1
          · exact hd7 k e) (fun k e => by
          rcases e with e | e
          · exact (hj.own_low e).2
          · exact (hi7.low e).2))
        have HI7 := Lib.hid hi7
        have HJ7 := Lib.hid hj
        clear hi7 hk7 hd7 hj ha
        go_wp2_with fail
        have hko := kopen_any w.heap.size BR (F : Nat) vsz az w7 HR7.out (by have := read_le_any HIZ.out HRM.out (F : Nat); omega)
        rw [← HJO.out] at hko
        refine hko.mono ?_
        rintro e w8 ⟨vs8, hr8, hk8, hd8, K, rv8, us8, he, hj8, ha8⟩
        simp only at he
        subst he
        have HI9 := Lib.hid (is_far HI7.out hk8 (fun k e h => HS7.out.ap k (.inr h) (.inl e)))
        have HJ9 := Lib.hid (HJ7.out.kept hk8 (fun k h e => HS7.out.ap k (.inl h) (.inl e)))
        have HR9 := Lib.hid hr8
        have HK9 := Lib.hid (HS7.out.swap.move (P' := RK BR vs8) hk8 (fun k e => .inl e) hd8 (fun k e => (ris_low hr8 e).2)).k
        have HJK := Lib.hid hj8
        have c2 := hj8.c_recs
        have hcn := hj8.rl
        obtain ⟨Ak, ck, hrk⟩ := own_form hj8.rr.row
        have HLK : Hid (LsR w8 (.slice Ak rs.length ck) us8 rs) := Lib.hid (by rw [← hrk]; exact hj8.rr.r)
        rw [hrk] at c2
        clear hr8 hk8 hd8 hj8 ha8 hko hrk
        go_wp2_with fail
        go_cut [100] (fun b wx => b = .bool false ∧ Kept Kno w8 wx)
        case first =>
          go_region_held3 (fun w' => w'.cell? ⟨K, 2, none⟩ = some (.slice Ak rs.length ck)) (first | go_keep | exact z1 | exact z2)
            (first
            | (go_at_call 29
               refine (records_any (HJ9.out.kept0 (Kept.drew (Kept.refl Kno w8)))).mono ?_
               rintro e w9 ⟨A9, cap9, vs9, rfl, hls9, hk9⟩
               have HL9 := Lib.hid hls9.r
               have z1 := hk9.cell_some c2 (fun h => h)
               have HK98 := Lib.hid ((Kept.drew (Kept.refl Kno w8)).then0 hk9)
               clear hls9 hk9)
            | (go_at_call 30
               refine (same_j _ _ vs9 _ rs rs _ HL9.out (HLK.out.kept0 HK98.out) (by omega) (by omega)).mono ?_
               rw [decide_eq_true (Eq.refl rs)]
               rintro e w10 ⟨rfl, hk10⟩
               have z2 := hk10.cell_some z1 (fun h => h)))
          all_goals
            go_wp2_with fail
            go_meet
            exact ⟨by simp, HK98.out.then0 hk10⟩
        case rest =>
          obtain ⟨rfl, hkc⟩ := hcut
          have HI9' := Lib.hid (HI9.out.kept0 hkc)
          have HR9' := Lib.hid (HR9.out.kept0 hkc)
          have HK9' := Lib.hid (HK9.out.then0 hkc)
          clear HI9 HR9 HK9 hkc c2
          have HI9 := HI9'
          have HR9 := HR9'
          have HK9 := HK9'
          clear HI9' HR9' HK9'
          go_wp2_with fail
          refine (read_any (F : Nat) HI9.out).mono ?_
          rintro e w10 ⟨A10, cap10, rfl, hown10, hk10⟩
          have HB10 := Lib.hid (OwnB.bs hown10)
          have HR10 := Lib.hid (HR9.out.kept0 hk10)
          clear hown10
          generalize hRD : a7.read (F : Nat) = rd at HB10
          obtain ⟨p, z⟩ := rd
          have HRD := Lib.hid hRD
          clear hRD
          simp only at HB10 ⊢
          go_wp2_with fail
          have hrr := rread_any (F : Nat) HR10.out
          rw [HRD.out] at hrr
          refine hrr.mono ?_
          rintro e w11 ⟨A11, cap11, rfl, hown11, hk11⟩
          have HB11 := Lib.hid (OwnB.bs hown11)
          have HB10b := Lib.hid (Rd.kept0 HB10.out hk11)
          clear hown11 hrr
          go_wp2_with fail
          refine (equal_any _ _ p p w11 HB10b.out HB11.out).mono ?_
          rw [decide_eq_true (Eq.refl p)]
          rintro e w12 ⟨rfl, rfl⟩
          go_wp2_with fail
          refine (begun_j _).mono ?_
          rintro e w13 ⟨rfl, hk13⟩
          go_wp2
          go_ret
          exact ⟨rfl, ((HK9.out.then0 hk10).then0 hk11).then0 hk13⟩
    | false =>
      have HSZ := HSD4
      have HIZ := HI4
      have HRZ := HR4
      obtain ⟨az, rfl⟩ : ∃ a : Ab, a = a4 := ⟨_, rfl⟩
      obtain ⟨fsz, rfl⟩ : ∃ f : List File, f = fs3 := ⟨_, rfl⟩
      obtain ⟨vsz, rfl⟩ : ∃ f : List Value, f = vs4 := ⟨_, rfl⟩
      obtain ⟨wz, rfl⟩ : ∃ f : World, f = w4 := ⟨_, rfl⟩
      clear HSD4 HI4 HR4
      go_wp2_with fail
      have hop := open_any w.heap.size w.heap.size (F : Nat) fsz az wz HIZ.out (by have := read_le_any HIZ.out HRM.out (F : Nat); omega)
      obtain ⟨⟨a7, c7, o7⟩, hr⟩ : ∃ r, r = jopen az (F : Nat) := ⟨_, rfl⟩
      rw [← hr] at hop
      have HJO := Lib.hid hr
      clear hr
      refine hop.mono ?_
      rintro e w7 ⟨fs7, hi7, hk7, hd7, hov⟩
      simp only at hi7 hov
      have HR7 := Lib.hid (ris_far HRZ.out hk7 (fun k e => HSZ.out.ap k e))
      have hs7 := hk7.size
      clear hop
      cases o7 with
      | none =>
        have he : e = .returned (.tuple #[.pointer none, .int .i64 c7]) := hov
        subst he
        have HS7 := Lib.hid (HSZ.out.move hk7 (fun _ h => h) hd7 (fun k e => (hi7.low e).2))
        have HI7 := Lib.hid hi7
        clear hi7 hk7 hd7 hov
        go_wp2_with fail
        have hko := kopen_any w.heap.size BR (F : Nat) vsz az w7 HR7.out (by have := read_le_any HIZ.out HRM.out (F : Nat); omega)
        rw [← HJO.out] at hko
        refine hko.mono ?_
        rintro e w8 ⟨vs8, hr8, hk8, hd8, hkv⟩
        have he : e = .returned (.tuple #[.pointer none, .int .i64 c7]) := hkv
        subst he
        have HI9 := Lib.hid (is_far HI7.out hk8 (fun k e h => HS7.out.ap k h (.inl e)))
        have HR9 := Lib.hid hr8
        have HK9 := Lib.hid (HS7.out.swap.move (P' := RK BR vs8) hk8 (fun k e => .inl e) hd8 (fun k e => (ris_low hr8 e).2)).k
        clear hr8 hk8 hd8 hkv hko
        go_wp2_with fail
        go_cut [100] (fun b wx => b = .bool false ∧ Kept Kno w8 wx)
        case first =>
          go_quiet (fail)
          go_wp2_with fail
          go_meet
          exact ⟨by simp, Kept.drewN (Kept.refl _ _) _⟩
        case rest =>
          obtain ⟨rfl, hkc⟩ := hcut
          have HI9' := Lib.hid (HI9.out.kept0 hkc)
          have HR9' := Lib.hid (HR9.out.kept0 hkc)
          have HK9' := Lib.hid (HK9.out.then0 hkc)
          clear HI9 HR9 HK9 hkc
          have HI9 := HI9'
          have HR9 := HR9'
          have HK9 := HK9'
          clear HI9' HR9' HK9'
          go_wp2_with fail
          refine (read_any (F : Nat) HI9.out).mono ?_
          rintro e w10 ⟨A10, cap10, rfl, hown10, hk10⟩
          have HB10 := Lib.hid (OwnB.bs hown10)
          have HR10 := Lib.hid (HR9.out.kept0 hk10)
          clear hown10
          generalize hRD : a7.read (F : Nat) = rd at HB10
          obtain ⟨p, z⟩ := rd
          have HRD := Lib.hid hRD
          clear hRD
          simp only at HB10 ⊢
          go_wp2_with fail
          have hrr := rread_any (F : Nat) HR10.out
          rw [HRD.out] at hrr
          refine hrr.mono ?_
          rintro e w11 ⟨A11, cap11, rfl, hown11, hk11⟩
          have HB11 := Lib.hid (OwnB.bs hown11)
          have HB10b := Lib.hid (Rd.kept0 HB10.out hk11)
          clear hown11 hrr
          go_wp2_with fail
          refine (equal_any _ _ p p w11 HB10b.out HB11.out).mono ?_
          rw [decide_eq_true (Eq.refl p)]
          rintro e w12 ⟨rfl, rfl⟩
          go_wp2_with fail
          refine (begun_j _).mono ?_
          rintro e w13 ⟨rfl, hk13⟩
          go_wp2
          go_ret
          exact ⟨rfl, ((HK9.out.then0 hk10).then0 hk11).then0 hk13⟩
      | some rs =>
        obtain ⟨J, rv, ev, us, he, hj, ha⟩ := hov
        subst he
        have HS7 : Hid (Sides w w7 (fun k => JOwn J rv ev us k ∨ DK w.heap.size fs7 k) (RK BR vsz)) := Lib.hid (HSZ.out.move hk7 (fun _ h => h) (fun k e => by
          rcases e with e | e
          · exact .inr (hj.own_low e).1
          · exact hd7 k e) (fun k e => by
          rcases e with e | e
          · exact (hj.own_low e).2
          · exact (hi7.low e).2))
        have HI7 := Lib.hid hi7
        have HJ7 := Lib.hid hj
        clear hi7 hk7 hd7 hj ha
        go_wp2_with fail
        have hko := kopen_any w.heap.size BR (F : Nat) vsz az w7 HR7.out (by have := read_le_any HIZ.out HRM.out (F : Nat); omega)
        rw [← HJO.out] at hko
        refine hko.mono ?_
        rintro e w8 ⟨vs8, hr8, hk8, hd8, K, rv8, us8, he, hj8, ha8⟩
        simp only at he
        subst he
        have HI9 := Lib.hid (is_far HI7.out hk8 (fun k e h => HS7.out.ap k (.inr h) (.inl e)))
        have HJ9 := Lib.hid (HJ7.out.kept hk8 (fun k h e => HS7.out.ap k (.inl h) (.inl e)))
        have HR9 := Lib.hid hr8
        have HK9 := Lib.hid (HS7.out.swap.move (P' := RK BR vs8) hk8 (fun k e => .inl e) hd8 (fun k e => (ris_low hr8 e).2)).k
        have HJK := Lib.hid hj8
        have c2 := hj8.c_recs
        have hcn := hj8.rl
        obtain ⟨Ak, ck, hrk⟩ := own_form hj8.rr.row
        have HLK : Hid (LsR w8 (.slice Ak rs.length ck) us8 rs) := Lib.hid (by rw [← hrk]; exact hj8.rr.r)
        rw [hrk] at c2
        clear hr8 hk8 hd8 hj8 ha8 hko hrk
        go_wp2_with fail
        go_cut [100] (fun b wx => b = .bool false ∧ Kept Kno w8 wx)
        case first =>
          go_region_held3 (fun w' => w'.cell? ⟨K, 2, none⟩ = some (.slice Ak rs.length ck)) (first | go_keep | exact z1 | exact z2)
            (first
            | (go_at_call 29
               refine (records_any (HJ9.out.kept0 (Kept.drew (Kept.refl Kno w8)))).mono ?_
               rintro e w9 ⟨A9, cap9, vs9, rfl, hls9, hk9⟩
               have HL9 := Lib.hid hls9.r
               have z1 := hk9.cell_some c2 (fun h => h)
               have HK98 := Lib.hid ((Kept.drew (Kept.refl Kno w8)).then0 hk9)
               clear hls9 hk9)
            | (go_at_call 30
               refine (same_j _ _ vs9 _ rs rs _ HL9.out (HLK.out.kept0 HK98.out) (by omega) (by omega)).mono ?_
               rw [decide_eq_true (Eq.refl rs)]
               rintro e w10 ⟨rfl, hk10⟩
               have z2 := hk10.cell_some z1 (fun h => h)))
          all_goals
            go_wp2_with fail
            go_meet
            exact ⟨by simp, HK98.out.then0 hk10⟩
        case rest =>
          obtain ⟨rfl, hkc⟩ := hcut
          have HI9' := Lib.hid (HI9.out.kept0 hkc)
          have HR9' := Lib.hid (HR9.out.kept0 hkc)
          have HK9' := Lib.hid (HK9.out.then0 hkc)
          clear HI9 HR9 HK9 hkc c2
          have HI9 := HI9'
          have HR9 := HR9'
          have HK9 := HK9'
          clear HI9' HR9' HK9'
          go_wp2_with fail
          refine (read_any (F : Nat) HI9.out).mono ?_
          rintro e w10 ⟨A10, cap10, rfl, hown10, hk10⟩
          have HB10 := Lib.hid (OwnB.bs hown10)
          have HR10 := Lib.hid (HR9.out.kept0 hk10)
          clear hown10
          generalize hRD : a7.read (F : Nat) = rd at HB10
          obtain ⟨p, z⟩ := rd
          have HRD := Lib.hid hRD
          clear hRD
          simp only at HB10 ⊢
          go_wp2_with fail
          have hrr := rread_any (F : Nat) HR10.out
          rw [HRD.out] at hrr
          refine hrr.mono ?_
          rintro e w11 ⟨A11, cap11, rfl, hown11, hk11⟩
          have HB11 := Lib.hid (OwnB.bs hown11)
          have HB10b := Lib.hid (Rd.kept0 HB10.out hk11)
          clear hown11 hrr
          go_wp2_with fail
          refine (equal_any _ _ p p w11 HB10b.out HB11.out).mono ?_
          rw [decide_eq_true (Eq.refl p)]
          rintro e w12 ⟨rfl, rfl⟩
          go_wp2_with fail
          refine (begun_j _).mono ?_
          rintro e w13 ⟨rfl, hk13⟩
          go_wp2
          go_ret
          exact ⟨rfl, ((HK9.out.then0 hk10).then0 hk11).then0 hk13⟩
  · rcases (show ¬ 0 ≤ file ∨ (0 ≤ file ∧ ¬ file < 8) by omega) with h0 | ⟨h0, h8⟩
    · clear hfl
      go_wp2_with fail
      have e1 : (ab0 4000).replace 0 M = ((ab0 4000).put 0 (M, M.length), 0) := (calm0 4000).replace (f := 0) (by omega) M (by rw [used0]; show ((0 : Nat) : Int) + (M.length : Int) ≤ 4000; omega)
      have hrp := replace_any 0 _ M HN2.out HM2.out
      rw [e1] at hrp
      refine hrp.mono ?_
      rintro e w3 ⟨rfl, ht⟩
      obtain ⟨fs3, hi3, hk3, hd3⟩ := ht.is
      have HSD3 := Lib.hid (HSD.out.move hk3 (fun _ h => h) hd3 (fun k e => (hi3.low e).2))
      have HI3 := Lib.hid hi3
      have HR3 := Lib.hid (ris_far HR2.out hk3 (fun k e => HSD.out.ap k e))
      have HM3 := Lib.hid (Rd.kept0 HMC.out HSD3.out.k)
      clear ht hi3 hk3 hd3 hrp HSD HN2 HR2 HM2
      go_wp2_with fail
      have hrp := rreplace_any 0 _ M HR3.out HM3.out (by omega)
      rw [e1] at hrp
      refine hrp.mono ?_
      rintro e w4 ⟨rfl, ⟨vs4, hr4, hf4⟩, hk4⟩
      have HSD4 := Lib.hid (HSD3.out.swap.move (P' := RK BR vs4) hk4 (fun k e => .inl e) (rk_from hf4) (fun k e => (ris_low hr4 e).2)).swap
      have HI4 := Lib.hid (is_far HI3.out hk4 (fun k e h => HSD3.out.ap k h (.inl e)))
      have HR4 := Lib.hid hr4
      have HRM : Hid (((ab0 4000).put 0 (M, M.length)).room ≤ 4000) := Lib.hid (Int.le_refl _)
      clear hr4 hf4 hk4 hrp e1 HSD3 HI3 HR3 HM3
      simp only at HI4 HR4
      generalize (ab0 4000).put 0 (M, M.length) = a4 at HI4 HR4 HRM
      cases off with
      | true =>
        go_wp2_with fail
        refine (fail_any 1 (by omega) HI4.out).mono ?_
        rintro e w5 ⟨rfl, ht⟩
        obtain ⟨fs5, hi5, hk5, hd5⟩ := ht.is
        have HSD5 := Lib.hid (HSD4.out.move hk5 (fun _ h => h) hd5 (fun k e => (hi5.low e).2))
        have HI5 := Lib.hid hi5
        have HR5 := Lib.hid (ris_far HR4.out hk5 (fun k e => HSD4.out.ap k e))
        clear ht hi5 hk5 hd5 HSD4 HI4 HR4
        go_wp2_with fail
        refine (rfail_any 1 HR5.out (by omega)).mono ?_
        rintro e wz ⟨rfl, ⟨vsz, hr6, hf6⟩, hk6⟩
        have HSZ := Lib.hid (HSD5.out.swap.move (P' := RK BR vsz) hk6 (fun k e => .inl e) (rk_from hf6) (fun k e => (ris_low hr6 e).2)).swap
        have HIZ := Lib.hid (is_far HI5.out hk6 (fun k e h => HSD5.out.ap k h (.inl e)))
        have HRZ := Lib.hid hr6
        have HRM2 : Hid ((a4.fail 1).room ≤ 4000) := Lib.hid (by have h9 := HRM.out; unfold Ab.fail; split <;> exact h9)
        clear hr6 hf6 hk6 HSD5 HI5 HR5 HRM
        have HRM := HRM2
        clear HRM2
        generalize a4.fail 1 = az at HIZ HRZ HRM
        obtain ⟨fsz, rfl⟩ : ∃ f : List File, f = fs5 := ⟨_, rfl⟩
        go_wp2_with fail
        have hop := open_any w.heap.size w.heap.size file fsz az wz HIZ.out (by have := read_le_any HIZ.out HRM.out file; omega)
        obtain ⟨⟨a7, c7, o7⟩, hr⟩ : ∃ r, r = jopen az file := ⟨_, rfl⟩
        rw [← hr] at hop
        have HJO := Lib.hid hr
        clear hr
        refine hop.mono ?_
        rintro e w7 ⟨fs7, hi7, hk7, hd7, hov⟩
        simp only at hi7 hov
        have HR7 := Lib.hid (ris_far HRZ.out hk7 (fun k e => HSZ.out.ap k e))
        have hs7 := hk7.size
        clear hop
        cases o7 with
        | none =>
          have he : e = .returned (.tuple #[.pointer none, .int .i64 c7]) := hov
          subst he
          have HS7 := Lib.hid (HSZ.out.move hk7 (fun _ h => h) hd7 (fun k e => (hi7.low e).2))
          have HI7 := Lib.hid hi7
          clear hi7 hk7 hd7 hov
          go_wp2_with fail
          have hko := kopen_any w.heap.size BR file vsz az w7 HR7.out (by have := read_le_any HIZ.out HRM.out file; omega)
          rw [← HJO.out] at hko
          refine hko.mono ?_
          rintro e w8 ⟨vs8, hr8, hk8, hd8, hkv⟩
          have he : e = .returned (.tuple #[.pointer none, .int .i64 c7]) := hkv
          subst he
          have HI9 := Lib.hid (is_far HI7.out hk8 (fun k e h => HS7.out.ap k h (.inl e)))
          have HR9 := Lib.hid hr8
          have HK9 := Lib.hid (HS7.out.swap.move (P' := RK BR vs8) hk8 (fun k e => .inl e) hd8 (fun k e => (ris_low hr8 e).2)).k
          clear hr8 hk8 hd8 hkv hko
          go_wp2_with fail
          go_cut [100] (fun b wx => b = .bool false ∧ Kept Kno w8 wx)
          case first =>
            go_quiet (fail)
            go_wp2_with fail
            go_meet
            exact ⟨by simp, Kept.drewN (Kept.refl _ _) _⟩
          case rest =>
            obtain ⟨rfl, hkc⟩ := hcut
            have HI9' := Lib.hid (HI9.out.kept0 hkc)
            have HR9' := Lib.hid (HR9.out.kept0 hkc)
            have HK9' := Lib.hid (HK9.out.then0 hkc)
            clear HI9 HR9 HK9 hkc
            have HI9 := HI9'
            have HR9 := HR9'
            have HK9 := HK9'
            clear HI9' HR9' HK9'
            go_wp2_with fail
            refine (read_any 0 HI9.out).mono ?_
            rintro e w10 ⟨A10, cap10, rfl, hown10, hk10⟩
            have HB10 := Lib.hid (OwnB.bs hown10)
            have HR10 := Lib.hid (HR9.out.kept0 hk10)
            clear hown10
            generalize hRD : a7.read 0 = rd at HB10
            obtain ⟨p, z⟩ := rd
            have HRD := Lib.hid hRD
            clear hRD
            simp only at HB10 ⊢
            go_wp2_with fail
            have hrr := rread_any 0 HR10.out
            rw [HRD.out] at hrr
            refine hrr.mono ?_
            rintro e w11 ⟨A11, cap11, rfl, hown11, hk11⟩
            have HB11 := Lib.hid (OwnB.bs hown11)
            have HB10b := Lib.hid (Rd.kept0 HB10.out hk11)
            clear hown11 hrr
            go_wp2_with fail
            refine (equal_any _ _ p p w11 HB10b.out HB11.out).mono ?_
            rw [decide_eq_true (Eq.refl p)]
            rintro e w12 ⟨rfl, rfl⟩
            go_wp2_with fail
            refine (begun_j _).mono ?_
            rintro e w13 ⟨rfl, hk13⟩
            go_wp2
            go_ret
            exact ⟨rfl, ((HK9.out.then0 hk10).then0 hk11).then0 hk13⟩
        | some rs =>
          obtain ⟨J, rv, ev, us, he, hj, ha⟩ := hov
          subst he
          have HS7 : Hid (Sides w w7 (fun k => JOwn J rv ev us k ∨ DK w.heap.size fs7 k) (RK BR vsz)) := Lib.hid (HSZ.out.move hk7 (fun _ h => h) (fun k e => by
            rcases e with e | e
            · exact .inr (hj.own_low e).1
            · exact hd7 k e) (fun k e => by
            rcases e with e | e
            · exact (hj.own_low e).2
            · exact (hi7.low e).2))
          have HI7 := Lib.hid hi7
          have HJ7 := Lib.hid hj
          clear hi7 hk7 hd7 hj ha
          go_wp2_with fail
          have hko := kopen_any w.heap.size BR file vsz az w7 HR7.out (by have := read_le_any HIZ.out HRM.out file; omega)
          rw [← HJO.out] at hko
          refine hko.mono ?_
          rintro e w8 ⟨vs8, hr8, hk8, hd8, K, rv8, us8, he, hj8, ha8⟩
          simp only at he
          subst he
          have HI9 := Lib.hid (is_far HI7.out hk8 (fun k e h => HS7.out.ap k (.inr h) (.inl e)))
          have HJ9 := Lib.hid (HJ7.out.kept hk8 (fun k h e => HS7.out.ap k (.inl h) (.inl e)))
          have HR9 := Lib.hid hr8
          have HK9 := Lib.hid (HS7.out.swap.move (P' := RK BR vs8) hk8 (fun k e => .inl e) hd8 (fun k e => (ris_low hr8 e).2)).k
          have HJK := Lib.hid hj8
          have c2 := hj8.c_recs
          have hcn := hj8.rl
          obtain ⟨Ak, ck, hrk⟩ := own_form hj8.rr.row
          have HLK : Hid (LsR w8 (.slice Ak rs.length ck) us8 rs) := Lib.hid (by rw [← hrk]; exact hj8.rr.r)
          rw [hrk] at c2
          clear hr8 hk8 hd8 hj8 ha8 hko hrk
          go_wp2_with fail
          go_cut [100] (fun b wx => b = .bool false ∧ Kept Kno w8 wx)
          case first =>
            go_region_held3 (fun w' => w'.cell? ⟨K, 2, none⟩ = some (.slice Ak rs.length ck)) (first | go_keep | exact z1 | exact z2)
              (first
              | (go_at_call 29
                 refine (records_any (HJ9.out.kept0 (Kept.drew (Kept.refl Kno w8)))).mono ?_
                 rintro e w9 ⟨A9, cap9, vs9, rfl, hls9, hk9⟩
                 have HL9 := Lib.hid hls9.r
                 have z1 := hk9.cell_some c2 (fun h => h)
                 have HK98 := Lib.hid ((Kept.drew (Kept.refl Kno w8)).then0 hk9)
                 clear hls9 hk9)
              | (go_at_call 30
                 refine (same_j _ _ vs9 _ rs rs _ HL9.out (HLK.out.kept0 HK98.out) (by omega) (by omega)).mono ?_
                 rw [decide_eq_true (Eq.refl rs)]
                 rintro e w10 ⟨rfl, hk10⟩
                 have z2 := hk10.cell_some z1 (fun h => h)))
            all_goals
              go_wp2_with fail
              go_meet
              exact ⟨by simp, HK98.out.then0 hk10⟩
          case rest =>
            obtain ⟨rfl, hkc⟩ := hcut
            have HI9' := Lib.hid (HI9.out.kept0 hkc)
            have HR9' := Lib.hid (HR9.out.kept0 hkc)
            have HK9' := Lib.hid (HK9.out.then0 hkc)
            clear HI9 HR9 HK9 hkc c2
            have HI9 := HI9'
            have HR9 := HR9'
            have HK9 := HK9'
            clear HI9' HR9' HK9'
            go_wp2_with fail
            refine (read_any 0 HI9.out).mono ?_
            rintro e w10 ⟨A10, cap10, rfl, hown10, hk10⟩
            have HB10 := Lib.hid (OwnB.bs hown10)
            have HR10 := Lib.hid (HR9.out.kept0 hk10)
            clear hown10
            generalize hRD : a7.read 0 = rd at HB10
            obtain ⟨p, z⟩ := rd
            have HRD := Lib.hid hRD
            clear hRD
            simp only at HB10 ⊢
            go_wp2_with fail
            have hrr := rread_any 0 HR10.out
            rw [HRD.out] at hrr
            refine hrr.mono ?_
            rintro e w11 ⟨A11, cap11, rfl, hown11, hk11⟩
            have HB11 := Lib.hid (OwnB.bs hown11)
            have HB10b := Lib.hid (Rd.kept0 HB10.out hk11)
            clear hown11 hrr
            go_wp2_with fail
            refine (equal_any _ _ p p w11 HB10b.out HB11.out).mono ?_
            rw [decide_eq_true (Eq.refl p)]
            rintro e w12 ⟨rfl, rfl⟩
            go_wp2_with fail
            refine (begun_j _).mono ?_
            rintro e w13 ⟨rfl, hk13⟩
            go_wp2
            go_ret
            exact ⟨rfl, ((HK9.out.then0 hk10).then0 hk11).then0 hk13⟩
      | false =>
        have HSZ := HSD4
        have HIZ := HI4
        have HRZ := HR4
        obtain ⟨az, rfl⟩ : ∃ a : Ab, a = a4 := ⟨_, rfl⟩
        obtain ⟨fsz, rfl⟩ : ∃ f : List File, f = fs3 := ⟨_, rfl⟩
        obtain ⟨vsz, rfl⟩ : ∃ f : List Value, f = vs4 := ⟨_, rfl⟩
        obtain ⟨wz, rfl⟩ : ∃ f : World, f = w4 := ⟨_, rfl⟩
        clear HSD4 HI4 HR4
        go_wp2_with fail
        have hop := open_any w.heap.size w.heap.size file fsz az wz HIZ.out (by have := read_le_any HIZ.out HRM.out file; omega)
        obtain ⟨⟨a7, c7, o7⟩, hr⟩ : ∃ r, r = jopen az file := ⟨_, rfl⟩
        rw [← hr] at hop
        have HJO := Lib.hid hr
        clear hr
        refine hop.mono ?_
        rintro e w7 ⟨fs7, hi7, hk7, hd7, hov⟩
        simp only at hi7 hov
        have HR7 := Lib.hid (ris_far HRZ.out hk7 (fun k e => HSZ.out.ap k e))
        have hs7 := hk7.size
        clear hop
        cases o7 with
        | none =>
          have he : e = .returned (.tuple #[.pointer none, .int .i64 c7]) := hov
          subst he
          have HS7 := Lib.hid (HSZ.out.move hk7 (fun _ h => h) hd7 (fun k e => (hi7.low e).2))
          have HI7 := Lib.hid hi7
          clear hi7 hk7 hd7 hov
          go_wp2_with fail
          have hko := kopen_any w.heap.size BR file vsz az w7 HR7.out (by have := read_le_any HIZ.out HRM.out file; omega)
          rw [← HJO.out] at hko
          refine hko.mono ?_
          rintro e w8 ⟨vs8, hr8, hk8, hd8, hkv⟩
          have he : e = .returned (.tuple #[.pointer none, .int .i64 c7]) := hkv
          subst he
          have HI9 := Lib.hid (is_far HI7.out hk8 (fun k e h => HS7.out.ap k h (.inl e)))
          have HR9 := Lib.hid hr8
          have HK9 := Lib.hid (HS7.out.swap.move (P' := RK BR vs8) hk8 (fun k e => .inl e) hd8 (fun k e => (ris_low hr8 e).2)).k
          clear hr8 hk8 hd8 hkv hko
          go_wp2_with fail
          go_cut [100] (fun b wx => b = .bool false ∧ Kept Kno w8 wx)
          case first =>
            go_quiet (fail)
            go_wp2_with fail
            go_meet
            exact ⟨by simp, Kept.drewN (Kept.refl _ _) _⟩
          case rest =>
            obtain ⟨rfl, hkc⟩ := hcut
            have HI9' := Lib.hid (HI9.out.kept0 hkc)
            have HR9' := Lib.hid (HR9.out.kept0 hkc)
            have HK9' := Lib.hid (HK9.out.then0 hkc)
            clear HI9 HR9 HK9 hkc
            have HI9 := HI9'
            have HR9 := HR9'
            have HK9 := HK9'
            clear HI9' HR9' HK9'
            go_wp2_with fail
            refine (read_any 0 HI9.out).mono ?_
            rintro e w10 ⟨A10, cap10, rfl, hown10, hk10⟩
            have HB10 := Lib.hid (OwnB.bs hown10)
            have HR10 := Lib.hid (HR9.out.kept0 hk10)
            clear hown10
            generalize hRD : a7.read 0 = rd at HB10
            obtain ⟨p, z⟩ := rd
            have HRD := Lib.hid hRD
            clear hRD
            simp only at HB10 ⊢
            go_wp2_with fail
            have hrr := rread_any 0 HR10.out
            rw [HRD.out] at hrr
            refine hrr.mono ?_
            rintro e w11 ⟨A11, cap11, rfl, hown11, hk11⟩
            have HB11 := Lib.hid (OwnB.bs hown11)
            have HB10b := Lib.hid (Rd.kept0 HB10.out hk11)
            clear hown11 hrr
            go_wp2_with fail
            refine (equal_any _ _ p p w11 HB10b.out HB11.out).mono ?_
            rw [decide_eq_true (Eq.refl p)]
            rintro e w12 ⟨rfl, rfl⟩
            go_wp2_with fail
            refine (begun_j _).mono ?_
            rintro e w13 ⟨rfl, hk13⟩
            go_wp2
            go_ret
            exact ⟨rfl, ((HK9.out.then0 hk10).then0 hk11).then0 hk13⟩
        | some rs =>
          obtain ⟨J, rv, ev, us, he, hj, ha⟩ := hov
          subst he
          have HS7 : Hid (Sides w w7 (fun k => JOwn J rv ev us k ∨ DK w.heap.size fs7 k) (RK BR vsz)) := Lib.hid (HSZ.out.move hk7 (fun _ h => h) (fun k e => by
            rcases e with e | e
            · exact .inr (hj.own_low e).1
            · exact hd7 k e) (fun k e => by
            rcases e with e | e
            · exact (hj.own_low e).2
            · exact (hi7.low e).2))
          have HI7 := Lib.hid hi7
          have HJ7 := Lib.hid hj
          clear hi7 hk7 hd7 hj ha
          go_wp2_with fail
          have hko := kopen_any w.heap.size BR file vsz az w7 HR7.out (by have := read_le_any HIZ.out HRM.out file; omega)
          rw [← HJO.out] at hko
          refine hko.mono ?_
          rintro e w8 ⟨vs8, hr8, hk8, hd8, K, rv8, us8, he, hj8, ha8⟩
          simp only at he
          subst he
          have HI9 := Lib.hid (is_far HI7.out hk8 (fun k e h => HS7.out.ap k (.inr h) (.inl e)))
          have HJ9 := Lib.hid (HJ7.out.kept hk8 (fun k h e => HS7.out.ap k (.inl h) (.inl e)))
          have HR9 := Lib.hid hr8
          have HK9 := Lib.hid (HS7.out.swap.move (P' := RK BR vs8) hk8 (fun k e => .inl e) hd8 (fun k e => (ris_low hr8 e).2)).k
          have HJK := Lib.hid hj8
          have c2 := hj8.c_recs
          have hcn := hj8.rl
          obtain ⟨Ak, ck, hrk⟩ := own_form hj8.rr.row
          have HLK : Hid (LsR w8 (.slice Ak rs.length ck) us8 rs) := Lib.hid (by rw [← hrk]; exact hj8.rr.r)
          rw [hrk] at c2
          clear hr8 hk8 hd8 hj8 ha8 hko hrk
          go_wp2_with fail
          go_cut [100] (fun b wx => b = .bool false ∧ Kept Kno w8 wx)
          case first =>
            go_region_held3 (fun w' => w'.cell? ⟨K, 2, none⟩ = some (.slice Ak rs.length ck)) (first | go_keep | exact z1 | exact z2)
              (first
              | (go_at_call 29
                 refine (records_any (HJ9.out.kept0 (Kept.drew (Kept.refl Kno w8)))).mono ?_
                 rintro e w9 ⟨A9, cap9, vs9, rfl, hls9, hk9⟩
                 have HL9 := Lib.hid hls9.r
                 have z1 := hk9.cell_some c2 (fun h => h)
                 have HK98 := Lib.hid ((Kept.drew (Kept.refl Kno w8)).then0 hk9)
                 clear hls9 hk9)
              | (go_at_call 30
                 refine (same_j _ _ vs9 _ rs rs _ HL9.out (HLK.out.kept0 HK98.out) (by omega) (by omega)).mono ?_
                 rw [decide_eq_true (Eq.refl rs)]
                 rintro e w10 ⟨rfl, hk10⟩
                 have z2 := hk10.cell_some z1 (fun h => h)))
            all_goals
              go_wp2_with fail
              go_meet
              exact ⟨by simp, HK98.out.then0 hk10⟩
          case rest =>
            obtain ⟨rfl, hkc⟩ := hcut
            have HI9' := Lib.hid (HI9.out.kept0 hkc)
            have HR9' := Lib.hid (HR9.out.kept0 hkc)
            have HK9' := Lib.hid (HK9.out.then0 hkc)
            clear HI9 HR9 HK9 hkc c2
            have HI9 := HI9'
            have HR9 := HR9'
            have HK9 := HK9'
            clear HI9' HR9' HK9'
            go_wp2_with fail
            refine (read_any 0 HI9.out).mono ?_
            rintro e w10 ⟨A10, cap10, rfl, hown10, hk10⟩
            have HB10 := Lib.hid (OwnB.bs hown10)
            have HR10 := Lib.hid (HR9.out.kept0 hk10)
            clear hown10
            generalize hRD : a7.read 0 = rd at HB10
            obtain ⟨p, z⟩ := rd
            have HRD := Lib.hid hRD
            clear hRD
            simp only at HB10 ⊢
            go_wp2_with fail
            have hrr := rread_any 0 HR10.out
            rw [HRD.out] at hrr
            refine hrr.mono ?_
            rintro e w11 ⟨A11, cap11, rfl, hown11, hk11⟩
            have HB11 := Lib.hid (OwnB.bs hown11)
            have HB10b := Lib.hid (Rd.kept0 HB10.out hk11)
            clear hown11 hrr
            go_wp2_with fail
            refine (equal_any _ _ p p w11 HB10b.out HB11.out).mono ?_
            rw [decide_eq_true (Eq.refl p)]
            rintro e w12 ⟨rfl, rfl⟩
            go_wp2_with fail
            refine (begun_j _).mono ?_
            rintro e w13 ⟨rfl, hk13⟩
            go_wp2
            go_ret
            exact ⟨rfl, ((HK9.out.then0 hk10).then0 hk11).then0 hk13⟩
    · clear hfl
      go_wp2_with fail
      have e1 : (ab0 4000).replace 0 M = ((ab0 4000).put 0 (M, M.length), 0) := (calm0 4000).replace (f := 0) (by omega) M (by rw [used0]; show ((0 : Nat) : Int) + (M.length : Int) ≤ 4000; omega)
      have hrp := replace_any 0 _ M HN2.out HM2.out
      rw [e1] at hrp
      refine hrp.mono ?_
      rintro e w3 ⟨rfl, ht⟩
      obtain ⟨fs3, hi3, hk3, hd3⟩ := ht.is
      have HSD3 := Lib.hid (HSD.out.move hk3 (fun _ h => h) hd3 (fun k e => (hi3.low e).2))
      have HI3 := Lib.hid hi3
      have HR3 := Lib.hid (ris_far HR2.out hk3 (fun k e => HSD.out.ap k e))
      have HM3 := Lib.hid (Rd.kept0 HMC.out HSD3.out.k)
      clear ht hi3 hk3 hd3 hrp HSD HN2 HR2 HM2
      go_wp2_with fail
      have hrp := rreplace_any 0 _ M HR3.out HM3.out (by omega)
      rw [e1] at hrp
      refine hrp.mono ?_
      rintro e w4 ⟨rfl, ⟨vs4, hr4, hf4⟩, hk4⟩
      have HSD4 := Lib.hid (HSD3.out.swap.move (P' := RK BR vs4) hk4 (fun k e => .inl e) (rk_from hf4) (fun k e => (ris_low hr4 e).2)).swap
      have HI4 := Lib.hid (is_far HI3.out hk4 (fun k e h => HSD3.out.ap k h (.inl e)))
      have HR4 := Lib.hid hr4
      have HRM : Hid (((ab0 4000).put 0 (M, M.length)).room ≤ 4000) := Lib.hid (Int.le_refl _)
      clear hr4 hf4 hk4 hrp e1 HSD3 HI3 HR3 HM3
      simp only at HI4 HR4
      generalize (ab0 4000).put 0 (M, M.length) = a4 at HI4 HR4 HRM
      cases off with
      | true =>
        go_wp2_with fail
        refine (fail_any 1 (by omega) HI4.out).mono ?_
        rintro e w5 ⟨rfl, ht⟩
        obtain ⟨fs5, hi5, hk5, hd5⟩ := ht.is
        have HSD5 := Lib.hid (HSD4.out.move hk5 (fun _ h => h) hd5 (fun k e => (hi5.low e).2))
        have HI5 := Lib.hid hi5
        have HR5 := Lib.hid (ris_far HR4.out hk5 (fun k e => HSD4.out.ap k e))
        clear ht hi5 hk5 hd5 HSD4 HI4 HR4
        go_wp2_with fail
        refine (rfail_any 1 HR5.out (by omega)).mono ?_
        rintro e wz ⟨rfl, ⟨vsz, hr6, hf6⟩, hk6⟩
        have HSZ := Lib.hid (HSD5.out.swap.move (P' := RK BR vsz) hk6 (fun k e => .inl e) (rk_from hf6) (fun k e => (ris_low hr6 e).2)).swap
        have HIZ := Lib.hid (is_far HI5.out hk6 (fun k e h => HSD5.out.ap k h (.inl e)))
        have HRZ := Lib.hid hr6
        have HRM2 : Hid ((a4.fail 1).room ≤ 4000) := Lib.hid (by have h9 := HRM.out; unfold Ab.fail; split <;> exact h9)
        clear hr6 hf6 hk6 HSD5 HI5 HR5 HRM
        have HRM := HRM2
        clear HRM2
        generalize a4.fail 1 = az at HIZ HRZ HRM
        obtain ⟨fsz, rfl⟩ : ∃ f : List File, f = fs5 := ⟨_, rfl⟩
        go_wp2_with fail
        have hop := open_any w.heap.size w.heap.size file fsz az wz HIZ.out (by have := read_le_any HIZ.out HRM.out file; omega)
        obtain ⟨⟨a7, c7, o7⟩, hr⟩ : ∃ r, r = jopen az file := ⟨_, rfl⟩
        rw [← hr] at hop
        have HJO := Lib.hid hr
        clear hr
        refine hop.mono ?_
        rintro e w7 ⟨fs7, hi7, hk7, hd7, hov⟩
        simp only at hi7 hov
        have HR7 := Lib.hid (ris_far HRZ.out hk7 (fun k e => HSZ.out.ap k e))
        have hs7 := hk7.size
        clear hop
        cases o7 with
        | none =>
          have he : e = .returned (.tuple #[.pointer none, .int .i64 c7]) := hov
          subst he
          have HS7 := Lib.hid (HSZ.out.move hk7 (fun _ h => h) hd7 (fun k e => (hi7.low e).2))
          have HI7 := Lib.hid hi7
          clear hi7 hk7 hd7 hov
          go_wp2_with fail
          have hko := kopen_any w.heap.size BR file vsz az w7 HR7.out (by have := read_le_any HIZ.out HRM.out file; omega)
          rw [← HJO.out] at hko
          refine hko.mono ?_
          rintro e w8 ⟨vs8, hr8, hk8, hd8, hkv⟩
          have he : e = .returned (.tuple #[.pointer none, .int .i64 c7]) := hkv
          subst he
          have HI9 := Lib.hid (is_far HI7.out hk8 (fun k e h => HS7.out.ap k h (.inl e)))
          have HR9 := Lib.hid hr8
          have HK9 := Lib.hid (HS7.out.swap.move (P' := RK BR vs8) hk8 (fun k e => .inl e) hd8 (fun k e => (ris_low hr8 e).2)).k
          clear hr8 hk8 hd8 hkv hko
          go_wp2_with fail
          go_cut [100] (fun b wx => b = .bool false ∧ Kept Kno w8 wx)
          case first =>
            go_quiet (fail)
            go_wp2_with fail
            go_meet
            exact ⟨by simp, Kept.drewN (Kept.refl _ _) _⟩
          case rest =>
            obtain ⟨rfl, hkc⟩ := hcut
            have HI9' := Lib.hid (HI9.out.kept0 hkc)
            have HR9' := Lib.hid (HR9.out.kept0 hkc)
            have HK9' := Lib.hid (HK9.out.then0 hkc)
            clear HI9 HR9 HK9 hkc
            have HI9 := HI9'
            have HR9 := HR9'
            have HK9 := HK9'
            clear HI9' HR9' HK9'
            go_wp2_with fail
            refine (read_any 0 HI9.out).mono ?_
            rintro e w10 ⟨A10, cap10, rfl, hown10, hk10⟩
            have HB10 := Lib.hid (OwnB.bs hown10)
            have HR10 := Lib.hid (HR9.out.kept0 hk10)
            clear hown10
            generalize hRD : a7.read 0 = rd at HB10
            obtain ⟨p, z⟩ := rd
            have HRD := Lib.hid hRD
            clear hRD
            simp only at HB10 ⊢
            go_wp2_with fail
            have hrr := rread_any 0 HR10.out
            rw [HRD.out] at hrr
            refine hrr.mono ?_
            rintro e w11 ⟨A11, cap11, rfl, hown11, hk11⟩
            have HB11 := Lib.hid (OwnB.bs hown11)
            have HB10b := Lib.hid (Rd.kept0 HB10.out hk11)
            clear hown11 hrr
            go_wp2_with fail
            refine (equal_any _ _ p p w11 HB10b.out HB11.out).mono ?_
            rw [decide_eq_true (Eq.refl p)]
            rintro e w12 ⟨rfl, rfl⟩
            go_wp2_with fail
            refine (begun_j _).mono ?_
            rintro e w13 ⟨rfl, hk13⟩
            go_wp2
            go_ret
            exact ⟨rfl, ((HK9.out.then0 hk10).then0 hk11).then0 hk13⟩
        | some rs =>
          obtain ⟨J, rv, ev, us, he, hj, ha⟩ := hov
          subst he
          have HS7 : Hid (Sides w w7 (fun k => JOwn J rv ev us k ∨ DK w.heap.size fs7 k) (RK BR vsz)) := Lib.hid (HSZ.out.move hk7 (fun _ h => h) (fun k e => by
            rcases e with e | e
            · exact .inr (hj.own_low e).1
            · exact hd7 k e) (fun k e => by
            rcases e with e | e
            · exact (hj.own_low e).2
            · exact (hi7.low e).2))
          have HI7 := Lib.hid hi7
          have HJ7 := Lib.hid hj
          clear hi7 hk7 hd7 hj ha
          go_wp2_with fail
          have hko := kopen_any w.heap.size BR file vsz az w7 HR7.out (by have := read_le_any HIZ.out HRM.out file; omega)
          rw [← HJO.out] at hko
          refine hko.mono ?_
          rintro e w8 ⟨vs8, hr8, hk8, hd8, K, rv8, us8, he, hj8, ha8⟩
          simp only at he
          subst he
          have HI9 := Lib.hid (is_far HI7.out hk8 (fun k e h => HS7.out.ap k (.inr h) (.inl e)))
          have HJ9 := Lib.hid (HJ7.out.kept hk8 (fun k h e => HS7.out.ap k (.inl h) (.inl e)))
          have HR9 := Lib.hid hr8
          have HK9 := Lib.hid (HS7.out.swap.move (P' := RK BR vs8) hk8 (fun k e => .inl e) hd8 (fun k e => (ris_low hr8 e).2)).k
          have HJK := Lib.hid hj8
          have c2 := hj8.c_recs
          have hcn := hj8.rl
          obtain ⟨Ak, ck, hrk⟩ := own_form hj8.rr.row
          have HLK : Hid (LsR w8 (.slice Ak rs.length ck) us8 rs) := Lib.hid (by rw [← hrk]; exact hj8.rr.r)
          rw [hrk] at c2
          clear hr8 hk8 hd8 hj8 ha8 hko hrk
          go_wp2_with fail
          go_cut [100] (fun b wx => b = .bool false ∧ Kept Kno w8 wx)
          case first =>
            go_region_held3 (fun w' => w'.cell? ⟨K, 2, none⟩ = some (.slice Ak rs.length ck)) (first | go_keep | exact z1 | exact z2)
              (first
              | (go_at_call 29
                 refine (records_any (HJ9.out.kept0 (Kept.drew (Kept.refl Kno w8)))).mono ?_
                 rintro e w9 ⟨A9, cap9, vs9, rfl, hls9, hk9⟩
                 have HL9 := Lib.hid hls9.r
                 have z1 := hk9.cell_some c2 (fun h => h)
                 have HK98 := Lib.hid ((Kept.drew (Kept.refl Kno w8)).then0 hk9)
                 clear hls9 hk9)
              | (go_at_call 30
                 refine (same_j _ _ vs9 _ rs rs _ HL9.out (HLK.out.kept0 HK98.out) (by omega) (by omega)).mono ?_
                 rw [decide_eq_true (Eq.refl rs)]
                 rintro e w10 ⟨rfl, hk10⟩
                 have z2 := hk10.cell_some z1 (fun h => h)))
            all_goals
              go_wp2_with fail
              go_meet
              exact ⟨by simp, HK98.out.then0 hk10⟩
          case rest =>
            obtain ⟨rfl, hkc⟩ := hcut
            have HI9' := Lib.hid (HI9.out.kept0 hkc)
            have HR9' := Lib.hid (HR9.out.kept0 hkc)
            have HK9' := Lib.hid (HK9.out.then0 hkc)
            clear HI9 HR9 HK9 hkc c2
            have HI9 := HI9'
            have HR9 := HR9'
            have HK9 := HK9'
            clear HI9' HR9' HK9'
            go_wp2_with fail
            refine (read_any 0 HI9.out).mono ?_
            rintro e w10 ⟨A10, cap10, rfl, hown10, hk10⟩
            have HB10 := Lib.hid (OwnB.bs hown10)
            have HR10 := Lib.hid (HR9.out.kept0 hk10)
            clear hown10
            generalize hRD : a7.read 0 = rd at HB10
            obtain ⟨p, z⟩ := rd
            have HRD := Lib.hid hRD
            clear hRD
            simp only at HB10 ⊢
            go_wp2_with fail
            have hrr := rread_any 0 HR10.out
            rw [HRD.out] at hrr
            refine hrr.mono ?_
            rintro e w11 ⟨A11, cap11, rfl, hown11, hk11⟩
            have HB11 := Lib.hid (OwnB.bs hown11)
            have HB10b := Lib.hid (Rd.kept0 HB10.out hk11)
            clear hown11 hrr
            go_wp2_with fail
            refine (equal_any _ _ p p w11 HB10b.out HB11.out).mono ?_
            rw [decide_eq_true (Eq.refl p)]
            rintro e w12 ⟨rfl, rfl⟩
            go_wp2_with fail
            refine (begun_j _).mono ?_
            rintro e w13 ⟨rfl, hk13⟩
            go_wp2
            go_ret
            exact ⟨rfl, ((HK9.out.then0 hk10).then0 hk11).then0 hk13⟩
      | false =>
        have HSZ := HSD4
        have HIZ := HI4
        have HRZ := HR4
        obtain ⟨az, rfl⟩ : ∃ a : Ab, a = a4 := ⟨_, rfl⟩
        obtain ⟨fsz, rfl⟩ : ∃ f : List File, f = fs3 := ⟨_, rfl⟩
        obtain ⟨vsz, rfl⟩ : ∃ f : List Value, f = vs4 := ⟨_, rfl⟩
        obtain ⟨wz, rfl⟩ : ∃ f : World, f = w4 := ⟨_, rfl⟩
        clear HSD4 HI4 HR4
        go_wp2_with fail
        have hop := open_any w.heap.size w.heap.size file fsz az wz HIZ.out (by have := read_le_any HIZ.out HRM.out file; omega)
        obtain ⟨⟨a7, c7, o7⟩, hr⟩ : ∃ r, r = jopen az file := ⟨_, rfl⟩
        rw [← hr] at hop
        have HJO := Lib.hid hr
        clear hr
        refine hop.mono ?_
        rintro e w7 ⟨fs7, hi7, hk7, hd7, hov⟩
        simp only at hi7 hov
        have HR7 := Lib.hid (ris_far HRZ.out hk7 (fun k e => HSZ.out.ap k e))
        have hs7 := hk7.size
        clear hop
        cases o7 with
        | none =>
          have he : e = .returned (.tuple #[.pointer none, .int .i64 c7]) := hov
          subst he
          have HS7 := Lib.hid (HSZ.out.move hk7 (fun _ h => h) hd7 (fun k e => (hi7.low e).2))
          have HI7 := Lib.hid hi7
          clear hi7 hk7 hd7 hov
          go_wp2_with fail
          have hko := kopen_any w.heap.size BR file vsz az w7 HR7.out (by have := read_le_any HIZ.out HRM.out file; omega)
          rw [← HJO.out] at hko
          refine hko.mono ?_
          rintro e w8 ⟨vs8, hr8, hk8, hd8, hkv⟩
          have he : e = .returned (.tuple #[.pointer none, .int .i64 c7]) := hkv
          subst he
          have HI9 := Lib.hid (is_far HI7.out hk8 (fun k e h => HS7.out.ap k h (.inl e)))
          have HR9 := Lib.hid hr8
          have HK9 := Lib.hid (HS7.out.swap.move (P' := RK BR vs8) hk8 (fun k e => .inl e) hd8 (fun k e => (ris_low hr8 e).2)).k
          clear hr8 hk8 hd8 hkv hko
          go_wp2_with fail
          go_cut [100] (fun b wx => b = .bool false ∧ Kept Kno w8 wx)
          case first =>
            go_quiet (fail)
            go_wp2_with fail
            go_meet
            exact ⟨by simp, Kept.drewN (Kept.refl _ _) _⟩
          case rest =>
            obtain ⟨rfl, hkc⟩ := hcut
            have HI9' := Lib.hid (HI9.out.kept0 hkc)
            have HR9' := Lib.hid (HR9.out.kept0 hkc)
            have HK9' := Lib.hid (HK9.out.then0 hkc)
            clear HI9 HR9 HK9 hkc
            have HI9 := HI9'
            have HR9 := HR9'
            have HK9 := HK9'
            clear HI9' HR9' HK9'
            go_wp2_with fail
            refine (read_any 0 HI9.out).mono ?_
            rintro e w10 ⟨A10, cap10, rfl, hown10, hk10⟩
            have HB10 := Lib.hid (OwnB.bs hown10)
            have HR10 := Lib.hid (HR9.out.kept0 hk10)
            clear hown10
            generalize hRD : a7.read 0 = rd at HB10
            obtain ⟨p, z⟩ := rd
            have HRD := Lib.hid hRD
            clear hRD
            simp only at HB10 ⊢
            go_wp2_with fail
            have hrr := rread_any 0 HR10.out
            rw [HRD.out] at hrr
            refine hrr.mono ?_
            rintro e w11 ⟨A11, cap11, rfl, hown11, hk11⟩
            have HB11 := Lib.hid (OwnB.bs hown11)
            have HB10b := Lib.hid (Rd.kept0 HB10.out hk11)
            clear hown11 hrr
            go_wp2_with fail
            refine (equal_any _ _ p p w11 HB10b.out HB11.out).mono ?_
            rw [decide_eq_true (Eq.refl p)]
            rintro e w12 ⟨rfl, rfl⟩
            go_wp2_with fail
            refine (begun_j _).mono ?_
            rintro e w13 ⟨rfl, hk13⟩
            go_wp2
            go_ret
            exact ⟨rfl, ((HK9.out.then0 hk10).then0 hk11).then0 hk13⟩
        | some rs =>
          obtain ⟨J, rv, ev, us, he, hj, ha⟩ := hov
          subst he
          have HS7 : Hid (Sides w w7 (fun k => JOwn J rv ev us k ∨ DK w.heap.size fs7 k) (RK BR vsz)) := Lib.hid (HSZ.out.move hk7 (fun _ h => h) (fun k e => by
            rcases e with e | e
            · exact .inr (hj.own_low e).1
            · exact hd7 k e) (fun k e => by
            rcases e with e | e
            · exact (hj.own_low e).2
            · exact (hi7.low e).2))
          have HI7 := Lib.hid hi7
          have HJ7 := Lib.hid hj
          clear hi7 hk7 hd7 hj ha
          go_wp2_with fail
          have hko := kopen_any w.heap.size BR file vsz az w7 HR7.out (by have := read_le_any HIZ.out HRM.out file; omega)
          rw [← HJO.out] at hko
          refine hko.mono ?_
          rintro e w8 ⟨vs8, hr8, hk8, hd8, K, rv8, us8, he, hj8, ha8⟩
          simp only at he
          subst he
          have HI9 := Lib.hid (is_far HI7.out hk8 (fun k e h => HS7.out.ap k (.inr h) (.inl e)))
          have HJ9 := Lib.hid (HJ7.out.kept hk8 (fun k h e => HS7.out.ap k (.inl h) (.inl e)))
          have HR9 := Lib.hid hr8
          have HK9 := Lib.hid (HS7.out.swap.move (P' := RK BR vs8) hk8 (fun k e => .inl e) hd8 (fun k e => (ris_low hr8 e).2)).k
          have HJK := Lib.hid hj8
          have c2 := hj8.c_recs
          have hcn := hj8.rl
          obtain ⟨Ak, ck, hrk⟩ := own_form hj8.rr.row
          have HLK : Hid (LsR w8 (.slice Ak rs.length ck) us8 rs) := Lib.hid (by rw [← hrk]; exact hj8.rr.r)
          rw [hrk] at c2
          clear hr8 hk8 hd8 hj8 ha8 hko hrk
          go_wp2_with fail
          go_cut [100] (fun b wx => b = .bool false ∧ Kept Kno w8 wx)
          case first =>
            go_region_held3 (fun w' => w'.cell? ⟨K, 2, none⟩ = some (.slice Ak rs.length ck)) (first | go_keep | exact z1 | exact z2)
              (first
              | (go_at_call 29
                 refine (records_any (HJ9.out.kept0 (Kept.drew (Kept.refl Kno w8)))).mono ?_
                 rintro e w9 ⟨A9, cap9, vs9, rfl, hls9, hk9⟩
                 have HL9 := Lib.hid hls9.r
                 have z1 := hk9.cell_some c2 (fun h => h)
                 have HK98 := Lib.hid ((Kept.drew (Kept.refl Kno w8)).then0 hk9)
                 clear hls9 hk9)
              | (go_at_call 30
                 refine (same_j _ _ vs9 _ rs rs _ HL9.out (HLK.out.kept0 HK98.out) (by omega) (by omega)).mono ?_
                 rw [decide_eq_true (Eq.refl rs)]
                 rintro e w10 ⟨rfl, hk10⟩
                 have z2 := hk10.cell_some z1 (fun h => h)))
            all_goals
              go_wp2_with fail
              go_meet
              exact ⟨by simp, HK98.out.then0 hk10⟩
          case rest =>
            obtain ⟨rfl, hkc⟩ := hcut
            have HI9' := Lib.hid (HI9.out.kept0 hkc)
            have HR9' := Lib.hid (HR9.out.kept0 hkc)
            have HK9' := Lib.hid (HK9.out.then0 hkc)
            clear HI9 HR9 HK9 hkc c2
            have HI9 := HI9'
            have HR9 := HR9'
            have HK9 := HK9'
            clear HI9' HR9' HK9'
            go_wp2_with fail
            refine (read_any 0 HI9.out).mono ?_
            rintro e w10 ⟨A10, cap10, rfl, hown10, hk10⟩
            have HB10 := Lib.hid (OwnB.bs hown10)
            have HR10 := Lib.hid (HR9.out.kept0 hk10)
            clear hown10
            generalize hRD : a7.read 0 = rd at HB10
            obtain ⟨p, z⟩ := rd
            have HRD := Lib.hid hRD
            clear hRD
            simp only at HB10 ⊢
            go_wp2_with fail
            have hrr := rread_any 0 HR10.out
            rw [HRD.out] at hrr
            refine hrr.mono ?_
            rintro e w11 ⟨A11, cap11, rfl, hown11, hk11⟩
            have HB11 := Lib.hid (OwnB.bs hown11)
            have HB10b := Lib.hid (Rd.kept0 HB10.out hk11)
            clear hown11 hrr
            go_wp2_with fail
            refine (equal_any _ _ p p w11 HB10b.out HB11.out).mono ?_
            rw [decide_eq_true (Eq.refl p)]
            rintro e w12 ⟨rfl, rfl⟩
            go_wp2_with fail
            refine (begun_j _).mono ?_
            rintro e w13 ⟨rfl, hk13⟩
            go_wp2
            go_ret
            exact ⟨rfl, ((HK9.out.then0 hk10).then0 hk11).then0 hk13⟩

theorem opens_final (u : Value) (l : List UInt8) (file : Int) (off : Bool) (w : World) (hb : Bs w u l ∧ l.length ≤ maxLen) (h : (Lit.int .i64 file).wf = true) :
    Calls Try.prog 6 #[u, .int .i64 file, .bool off] w (RetNew (.bool true) w) := opens_walk u l file off w hb

end Go.Proofs.Yteoodgcpkgfomaa
