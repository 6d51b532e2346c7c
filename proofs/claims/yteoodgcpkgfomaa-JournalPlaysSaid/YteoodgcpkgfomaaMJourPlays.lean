/-
  JournalPlays: the walk of the law.
-/
import Derived.Test.YteoodgcpkgfomaaM15
import Derived.Deep.CutBlock
import Derived.Deep.RegionHeld3
namespace Go.Proofs.Yteoodgcpkgfomaa
open Go.RowKit
set_option linter.unusedVariables false

theorem fail_roomp (a : Ab) (n : Int) : (a.fail n).room = a.room := by unfold Ab.fail; split <;> rfl
theorem keep_farp {w w' w1 : World} {B : Nat} {v : Value} {ks : List Int} (h : KeepIn w v ks) (hk : Kept Kno w w') (hB : w.heap.size ≤ B) (h1 : Kept (Kone B) w' w1) : KeepIn w1 v ks :=
  h.kept0 (hk.trans h1 (fun i hi e => by unfold Kone at e; omega))
theorem gate_roomp (a : Ab) (t : Bool) (i : Nat) (x : List UInt8 × Nat) : (gateOf a t i x).1.room = a.room := by
  unfold gateOf; split
  · rfl
  · split <;> rfl
theorem play_roomp (s : JA) (f kind n : Int) (l : List UInt8) (bs : List (List UInt8)) : (s.play f kind n l bs).1.a.room = s.a.room := by
  unfold JA.play
  split
  · unfold JA.append
    split
    · rfl
    · split
      · rfl
      · show (s.a.append f (frame l)).1.room = s.a.room
        unfold Ab.append
        split
        · rfl
        · split
          · rfl
          · exact gate_roomp _ _ _ _
  · split
    · unfold JA.sync
      split
      · rfl
      · show (s.a.sync f).1.room = s.a.room
        unfold Ab.sync
        split
        · rfl
        · exact gate_roomp _ _ _ _
    · split
      · unfold JA.trunc
        split
        · rfl
        · split
          · rfl
          · show (s.a.trunc f _).1.room = s.a.room
            unfold Ab.trunc
            split
            · rfl
            · split
              · rfl
              · exact gate_roomp _ _ _ _
      · split
        · unfold JA.rewrite
          split
          · rfl
          · split
            · rfl
            · show (s.a.replace f (frames bs)).1.room = s.a.room
              unfold Ab.replace
              split
              · rfl
              · split
                · rfl
                · exact gate_roomp _ _ _ _
        · rfl

def PlState (W wF : World) (X : Nat → Prop) (B BR F n : Nat) (j k : Value) (wr : World) : Prop :=
  ∃ (J K : Nat) (s : JA) (fs : List File) (rv ev : Value) (us vs : List Value) (rv2 : Value) (us2 : List Value), j = .pointer (some ⟨J, 0, none⟩) ∧ k = .pointer (some ⟨K, 0, none⟩) ∧ PS W wF wr X B J BR K (F : Nat) fs rv ev us vs rv2 us2 s s ∧ Good s F ∧ s.a.room ≤ 4000 ∧ (frames s.rs).length ≤ 4000 + 311 * n
def PlRel (W : World) (B BR F n : Nat) (j k i : Value) (wr : World) : Prop := ∃ q : Nat, q ≤ n ∧ i = .int .i64 (q : Nat) ∧ PlState W wr (fun _ => False) B BR F q j k wr
def PlMid (W wF : World) (X : Nat → Prop) (B BR F n : Nat) (j k x y : Value) (wx : World) : Prop := ∃ z : Int, x = .int .i64 z ∧ y = .int .i64 z ∧ PlState W wF X B BR F n j k wx

set_option maxRecDepth 100000 in
set_option maxHeartbeats 8000000 in
theorem plays_walk (r : Int) (hr0 : 0 ≤ r) (hr1 : r ≤ 65535) (fl : Int) (hf0 : 0 ≤ fl) (hf1 : fl ≤ 255) (cv : Value) (cs : List CallJ) (w : World) (hin : CallsJ w cv cs) :
    Calls Try.prog 9 #[.int .u16 r, .int .u8 fl, cv] w (RetNew (.bool true) w) := by
  obtain ⟨A, cap, rfl, hlc, hcm, hnil, hcells⟩ := hin
  have HC := Lib.hid hcells
  have m4 : cap ≤ 9223372036854775807 := by simp only [maxLen] at hcm; omega
  obtain ⟨n, hmin, q1, q2⟩ : ∃ m : Nat, (if (120 : Int) < (cs.length : Int) then (120 : Int) else (cs.length : Int)) = (m : Int) ∧ m ≤ cs.length ∧ m ≤ 120 := min_nat cs.length 120
  have q3 : n ≤ cap := by omega
  have q4 : (n : Int) ≤ (cap : Int) := by omega
  have q5 : (0 : Int) ≤ (n : Int) := by omega
  have hm0 : 0 ≤ r % 4001 := Int.emod_nonneg _ (by decide)
  have hm1 : r % 4001 ≤ 4000 := by have := Int.emod_lt_of_pos r (show (0 : Int) < 4001 by decide); omega
  have ncs : cs.length ≤ 9223372036854775807 := by omega
  obtain ⟨F, hF, hF8⟩ : ∃ F : Nat, fl % 8 = (F : Int) ∧ F < 8 := ⟨(fl % 8).toNat, by omega, by omega⟩
  clear hcells hnil hcm
  go_enter Try.func9, Try.ntmps9
  go_wp2_with fail
  refine (new_ok (r % 4001) _ hm0 (by omega)).mono ?_
  rintro e w1 ⟨rfl, hw1⟩
  have hk1 : Kept Kno w w1 := by rw [hw1]; exact (Kept.refl _ _).alloc _
  have hi1 : Is w1 w.heap.size w.heap.size (List.replicate 8 noFile) (ab0 (r % 4001)) := by rw [hw1]; exact is_new w _ _ (Nat.le_refl _) hm0 (by omega)
  have HI1 := Lib.hid hi1
  have HK1 := Lib.hid hk1
  clear hw1 hi1 hk1
  go_wp2_with fail
  refine (knew_any (r % 4001) _ hm0 (by omega)).mono ?_
  rintro e w2 ⟨rfl, hw2⟩
  have hk2 : Kept Kno w1 w2 := by rw [hw2]; exact (Kept.refl _ _).alloc _
  have hr2 : RIs w2 w.heap.size w1.heap.size (List.replicate 8 (Value.slice none 0 0)) (ab0 (r % 4001)) := by rw [hw2]; exact kris_new w1 _ _ HK1.out.size hm0 (by omega)
  have HI2 := Lib.hid (HI1.out.kept0 hk2)
  have HR2 := Lib.hid hr2
  have HSD : Hid (Sides w w2 (DK w.heap.size (List.replicate 8 noFile)) (RK w1.heap.size (List.replicate 8 (Value.slice none 0 0)))) := Lib.hid (by
    refine ⟨fun k e e' => ?_, fun k e => HI2.out.low e, fun k e => ris_low HR2.out e, HK1.out.then0 hk2⟩
    have h1 := (HI1.out.low e).2
    rcases e' with rfl | ⟨v, hv, e2⟩
    · omega
    · rw [List.eq_of_mem_replicate hv] at e2
      cases e2)
  generalize w1.heap.size = BR at HR2 HSD ⊢
  generalize hR : r % 4001 = R at HI1 HI2 HR2 hm0 hm1
  clear hw2 hr2 hk2 HI1
  go_wp2_with fail
  have hrd0 : (ab0 R).read (F : Nat) = ([], 0) := by have h9 := (calm0 R).read hF8; rw [file0] at h9; exact h9
  have hjo : jopen (ab0 R) (F : Nat) = (ab0 R, 0, some []) := jopen_empty (ab0 R) (F : Nat) hrd0
  have HJO := Lib.hid hjo
  have HRD0 := Lib.hid hrd0
  clear hjo hrd0
  have hop := open_any w.heap.size w.heap.size (F : Nat) _ (ab0 R) w2 HI2.out (by rw [HRD0.out]; decide)
  rw [HJO.out] at hop
  refine hop.mono ?_
  rintro e w3 ⟨fs3, hi3, hk3, hd3, J, rv3, ev3, us3, rfl, hj3, ha3⟩
  have HI3 := Lib.hid hi3
  have HJ3 := Lib.hid hj3
  have HA3 := Lib.hid ha3
  have HR3 := Lib.hid (ris_far HR2.out hk3 (fun k e => HSD.out.ap k e))
  have HS3 : Hid (Sides w w3 (fun k => JOwn J rv3 ev3 us3 k ∨ DK w.heap.size fs3 k) (RK BR (List.replicate 8 (Value.slice none 0 0)))) := Lib.hid (HSD.out.move hk3 (fun _ h => h) (fun k e => by
    rcases e with e | e
    · exact .inr (hj3.own_low e).1
    · exact hd3 k e) (fun k e => by
    rcases e with e | e
    · exact (hj3.own_low e).2
    · exact (hi3.low e).2))
  have HW3 := Lib.hid (Nat.le_trans HSD.out.k.size (Nat.le_refl _))
  clear hi3 hk3 hd3 hj3 ha3 hop HI2 HR2
  go_wp2_with fail
  have hko := kopen_any w.heap.size BR (F : Nat) _ (ab0 R) w3 HR3.out (by rw [HRD0.out]; decide)
  rw [HJO.out] at hko
  refine hko.mono ?_
  rintro e w4 ⟨vs4, hr4, hk4, hd4, K, rv4, us4, he, hj4, ha4⟩
  simp only at he
  subst he
  have hW3 := HS3.out.k.size
  have HPS0 : Hid (PS w w4 w4 (fun _ => False) w.heap.size J BR K (F : Nat) fs3 rv3 ev3 us3 vs4 rv4 us4 ⟨ab0 R, [], false⟩ ⟨ab0 R, [], false⟩) := Lib.hid
    ⟨is_far HI3.out hk4 (fun k e e' => HS3.out.ap k (.inr e') (.inl e)), (HJ3.out.kept hk4 (fun k e e' => HS3.out.ap k (.inl e) (.inl e'))).rebase HW3.out, HA3.out, hr4, hj4.rebase hW3, ha4,
     (HS3.out.swap.move (P' := fun k => KOwn K rv4 us4 k ∨ RK BR vs4 k) hk4 (fun k e => .inl e) (fun k e => by
       rcases e with e | e
       · exact .inr (hj4.own_low e).1
       · exact hd4 k e) (fun k e => by
       rcases e with e | e
       · exact (hj4.own_low e).2
       · exact (ris_low hr4 e).2)).swap, fun k h => h.elim, Kept.refl _ _⟩
  have HG0 : Hid (Good ⟨ab0 R, [], false⟩ F) := Lib.hid ⟨rfl, fun b hb => by simp at hb, ⟨[], fun b hb => by simp at hb, by simp only; rw [file0]; rfl⟩, fun _ => ⟨rfl, by simp only; rw [file0]; rfl⟩⟩
  clear hr4 hk4 hd4 hj4 ha4 hko HI3 HJ3 HA3 HR3 HS3 hW3 HSD
  go_wp2_with fail
  go_loopw [12, 14, 71] (fun j k i wr => PlRel w w.heap.size BR F n j k i wr) (fun _ _ i _ => n - (intOf i).toNat)
  case atStart => exact ⟨0, by omega, rfl, J, K, _, fs3, rv3, ev3, us3, vs4, rv4, us4, rfl, rfl, HPS0.out, HG0.out, hm1, by simp [frames]⟩
  case round =>
    obtain ⟨q, hq, rfl, J, K, s, fs, rv, ev, us, vs, rv2, us2, rfl, rfl, hps, hgood, hroom, hsz⟩ := hrel
    have HPS := Lib.hid hps
    have HGD := Lib.hid hgood
    have HRO := Lib.hid hroom
    have HSZ := Lib.hid hsz
    clear hps hgood hroom hsz
    by_cases hlt : q < n
    · obtain ⟨c, hc⟩ : ∃ c, cs[q]? = some c := ⟨cs[q]'(by omega), List.getElem?_eq_getElem _⟩
      obtain ⟨g, o, rfl, hat⟩ := HC.out (by omega)
      have HOKW := Lib.hid (hat q c hc).ok
      obtain ⟨c0, c1, c2, c3, c4, hok⟩ := (hat q c hc).kept HPS.out.sd.k
      obtain ⟨kind, nn, b, l, rv0, us0, rs0, keep, ks0⟩ := c
      simp only at c0 c1 c2 c3 c4 HOKW
      obtain ⟨hbs, hll, hrs, hrl, hrm, hkeep, hnn⟩ := hok
      simp only at hbs hll hrs hrl hrm hkeep hnn
      have HBS := Lib.hid hbs
      have HRS0 := Lib.hid hrs
      have HRM0 := Lib.hid hrm
      obtain ⟨Ab, capb, rfl, hb1, -⟩ := hbs
      obtain ⟨Ar, capr, rfl, hr1⟩ := hrs.form
      obtain ⟨Ak2, capk2, rfl, -⟩ := hkeep
      have hk0 : (0 : Int) ≤ (q : Int) := by omega
      have hk9 : (q : Int) < (n : Int) := by omega
      clear hat hc hrs hrm
      go_wp2_with fail
      have hkA : Kept Kno wr (wr.alloc (.cells #[.int .i64 kind, .int .i64 nn, .slice Ab l.length capb, .slice Ar rs0.length capr, .slice Ak2 ks0.length capk2] 47)) := (Kept.refl _ _).alloc _
      have hblk := Blk.new wr 47 #[.int .i64 kind, .int .i64 nn, .slice Ab l.length capb, .slice Ar rs0.length capr, .slice Ak2 ks0.length capk2]
      have hzA : wr.heap.size < (wr.alloc (.cells #[.int .i64 kind, .int .i64 nn, .slice Ab l.length capb, .slice Ar rs0.length capr, .slice Ak2 ks0.length capk2] 47)).heap.size := by simp
      generalize (wr.alloc (.cells #[.int .i64 kind, .int .i64 nn, .slice Ab l.length capb, .slice Ar rs0.length capr, .slice Ak2 ks0.length capk2] 47)) = wA at hkA hblk hzA ⊢
      have hcl : (l.take 300).length = min l.length 300 := by rw [List.length_take, Nat.min_comm]
      have hcut := cut_any2 kind nn Ab capb _ l us0 rs0 Ak2 ks0.length capk2 wA (Rd.kept0 HBS.out hkA) (HRS0.out.kept0 hkA) hll hrl HRM0.out
      unfold CutOk2 at hcut
      rw [← hcl] at hcut
      have HLB : Hid (∀ w1, Kept Kno w w1 → Bs w1 (.slice Ab (l.take 300).length capb) (l.take 300)) := Lib.hid (fun w1 h => by
        have h9 := Bs.cut (Rd.kept0 HOKW.out.b h) (Nat.min_le_left l.length 300)
        rw [take_min, ← hcl] at h9
        exact h9)
      have HLL : Hid ((l.take 300).length ≤ 300) := Lib.hid (by rw [hcl]; exact Nat.min_le_right _ _)
      have HRB : Hid (∀ (A2 : Option Addr) (c2 : Nat) w1, Rd w1 1 (.slice A2 (cutR rs0).length c2) (cutR rs0).length ((zipV us0 rs0).take 8) → Kept Kno w w1 → LsR w1 (.slice A2 (cutR rs0).length c2) ((zipV us0 rs0).take 8) (cutR rs0)) := Lib.hid (fun A2 c2 w1 h1 h2 => zip_lsr2 HOKW.out.r h1 h2)
      have HRl := Lib.hid (cutR_len rs0)
      have HRf := Lib.hid (cutR_frames rs0)
      have HRs := Lib.hid (cutR_short rs0)
      have HRm := Lib.hid (fun (b : List UInt8) (hb : b ∈ cutR rs0) => cutR_mem hb)
      clear hcl
      generalize l.take 300 = L at hcut HLB HLL
      generalize (zipV us0 rs0).take 8 = vs0 at hcut HRB
      generalize cutR rs0 = R0 at hcut HRB HRl HRf HRs HRm
      refine hcut.mono ?_
      rintro e w2 ⟨A2, c2', rfl, hown2, hk2⟩
      have hb2 := hblk.kept hk2 (fun h => h)
      have d0 := hb2.cell 0
      have d1 := hb2.cell 1
      have d2 := hb2.cell 2
      have d3 := hb2.cell 3
      have d4 := hb2.cell 4
      have h0 := hb2.frozen 0
      have h1 := hb2.frozen 1
      have h2 := hb2.frozen 2
      have h3 := hb2.frozen 3
      have h4 := hb2.frozen 4
      simp only [List.getElem?_toArray, List.getElem?_cons_zero, List.getElem?_cons_succ] at d0 d1 d2 d3 d4
      have HB2 := Lib.hid hb2
      have HK2 := Lib.hid (hkA.then0 hk2)
      have HO2 := Lib.hid hown2
      have HOKK := Lib.hid HOKW.out.k
      simp only at HOKK
      clear hcut hblk hown2 hk2 hkA hb2 c0 c1 c2 c3 c4 HBS HRS0 HRM0 HOKW
      go_upto_block 2 with fail
      have hfin : Blk (((((w2.setCell ⟨wr.heap.size, 0, none⟩ (.int .i64 kind)).setCell ⟨wr.heap.size, 1, none⟩ (.int .i64 nn)).setCell ⟨wr.heap.size, 2, none⟩ (.slice Ab L.length capb)).setCell ⟨wr.heap.size, 3, none⟩ (.slice A2 R0.length c2')).setCell ⟨wr.heap.size, 4, none⟩ (.slice Ak2 ks0.length capk2)) wr.heap.size 47 #[.int .i64 kind, .int .i64 nn, .slice Ab L.length capb, .slice A2 R0.length c2', .slice Ak2 ks0.length capk2] := ((((HB2.out.set_ 0 (.int .i64 kind)).set_ 1 (.int .i64 nn)).set_ 2 (.slice Ab L.length capb)).set_ 3 (.slice A2 R0.length c2')).set_ 4 (.slice Ak2 ks0.length capk2)
      have hkF : Kept (fun q => q = wr.heap.size) w2 (((((w2.setCell ⟨wr.heap.size, 0, none⟩ (.int .i64 kind)).setCell ⟨wr.heap.size, 1, none⟩ (.int .i64 nn)).setCell ⟨wr.heap.size, 2, none⟩ (.slice Ab L.length capb)).setCell ⟨wr.heap.size, 3, none⟩ (.slice A2 R0.length c2')).setCell ⟨wr.heap.size, 4, none⟩ (.slice Ak2 ks0.length capk2)) := (((((Kept.refl (fun q => q = wr.heap.size) w2).setIn (p := ⟨wr.heap.size, 0, none⟩) rfl _).setIn (p := ⟨wr.heap.size, 1, none⟩) rfl _).setIn (p := ⟨wr.heap.size, 2, none⟩) rfl _).setIn (p := ⟨wr.heap.size, 3, none⟩) rfl _).setIn (p := ⟨wr.heap.size, 4, none⟩) rfl _
      generalize (((((w2.setCell ⟨wr.heap.size, 0, none⟩ (.int .i64 kind)).setCell ⟨wr.heap.size, 1, none⟩ (.int .i64 nn)).setCell ⟨wr.heap.size, 2, none⟩ (.slice Ab L.length capb)).setCell ⟨wr.heap.size, 3, none⟩ (.slice A2 R0.length c2')).setCell ⟨wr.heap.size, 4, none⟩ (.slice Ak2 ks0.length capk2)) = wF at hfin hkF ⊢
      have HKW : Hid (Kept Kno wr wF) := Lib.hid (HK2.out.trans hkF (fun q hq e => by omega))
      have HOF := Lib.hid (own_kept HO2.out hkF (fun q e e' => by have := (own_base HO2.out e).1; omega))
      have HFIN := Lib.hid hfin
      have hsF := HKW.out.size
      have hlF := hfin.lt
      have HPF : Hid (PS w wF wF (fun t => t = wr.heap.size ∨ (Value.slice A2 R0.length c2').ownBlock = some t) w.heap.size J BR K (F : Nat) fs rv ev us vs rv2 us2 s s) := Lib.hid ((HPS.out.kept0 HKW.out).reset (fun t e => by
        have ht : t < wF.heap.size ∧ wr.heap.size ≤ t := by
          rcases e with rfl | e
          · exact ⟨hlF, Nat.le_refl _⟩
          · have h9 := own_base HOF.out e; exact ⟨h9.2, by omega⟩
        exact ⟨ht.1, fun e' => by have := (HPS.out.sd.pl t e').2; omega, fun e' => by have := (HPS.out.sd.ql t e').2; omega⟩))
      have HGP := Lib.hid (good_play HGD.out hF8 kind nn L R0 (by have := HLL.out; omega) HRs.out)
      have HSP := Lib.hid (size_play s (F : Nat) kind nn L R0 (4000 + 311 * q) HSZ.out HLL.out (by have := HRf.out; omega))
      have HRP : Hid ((s.play (F : Nat) kind nn L R0).1.a.room ≤ 4000) := Lib.hid (by rw [play_roomp]; exact HRO.out)
      have HFIT : Hid ((frames (s.rs ++ [L])).length ≤ 10000000) := Lib.hid (by
        have hlf : (frame L).length ≤ 311 := by have h9 := (leb_length L.length).2; have := HLL.out; rw [frame_length]; omega
        have := HSZ.out
        rw [frames_snoc, List.length_append]; omega)
      have HNN := Lib.hid hnn
      have u0 := hfin.cell 0
      have u1 := hfin.cell 1
      have u2 := hfin.cell 2
      have u3 := hfin.cell 3
      have u4 := hfin.cell 4
      simp only [List.getElem?_toArray, List.getElem?_cons_zero, List.getElem?_cons_succ] at u0 u1 u2 u3 u4
      clear d0 d1 d2 d3 d4 h0 h1 h2 h3 h4 hkF hfin HB2 HO2 HK2 HKW hlF hsF hzA
      go_cut [12, 14, 18, 19] (fun j k x y wx => PlMid w wF (fun t => t = wr.heap.size ∨ (Value.slice A2 R0.length c2').ownBlock = some t) w.heap.size BR F (q + 1) j k x y wx)
      case first =>
        have hkd : Kept Kno wF wF.drew := Kept.drew (Kept.refl Kno wF)
        have HPd := Lib.hid (HPF.out.kept0 hkd)
        by_cases k1 : kind = 1
        · subst k1
          have HE : Hid (s.play (F : Nat) 1 nn L R0 = s.append (F : Nat) L) := Lib.hid (if_pos rfl)
          go_wp2_with fail
          go_region_held3 (fun w' => w'.cell? ⟨wr.heap.size, 2, none⟩ = some ((.slice Ab L.length capb))) (first | go_keep | exact z1 | exact z2)
            (first
            | (go_at_call 28
               refine (jappend_any s _ L HPd.out.jr HPd.out.is HPd.out.ja (HLB.out _ HPd.out.sd.k) (fun w1 hk => HLB.out w1 (HPd.out.farP hk)) (fun _ _ _ => by have := HFIT.out; omega) HPd.out.sd.k.size).mono ?_
               rintro e w5 ⟨rfl, ht⟩
               obtain ⟨fs5, rv5, ev5, us5, hp5⟩ := HPd.out.jturn ht
               have HP5 := Lib.hid hp5
               have z1 := hp5.kx.cell_some u2 (fun h => h (.inl rfl))
               clear ht hp5)
            | (go_at_call 44
               refine (kappend_any s _ L HP5.out.rj HP5.out.ri HP5.out.ka (HLB.out _ HP5.out.sd.k) (fun w1 hk => HLB.out w1 (HP5.out.farQ hk)) (fun _ _ _ => HFIT.out) HP5.out.sd.k.size).mono ?_
               rintro e w6 ⟨rfl, ht⟩
               obtain ⟨vs6, rv6, us6, hp6⟩ := HP5.out.kturn ht
               have HP6 := Lib.hid hp6
               have z2 := hp6.kx.cell_some u2 (fun h => h (.inl rfl))
               clear ht hp6))
          all_goals
            go_wp2_with fail
            go_meet
            have hG := HGP.out
            have hS := HSP.out
            have hR := HRP.out
            rw [HE.out] at hG hS hR
            exact ⟨_, rfl, rfl, J, K, _, _, _, _, _, _, _, _, rfl, rfl, HP6.out, hG, hR, by omega⟩
        · by_cases k2 : kind = 2
          · subst k2
            have HE : Hid (s.play (F : Nat) 2 nn L R0 = s.sync (F : Nat)) := Lib.hid (by unfold JA.play; rw [if_neg (by decide), if_pos rfl])
            clear k1
            go_wp2_with fail
            refine (jsync_any s HPF.out.jr HPF.out.is HPF.out.ja).mono ?_
            rintro e w5 ⟨rfl, ht⟩
            obtain ⟨fs5, rv5, ev5, us5, hp5⟩ := HPF.out.jturn ht
            have HP5 := Lib.hid hp5
            clear ht hp5
            go_wp2_with fail
            refine (ksync_any s HP5.out.rj HP5.out.ri HP5.out.ka).mono ?_
            rintro e w6 ⟨rfl, ht⟩
            obtain ⟨vs6, rv6, us6, hp6⟩ := HP5.out.kturn ht
            have HP6 := Lib.hid hp6
            clear ht hp6
            go_wp2_with fail
            go_meet
            have hG := HGP.out
            have hS := HSP.out
            have hR := HRP.out
            rw [HE.out] at hG hS hR
            exact ⟨_, rfl, rfl, J, K, _, _, _, _, _, _, _, _, rfl, rfl, HP6.out, hG, hR, by omega⟩
          · by_cases k3 : kind = 3
            · subst k3
              have HE : Hid (s.play (F : Nat) 3 nn L R0 = s.trunc (F : Nat) nn) := Lib.hid (by unfold JA.play; rw [if_neg (by decide), if_neg (by decide), if_pos rfl])
              clear k1 k2
              go_wp2_with fail
              go_region_held3 (fun w' => w'.cell? ⟨wr.heap.size, 1, none⟩ = some ((.int .i64 nn))) (first | go_keep | exact z1 | exact z2)
                (first
                | (go_at_call 41
                   refine (jtrunc_any s nn HPd.out.jr HPd.out.is HPd.out.ja).mono ?_
                   rintro e w5 ⟨rfl, ht⟩
                   obtain ⟨fs5, rv5, ev5, us5, hp5⟩ := HPd.out.jturn ht
                   have HP5 := Lib.hid hp5
                   have z1 := hp5.kx.cell_some u1 (fun h => h (.inl rfl))
                   clear ht hp5)
                | (go_at_call 46
                   refine (ktrunc_any s nn HP5.out.rj HP5.out.ri HP5.out.ka).mono ?_
                   rintro e w6 ⟨rfl, ht⟩
                   obtain ⟨vs6, rv6, us6, hp6⟩ := HP5.out.kturn ht
                   have HP6 := Lib.hid hp6
                   have z2 := hp6.kx.cell_some u1 (fun h => h (.inl rfl))
                   clear ht hp6))
              all_goals
                go_wp2_with fail
                go_meet
                have hG := HGP.out
                have hS := HSP.out
                have hR := HRP.out
                rw [HE.out] at hG hS hR
                exact ⟨_, rfl, rfl, J, K, _, _, _, _, _, _, _, _, rfl, rfl, HP6.out, hG, hR, by omega⟩
            · by_cases k4 : kind = 4
              · subst k4
                have HE : Hid (s.play (F : Nat) 4 nn L R0 = s.rewrite (F : Nat) R0) := Lib.hid (by unfold JA.play; rw [if_neg (by decide), if_neg (by decide), if_neg (by decide), if_pos rfl])
                clear k1 k2 k3
                go_wp2_with fail
                go_region_held3 (fun w' => w'.cell? ⟨wr.heap.size, 3, none⟩ = some ((.slice A2 R0.length c2'))) (first | go_keep | exact z1 | exact z2)
                  (first
                  | (go_at_call 39
                     refine (jrewrite_any s _ vs0 R0 HPd.out.jr HPd.out.is HPd.out.ja (HRB.out A2 c2' _ (Rd.kept0 (Rd.of_own HOF.out) (Kept.drew (Kept.refl Kno wF))) HPd.out.sd.k) (fun w1 hk => HRB.out A2 c2' w1 (Rd.kept (Rd.kept0 (Rd.of_own HOF.out) (Kept.drew (Kept.refl Kno wF))) hk (fun t e => (HPd.out.x t (.inr e)).2.1)) (HPd.out.farP hk)) (by have := HRl.out; omega) (fun _ => by have := HRf.out; omega) HPd.out.sd.k.size (fun b hb => by have := HRm.out b hb; simp only [maxLen]; omega)).mono ?_
                     rintro e w5 ⟨rfl, ht⟩
                     obtain ⟨fs5, rv5, ev5, us5, hp5⟩ := HPd.out.jturn ht
                     have HP5 := Lib.hid hp5
                     have z1 := hp5.kx.cell_some u3 (fun h => h (.inl rfl))
                     clear ht hp5)
                  | (go_at_call 47
                     refine (krewrite_any s _ vs0 R0 HP5.out.rj HP5.out.ri HP5.out.ka (HRB.out A2 c2' _ (Rd.kept (Rd.of_own HOF.out) HP5.out.kx (fun t e h => h (.inr e))) HP5.out.sd.k) (fun w1 hk => HRB.out A2 c2' w1 (Rd.kept (Rd.kept (Rd.of_own HOF.out) HP5.out.kx (fun t e h => h (.inr e))) hk (fun t e => (HP5.out.x t (.inr e)).2.2)) (HP5.out.farQ hk)) (by have := HRl.out; omega) (fun _ => by have := HRf.out; omega) HP5.out.sd.k.size (fun b hb => by have := HRm.out b hb; simp only [maxLen]; omega)).mono ?_
                     rintro e w6 ⟨rfl, ht⟩
                     obtain ⟨vs6, rv6, us6, hp6⟩ := HP5.out.kturn ht
                     have HP6 := Lib.hid hp6
                     have z2 := hp6.kx.cell_some u3 (fun h => h (.inl rfl))
                     clear ht hp6))
                all_goals
                  go_wp2_with fail
                  go_meet
                  have hG := HGP.out
                  have hS := HSP.out
                  have hR := HRP.out
                  rw [HE.out] at hG hS hR
                  exact ⟨_, rfl, rfl, J, K, _, _, _, _, _, _, _, _, rfl, rfl, HP6.out, hG, hR, by omega⟩
              · by_cases k5 : kind = 5
                · subst k5
                  clear k1 k2 k3 k4
                  go_wp2_with fail
                  refine (fail_any nn HNN.out HPF.out.is).mono ?_
                  rintro e w5 ⟨rfl, ht⟩
                  obtain ⟨fs5, rv5, ev5, us5, hp5⟩ := HPF.out.dturn ht
                  have HP5 := Lib.hid hp5
                  have z1 := hp5.kx.cell_some u1 (fun h => h (.inl rfl))
                  clear ht hp5
                  go_wp2_with fail
                  refine (rfail_any nn HP5.out.ri HNN.out).mono ?_
                  rintro e w6 ⟨rfl, ht⟩
                  obtain ⟨vs6, rv6, us6, hp6⟩ := HP5.out.rturn ht
                  have HP6 := Lib.hid hp6
                  clear ht hp6
                  go_wp2_with fail
                  go_meet
                  exact ⟨0, rfl, rfl, J, K, _, _, _, _, _, _, _, _, rfl, rfl, HP6.out, good_fail HGD.out nn, by show (s.a.fail nn).room ≤ 4000; rw [fail_roomp]; exact HRO.out, by have := HSZ.out; simp only; omega⟩
                · by_cases k6 : kind = 6
                  · subst k6
                    clear k1 k2 k3 k4 k5
                    obtain ⟨a9, L9, hjo9, hg9, hr9, hl9⟩ := good_crash HGD.out hF8 (file_leF HPF.out.is HRO.out hF8).2 ks0
                    have HJO9 := Lib.hid hjo9
                    have HG9 := Lib.hid hg9
                    have HR9 : Hid (a9.room ≤ 4000) := Lib.hid (by rw [hr9]; exact HRO.out)
                    have HL9 : Hid ((frames L9).length ≤ 4000) := Lib.hid (Nat.le_trans hl9 (file_leF HPF.out.is HRO.out hF8).1)
                    clear hjo9 hg9 hr9 hl9
                    go_wp2_with fail
                    refine (crash_any (.slice Ak2 ks0.length capk2) ks0 HPF.out.is (fun w1 h => keep_farp HOKK.out HPF.out.sd.k (Nat.le_refl _) h)).mono ?_
                    rintro e w5 ⟨rfl, ht⟩
                    obtain ⟨fs5, rv5, ev5, us5, hp5⟩ := HPF.out.dturn ht
                    have HP5 := Lib.hid hp5
                    have z1 := hp5.kx.cell_some u4 (fun h => h (.inl rfl))
                    clear ht hp5
                    go_wp2_with fail
                    refine (rcrash_any (.slice Ak2 ks0.length capk2) ks0 HP5.out.ri (fun w1 h => keep_farp HOKK.out HP5.out.sd.k HP5.out.ri.low h)).mono ?_
                    rintro e w6 ⟨rfl, ht⟩
                    obtain ⟨vs6, rv6, us6, hp6⟩ := HP5.out.rturn ht
                    have HP6 := Lib.hid hp6
                    clear ht hp6 z1
                    go_wp2_with fail
                    have hop := open_any w.heap.size w.heap.size (F : Nat) fs5 _ w6 HP6.out.is (by have h9 := read_leF (F := F) HP6.out.is (show (s.a.crash ks0).room ≤ 4000 from HRO.out) hF8; omega)
                    simp only at hop
                    rw [HJO9.out] at hop
                    refine hop.mono ?_
                    rintro e w7 ⟨fs7, hi7, hk7, hd7, J7, rv7, ev7, us7, rfl, hj7, ha7⟩
                    have HP7 := Lib.hid (HP6.out.jnew hi7 hk7 hd7 hj7 ha7)
                    have HB7 := Lib.hid (read_leF (F := F) HP6.out.is (show (s.a.crash ks0).room ≤ 4000 from HRO.out) hF8)
                    clear hi7 hk7 hd7 hj7 ha7 hop
                    go_wp2_with fail
                    have hko := kopen_any w.heap.size BR (F : Nat) vs6 _ w7 HP7.out.ri (by have h9 := HB7.out; simp only at h9 ⊢; omega)
                    simp only at hko
                    rw [HJO9.out] at hko
                    refine hko.mono ?_
                    rintro e w8 ⟨vs8, hr8, hk8, hd8, K8, rv8, us8, he, hj8, ha8⟩
                    simp only at he
                    subst he
                    have HP8 := Lib.hid (HP7.out.knew hr8 hk8 hd8 hj8 ha8)
                    clear hr8 hk8 hd8 hj8 ha8 hko
                    go_wp2_with fail
                    go_meet
                    exact ⟨0, rfl, rfl, J7, K8, _, _, _, _, _, _, _, _, rfl, rfl, HP8.out, HG9.out, HR9.out, by have := HL9.out; simp only; omega⟩
                  · go_wp2_with fail
                    go_meet
                    exact ⟨0, rfl, rfl, J, K, _, _, _, _, _, _, _, _, rfl, rfl, HPF.out, HGD.out, HRO.out, by have := HSZ.out; omega⟩
      case rest =>
        obtain ⟨z, rfl, rfl, J', K', s', fs', rv', ev', us', vs', rv2', us2', rfl, rfl, hps', hgood', hroom', hsz'⟩ := hcut
        have HP5 := Lib.hid hps'
        have HG5 := Lib.hid hgood'
        have HO5 := Lib.hid hroom'
        have HZ5 := Lib.hid hsz'
        clear hps' hgood' hroom' hsz' u0 u1 u2 u3 u4
        go_wp2_with fail
        refine (read_any (F : Nat) HP5.out.is).mono ?_
        rintro e w10 ⟨A10, cap10, rfl, hown10, hk10⟩
        have HB10 := Lib.hid (OwnB.bs hown10)
        have HP10 := Lib.hid (HP5.out.kept0 hk10)
        clear hown10 hk10
        generalize hRD : s'.a.read (F : Nat) = rd at HB10
        obtain ⟨p, zc⟩ := rd
        have HRD := Lib.hid hRD
        clear hRD
        simp only at HB10 ⊢
        go_wp2_with fail
        have hrr := rread_any (F : Nat) HP10.out.ri
        rw [HRD.out] at hrr
        refine hrr.mono ?_
        rintro e w11 ⟨A11, cap11, rfl, hown11, hk11⟩
        have HB11 := Lib.hid (OwnB.bs hown11)
        have HB10b := Lib.hid (Rd.kept0 HB10.out hk11)
        have HP11 := Lib.hid (HP10.out.kept0 hk11)
        have HP11d := Lib.hid (HP11.out.kept0 (Kept.drew (Kept.refl Kno w11)))
        clear hown11 hrr hk11
        have y2 := HP11.out.rj.c_recs
        have hcn := HP11.out.rj.rl
        obtain ⟨Aq, cq, hrq⟩ := own_form HP11.out.rj.rr.row
        have HLK : Hid (LsR w11 (.slice Aq s'.rs.length cq) us2' s'.rs) := Lib.hid (by rw [← hrq]; exact HP11.out.rj.rr.r)
        rw [hrq] at y2
        clear hrq
        go_wp2_with fail
        go_cut [195] (fun b wx => b = .bool false ∧ Kept Kno w11 wx)
        case first =>
          go_region_held3 (fun w' => w'.cell? ⟨K', 2, none⟩ = some (.slice Aq s'.rs.length cq)) (first | go_keep | exact z1 | exact z2)
            (first
            | (go_at_call 40
               refine (jlen_any HP11d.out.jr).mono ?_
               rintro e w12 ⟨rfl, rfl⟩)
            | (go_at_call 50
               refine (klen_any HP11d.out.rj).mono ?_
               rintro e w12 ⟨rfl, rfl⟩)
            | (go_at_call 29
               refine (records_any HP11d.out.jr).mono ?_
               rintro e w13 ⟨A13, cap13, vs13, rfl, hls13, hk13⟩
               have HL13 := Lib.hid hls13.r
               have z1 := hk13.cell_some y2 (fun h => h)
               have HK13 := Lib.hid ((Kept.drew (Kept.refl Kno w11)).then0 hk13)
               clear hls13 hk13)
            | (go_at_call 30
               refine (same_j _ _ vs13 _ s'.rs s'.rs _ HL13.out (HLK.out.kept0 HK13.out) (by omega) (by omega)).mono ?_
               rw [decide_eq_true (Eq.refl s'.rs)]
               rintro e w14 ⟨rfl, hk14⟩
               have z2 := hk14.cell_some z1 (fun h => h)
               have HK14 := Lib.hid (HK13.out.then0 hk14)
               clear hk14)
            | (go_at_call 23
               refine (equal_any _ _ p p w14 (Rd.kept0 HB10b.out HK14.out) (Rd.kept0 HB11.out HK14.out)).mono ?_
               rw [decide_eq_true (Eq.refl p)]
               rintro e w15 ⟨rfl, rfl⟩))
          all_goals
            go_wp2_with fail
            go_meet
            exact ⟨by simp, HK14.out⟩
        case rest =>
          obtain ⟨rfl, hkc⟩ := hcut
          clear y2
          have HPC := Lib.hid (HP11.out.kept0 hkc)
          clear hkc
          go_wp2
          go_roundw
          case rel => exact ⟨q + 1, by omega, by go_num, J', K', s', fs', rv', ev', us', vs', rv2', us2', rfl, rfl, HPC.out.reset (fun _ h => h.elim), HG5.out, HO5.out, HZ5.out⟩
          case measure => simp [intOf]; omega
    · have hk9 : ¬ (q : Int) < (n : Int) := by omega
      have HKX := Lib.hid HPS.out.sd.k
      go_wp2_with fail
      refine (begun_j _).mono ?_
      rintro e w9 ⟨rfl, hk9'⟩
      go_wp2
      go_ret
      exact ⟨rfl, HKX.out.then0 hk9'⟩

theorem plays_final (r : Int) (fl : Int) (cv : Value) (cs : List CallJ) (w : World) (h : (Lit.int .u16 r).wf = true) (h2 : (Lit.int .u8 fl).wf = true) (hin : CallsJ w cv cs) :
    Calls Try.prog 9 #[.int .u16 r, .int .u8 fl, cv] w (RetNew (.bool true) w) := by
  have hx : 0 ≤ r ∧ r ≤ 65535 := by simpa [Lit.wf, IntKind.min, IntKind.max, IntKind.signed, IntKind.bits] using h
  have hy : 0 ≤ fl ∧ fl ≤ 255 := by simpa [Lit.wf, IntKind.min, IntKind.max, IntKind.signed, IntKind.bits] using h2
  exact plays_walk r hx.1 hx.2 fl hy.1 hy.2 cv cs w hin

end Go.Proofs.Yteoodgcpkgfomaa
