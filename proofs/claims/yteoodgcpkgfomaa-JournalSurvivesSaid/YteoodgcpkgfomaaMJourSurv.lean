/-
  JournalSurvives: the walk of the law.
-/
import Derived.Test.YteoodgcpkgfomaaMJourY
import Derived.Deep.CutBlock
namespace Go.Proofs.Yteoodgcpkgfomaa
open Go.RowKit
set_option linter.unusedVariables false

theorem Is.sizes {w : World} {base B : Nat} {fs : List File} {a : Ab} (h : Is w base B fs a) : ∀ f ∈ a.fs, f.2 ≤ f.1.length ∧ f.1.length ≤ 16777216 := by
  intro f hf
  rw [← h.2, List.mem_map] at hf
  obtain ⟨g, hg, rfl⟩ := hf
  have h1 := (h.1.files g hg).2
  have h2 := used_le hg
  have h3 := h.1.fits
  have h4 := h.1.room1
  refine ⟨h1, ?_⟩
  simp only [File.ab]
  omega

/-- A list of records that neither the journal nor its disk owns. -/
def Held (w : World) (J B : Nat) (fs : List File) (rv ev : Value) (us : List Value) (v : Value) (ls : List (List UInt8)) : Prop :=
  ∃ A cap vs, v = .slice A ls.length cap ∧ LsR w (.slice A ls.length cap) vs ls ∧ ∀ k, (v.ownBlock = some k ∨ ∃ u ∈ vs, u.ownBlock = some k) → k < w.heap.size ∧ ¬ JOwn J rv ev us k ∧ ¬ DK B fs k

section
variable {w w' : World} {base J B : Nat} {file : Int} {rv ev rv' ev' : Value} {us us' : List Value} {fs fs' : List File} {rs ls : List (List UInt8)} {off : Bool} {a : Ab} {v : Value}
theorem Held.turn (h : Held w J B fs rv ev us v ls) (hk : Kept (fun k => JOwn J rv ev us k ∨ DK B fs k) w w') (hd : ∀ k, DK B fs' k → DK B fs k ∨ w.heap.size ≤ k) (ho : ∀ k, JOwn J rv' ev' us' k → JOwn J rv ev us k ∨ w.heap.size ≤ k) : Held w' J B fs' rv' ev' us' v ls := by
  obtain ⟨A, cap, vs, rfl, h1, h2⟩ := h
  have hs := hk.size
  refine ⟨A, cap, vs, rfl, h1.kept hk (fun k e e' => ?_) (fun u hu k e e' => ?_), fun k e => ?_⟩
  · obtain ⟨_, q1, q2⟩ := h2 k (.inl e); exact e'.elim q1 q2
  · obtain ⟨_, q1, q2⟩ := h2 k (.inr ⟨u, hu, e⟩); exact e'.elim q1 q2
  · obtain ⟨q0, q1, q2⟩ := h2 k e
    refine ⟨by omega, fun e' => ?_, fun e' => ?_⟩
    · rcases ho k e' with h3 | h3
      · exact q1 h3
      · omega
    · rcases hd k e' with h3 | h3
      · exact q2 h3
      · omega
theorem Held.kept0 (h : Held w J B fs rv ev us v ls) (hk : Kept Kno w w') : Held w' J B fs rv ev us v ls :=
  h.turn (hk.mono (fun _ _ h => h.elim)) (fun k h => .inl h) (fun k h => .inl h)
theorem held_new {A : Option Addr} {cap : Nat} {vs : List Value} (hls : Ls w' w.heap.size (.slice A ls.length cap) vs ls) (hj : Jr w base J B file rv ev us rs off) (hi : Is w base B fs a) : Held w' J B fs rv ev us (.slice A ls.length cap) ls := by
  refine ⟨A, cap, vs, rfl, hls.r, fun k e => ?_⟩
  have hl := hls.len
  have key : w.heap.size ≤ k ∧ k < w'.heap.size := by
    rcases e with e | ⟨u, hu, e⟩
    · exact own_base hls.1 e
    · obtain ⟨i, hi⟩ := List.mem_iff_getElem?.1 hu
      have hlt : i < vs.length := (List.getElem?_eq_some_iff.1 hi).1
      exact own_base (hls.2 i u _ hi (List.getElem?_eq_getElem (by omega))) e
  exact ⟨key.2, fun e => by have := (hj.own_low e).2; omega, fun e => by have := (hi.low e).2; omega⟩
theorem held_nil : Held w J B fs rv ev us (.slice none 0 0) [] :=
  ⟨none, 0, [], rfl, ⟨⟨none, 0, rfl, by simp, rfl, fun _ => ⟨rfl, rfl⟩, (fun ad h => by cases h)⟩, fun i x b hx => by simp at hx⟩, fun k e => by rcases e with e | ⟨u, hu, _⟩; cases e; simp at hu⟩
end

def SurvRel (w0 : World) (J B n : Nat) (safe there i : Value) (wr : World) : Prop :=
  ∃ (k : Nat) (s : JA) (m : Nat) (fs : List File) (rv ev : Value) (us : List Value) (SL TL : List (List UInt8)), k ≤ n ∧ i = .int .i64 (k : Nat) ∧ Alive s m ∧ Is wr w0.heap.size B fs s.a ∧ Jr wr w0.heap.size J B 0 rv ev us s.rs s.off ∧ JApart J B fs rv ev us ∧
    SL = s.rs.take m ∧ TL = s.rs ∧ Held wr J B fs rv ev us safe SL ∧ Held wr J B fs rv ev us there TL ∧ Kept Kno w0 wr ∧ s.a.room ≤ 4000

theorem gate_roomj (a : Ab) (t : Bool) (i : Nat) (x : List UInt8 × Nat) : (gateOf a t i x).1.room = a.room := by
  unfold gateOf; split
  · rfl
  · split <;> rfl
theorem play_roomj (s : JA) (f kind n : Int) (l : List UInt8) (bs : List (List UInt8)) : (s.play f kind n l bs).1.a.room = s.a.room := by
  unfold JA.play
  split
  · unfold JA.append
    split
    · rfl
    · split
      · rfl
      · show (s.a.append f (frame l)).1.room = s.a.room
        unfold Ab.append
        split
        · rfl
        · split
          · rfl
          · exact gate_roomj _ _ _ _
  · split
    · unfold JA.sync
      split
      · rfl
      · show (s.a.sync f).1.room = s.a.room
        unfold Ab.sync
        split
        · rfl
        · exact gate_roomj _ _ _ _
    · split
      · unfold JA.trunc
        split
        · rfl
        · split
          · rfl
          · show (s.a.trunc f _).1.room = s.a.room
            unfold Ab.trunc
            split
            · rfl
            · split
              · rfl
              · exact gate_roomj _ _ _ _
      · split
        · unfold JA.rewrite
          split
          · rfl
          · split
            · rfl
            · show (s.a.replace f (frames bs)).1.room = s.a.room
              unfold Ab.replace
              split
              · rfl
              · split
                · rfl
                · exact gate_roomj _ _ _ _
        · rfl
theorem lsr_snoc2 {w : World} {v x : Value} {us : List Value} {rs : List (List UInt8)} {b : List UInt8} (hr : Rd w 1 v (rs.length + 1) (us ++ [x])) (hl : us.length = rs.length) (he : ∀ (i : Nat) (y : Value) (c : List UInt8), us[i]? = some y → rs[i]? = some c → Bs w y c) (hx : Bs w x b) : LsR w v (us ++ [x]) (rs ++ [b]) := by
  refine ⟨by rw [List.length_append]; exact hr, fun i y c hy hc => ?_⟩
  rcases Nat.lt_or_ge i us.length with hi | hi
  · rw [List.getElem?_append_left hi] at hy
    rw [List.getElem?_append_left (by omega)] at hc
    exact he i y c hy hc
  · rw [List.getElem?_append_right hi] at hy
    rw [List.getElem?_append_right (by omega)] at hc
    have h0 : i - us.length = 0 := by
      rcases Nat.eq_zero_or_pos (i - us.length) with h0 | h0
      · exact h0
      · rw [List.getElem?_eq_none (by simp; omega)] at hy; cases hy
    rw [h0] at hy
    rw [show i - rs.length = 0 by omega] at hc
    simp at hy hc
    subst hy hc
    exact hx
theorem Held.far {w : World} {J B : Nat} {fs : List File} {rv ev : Value} {us : List Value} {A : Option Addr} {c : Nat} {ls : List (List UInt8)} (h : Held w J B fs rv ev us (.slice A ls.length c) ls) : ∃ vs, ∀ w', Kept (DK B fs) w w' → LsR w' (.slice A ls.length c) vs ls := by
  obtain ⟨A', cap, vs, e, h1, h2⟩ := h
  injection e with e1 e2 e3
  subst e1 e3
  exact ⟨vs, fun w' hk => h1.kept hk (fun k e => (h2 k (.inl e)).2.2) (fun u hu k e => (h2 k (.inr ⟨u, hu, e⟩)).2.2)⟩
theorem keep_farj {w w' w1 : World} {B : Nat} {v : Value} {ks : List Int} (h : KeepIn w v ks) (hk : Kept Kno w w') (hB : w.heap.size ≤ B) (h1 : Kept (Kone B) w' w1) : KeepIn w1 v ks :=
  h.kept0 (hk.trans h1 (fun i hi e => by unfold Kone at e; omega))
theorem file_le {w : World} {base B : Nat} {fs : List File} {a : Ab} (h : Is w base B fs a) (hr : a.room ≤ 4000) : (a.file 0).1.length ≤ 4000 ∧ (a.file 0).2 ≤ (a.file 0).1.length := by
  obtain ⟨f, hf, e⟩ := h.file (i := 0) (by omega)
  have hm := List.mem_of_getElem? hf
  have h1 := used_le hm
  have h2 := h.1.fits
  rw [e]
  exact ⟨by show f.l.length ≤ 4000; omega, (h.1.files f hm).2⟩
theorem read_le {w : World} {base B : Nat} {fs : List File} {a : Ab} (h : Is w base B fs a) (hr : a.room ≤ 4000) : (a.read 0).1.length ≤ 4000 := by
  unfold Ab.read
  split
  · simp
  · exact (file_le h hr).1

set_option maxRecDepth 100000 in
set_option maxHeartbeats 6000000 in
theorem surv_walk (r : Int) (hr0 : 0 ≤ r) (hr1 : r ≤ 65535) (cv : Value) (cs : List CallJ) (at_ : Int) (ha0 : 0 ≤ at_) (ha1 : at_ ≤ 255) (kv : Value) (ks : List Int) (w : World) (hin : CallsJ w cv cs) (hkp : KeepIn w kv ks) :
    Calls Try.prog 10 #[.int .u16 r, cv, .int .u8 at_, kv] w (RetNew (.bool true) w) := by
  obtain ⟨j0, hj0, hy0, hy1, hy2⟩ := info_parts info_recs
  obtain ⟨A, cap, rfl, hlc, hcm, hnil, hcells⟩ := hin
  have HC := Lib.hid hcells
  have HKP := Lib.hid hkp
  obtain ⟨Ak, capk, rfl, -⟩ := hkp
  have m4 : cap ≤ 9223372036854775807 := by simp only [maxLen] at hcm; omega
  obtain ⟨n, hmin, q1, q2⟩ : ∃ m : Nat, (if (120 : Int) < (cs.length : Int) then (120 : Int) else (cs.length : Int)) = (m : Int) ∧ m ≤ cs.length ∧ m ≤ 120 := min_nat cs.length 120
  have q3 : n ≤ cap := by omega
  have q4 : (n : Int) ≤ (cap : Int) := by omega
  have q5 : (0 : Int) ≤ (n : Int) := by omega
  have hm0 : 0 ≤ r % 4001 := Int.emod_nonneg _ (by decide)
  have hm1 : r % 4001 ≤ 4000 := by have := Int.emod_lt_of_pos r (show (0 : Int) < 4001 by decide); omega
  have hp0 : 0 ≤ at_ % 60 := Int.emod_nonneg _ (by decide)
  have hp1 : at_ % 60 ≤ 59 := by have := Int.emod_lt_of_pos at_ (show (0 : Int) < 60 by decide); omega
  have ncs : cs.length ≤ 9223372036854775807 := by omega
  clear hcells hnil hcm
  go_enter Try.func10, Try.ntmps10
  go_wp2_with fail
  refine (new_ok (r % 4001) _ hm0 (by omega)).mono ?_
  rintro e w1 ⟨rfl, hw1⟩
  have hk1 : Kept Kno w w1 := by rw [hw1]; exact (Kept.refl _ _).alloc _
  have hi1 : Is w1 w.heap.size w.heap.size (List.replicate 8 noFile) (ab0 (r % 4001)) := by rw [hw1]; exact is_new w _ _ (Nat.le_refl _) hm0 (by omega)
  have HI1 := Lib.hid hi1
  clear hw1 hi1
  generalize hR : r % 4001 = R at HI1 hm0 hm1
  go_wp2_with fail
  have hrd0 : (ab0 R).read 0 = ([], 0) := by exact (by have h9 := (calm0 R).read (f := 0) (by omega); rw [file0] at h9; exact h9)
  have hop := open_any w.heap.size w.heap.size 0 _ (ab0 R) w1 HI1.out (by rw [hrd0]; decide)
  rw [jopen_empty (ab0 R) 0 hrd0] at hop
  refine hop.mono ?_
  rintro e w2 ⟨fs2, hi2, hkk2, hd2, J, rv2, ev2, us2, rfl, hj2, ha2⟩
  have hk2 : Kept Kno w w2 := HI1.out.kept hk1 (Nat.le_refl _) hkk2
  have HI2 := Lib.hid hi2
  have HJ2 := Lib.hid (hj2.rebase hk1.size)
  have HA2 := Lib.hid ha2
  clear hi2 hj2 ha2 hkk2 hd2 HI1 hop hrd0
  generalize hP : at_ % 60 = P at hp0 hp1
  go_wp2_with fail
  refine (fail_any P (by omega) HI2.out).mono ?_
  rintro e w3 ⟨rfl, ht⟩
  obtain ⟨fs3, hi3, hkk3, hd3⟩ := ht.is
  have hk3 : Kept Kno w w3 := HI2.out.kept hk2 (Nat.le_refl _) hkk3
  have hj3 := HJ2.out.kept hkk3 (fun k h => HA2.out k h)
  have ha3 : JApart J w.heap.size fs3 rv2 ev2 us2 := fun k h h' => by
    rcases hd3 k h' with h2 | h2
    · exact HA2.out k h h2
    · have := (HJ2.out.own_low h).2; omega
  have HI3 := Lib.hid hi3
  have HJ3 := Lib.hid hj3
  have HA3 := Lib.hid ha3
  have hal : Alive ⟨(ab0 R).fail P, [], false⟩ 0 := by
    refine ⟨rfl, ?_, ?_, ?_, fun b hb => by simp at hb, Nat.le_refl _, by simp [frames]⟩
    · unfold Ab.fail; split <;> rfl
    · unfold Ab.fail; split <;> rfl
    · have h9 : ((ab0 R).fail P).file 0 = (ab0 R).file 0 := by unfold Ab.fail; split <;> rfl
      rw [h9, file0]; rfl
  have HAL := Lib.hid hal
  have HRO : Hid (((ab0 R).fail P).room ≤ 4000) := Lib.hid (by unfold Ab.fail; split <;> exact hm1)
  clear ht hi3 hj3 ha3 hkk3 hd3 HI2 HJ2 HA2 hal
  go_wp2_with fail
  go_loopw [13, 14, 55] (fun safe there i wr => SurvRel w J w.heap.size n safe there i wr) (fun _ _ i _ => n - (intOf i).toNat)
  case atStart => exact ⟨0, _, 0, fs3, rv2, ev2, us2, [], [], by omega, rfl, HAL.out, HI3.out, HJ3.out, HA3.out, rfl, rfl, held_nil, held_nil, hk3, HRO.out⟩
  case round =>
    obtain ⟨k, s, m, fs, rv, ev, us, SL, TL, hk, rfl, hal, hi, hj, hap, hsl, htl, hsafe, hthere, hkr, hroom⟩ := hrel
    have HAL := Lib.hid hal
    have HI := Lib.hid hi
    have HJ := Lib.hid hj
    have HAP := Lib.hid hap
    have HKR := Lib.hid hkr
    have HRO := Lib.hid hroom
    have HSL := Lib.hid hsl
    have HTL := Lib.hid htl
    obtain ⟨As, cas, vss, rfl, -⟩ := id hsafe
    obtain ⟨At, cat, vst, rfl, -⟩ := id hthere
    have HSAFE := Lib.hid hsafe
    have HTHERE := Lib.hid hthere
    clear hal hi hj hap hsl htl hsafe hthere hroom
    by_cases hlt : k < n
    · obtain ⟨c, hc⟩ : ∃ c, cs[k]? = some c := ⟨cs[k]'(by omega), List.getElem?_eq_getElem _⟩
      obtain ⟨g, o, rfl, hat⟩ := HC.out (by omega)
      have HOKW := Lib.hid (hat k c hc).ok
      obtain ⟨c0, c1, c2, c3, c4, hok⟩ := (hat k c hc).kept hkr
      obtain ⟨kind, nn, b, l, rv0, us0, rs0, keep, ks0⟩ := c
      simp only at c0 c1 c2 c3 c4 HOKW
      obtain ⟨hbs, hll, hrs, hrl, hrm, hkeep, hnn⟩ := hok
      simp only at hbs hll hrs hrl hrm hkeep hnn
      have HBS := Lib.hid hbs
      have HRS0 := Lib.hid hrs
      have HRM0 := Lib.hid hrm
      obtain ⟨Ab, capb, rfl, hb1, -⟩ := hbs
      obtain ⟨Ar, capr, rfl, hr1⟩ := hrs.form
      obtain ⟨Ak2, capk2, rfl, -⟩ := hkeep
      have hk0 : (0 : Int) ≤ (k : Int) := by omega
      have hk9 : (k : Int) < (n : Int) := by omega
      clear hat hc hrs hrm hkr
      go_wp2_with fail
      have hkA : Kept Kno wr (wr.alloc (.cells #[.int .i64 kind, .int .i64 nn, .slice Ab l.length capb, .slice Ar rs0.length capr, .slice Ak2 ks0.length capk2] 47)) := (Kept.refl _ _).alloc _
      have hblk := Blk.new wr 47 #[.int .i64 kind, .int .i64 nn, .slice Ab l.length capb, .slice Ar rs0.length capr, .slice Ak2 ks0.length capk2]
      have hzA : wr.heap.size < (wr.alloc (.cells #[.int .i64 kind, .int .i64 nn, .slice Ab l.length capb, .slice Ar rs0.length capr, .slice Ak2 ks0.length capk2] 47)).heap.size := by simp
      generalize (wr.alloc (.cells #[.int .i64 kind, .int .i64 nn, .slice Ab l.length capb, .slice Ar rs0.length capr, .slice Ak2 ks0.length capk2] 47)) = wA at hkA hblk hzA ⊢
      have hcl : (l.take 300).length = min l.length 300 := by rw [List.length_take, Nat.min_comm]
      have hcut := cut_any2 kind nn Ab capb _ l us0 rs0 Ak2 ks0.length capk2 wA (Rd.kept0 HBS.out hkA) (HRS0.out.kept0 hkA) hll hrl HRM0.out
      unfold CutOk2 at hcut
      rw [← hcl] at hcut
      have HLB : Hid (∀ w1, Kept Kno w w1 → Bs w1 (.slice Ab (l.take 300).length capb) (l.take 300)) := Lib.hid (fun w1 h => by
        have h9 := Bs.cut (Rd.kept0 HOKW.out.b h) (Nat.min_le_left l.length 300)
        rw [take_min, ← hcl] at h9
        exact h9)
      have HLL : Hid ((l.take 300).length ≤ 300) := Lib.hid (by rw [hcl]; exact Nat.min_le_right _ _)
      have HRB : Hid (∀ (A2 : Option Addr) (c2 : Nat) w1, Rd w1 1 (.slice A2 (cutR rs0).length c2) (cutR rs0).length ((zipV us0 rs0).take 8) → Kept Kno w w1 → LsR w1 (.slice A2 (cutR rs0).length c2) ((zipV us0 rs0).take 8) (cutR rs0)) := Lib.hid (fun A2 c2 w1 h1 h2 => zip_lsr2 HOKW.out.r h1 h2)
      have HRl := Lib.hid (cutR_len rs0)
      have HRf := Lib.hid (cutR_frames rs0)
      have HRs := Lib.hid (cutR_short rs0)
      have HRm := Lib.hid (fun (b : List UInt8) (hb : b ∈ cutR rs0) => cutR_mem hb)
      clear hcl
      generalize l.take 300 = L at hcut HLB HLL
      generalize (zipV us0 rs0).take 8 = vs0 at hcut HRB
      generalize cutR rs0 = R0 at hcut HRB HRl HRf HRs HRm
      refine hcut.mono ?_
      rintro e w2 ⟨A2, c2', rfl, hown2, hk2⟩
      have hb2 := hblk.kept hk2 (fun h => h)
      have d0 := hb2.cell 0
      have d1 := hb2.cell 1
      have d2 := hb2.cell 2
      have d3 := hb2.cell 3
      have d4 := hb2.cell 4
      have h0 := hb2.frozen 0
      have h1 := hb2.frozen 1
      have h2 := hb2.frozen 2
      have h3 := hb2.frozen 3
      have h4 := hb2.frozen 4
      simp only [List.getElem?_toArray, List.getElem?_cons_zero, List.getElem?_cons_succ] at d0 d1 d2 d3 d4
      have HB2 := Lib.hid hb2
      have HK2 := Lib.hid (hkA.then0 hk2)
      have HO2 := Lib.hid hown2
      clear hcut hblk hown2 hk2 hkA hb2 c0 c1 c2 c3 c4 HBS HRS0 HRM0 HOKW
      by_cases hkd : kind < 1 ∨ 4 < kind
      · have HKW := Lib.hid (((((HK2.out.setNew (p := ⟨wr.heap.size, 0, none⟩) (Nat.le_refl _) (.int .i64 kind)).setNew (p := ⟨wr.heap.size, 1, none⟩) (Nat.le_refl _) (.int .i64 nn)).setNew (p := ⟨wr.heap.size, 2, none⟩) (Nat.le_refl _) (.slice Ab L.length capb)).setNew (p := ⟨wr.heap.size, 3, none⟩) (Nat.le_refl _) (.slice A2 R0.length c2')).setNew (p := ⟨wr.heap.size, 4, none⟩) (Nat.le_refl _) (.slice Ak2 ks0.length capk2))
        rcases hkd with hkd | hkd
        · go_wp2
          go_roundw
          case rel => exact ⟨k + 1, s, m, fs, rv, ev, us, SL, TL, by omega, by go_num, HAL.out, HI.out.kept0 HKW.out, HJ.out.kept0 HKW.out, HAP.out, HSL.out, HTL.out, HSAFE.out.kept0 HKW.out, HTHERE.out.kept0 HKW.out, HKR.out.then0 HKW.out, HRO.out⟩
          case measure => simp [intOf]; omega
        · have k1 : ¬ kind < 1 := by omega
          go_wp2
          go_roundw
          case rel => exact ⟨k + 1, s, m, fs, rv, ev, us, SL, TL, by omega, by go_num, HAL.out, HI.out.kept0 HKW.out, HJ.out.kept0 HKW.out, HAP.out, HSL.out, HTL.out, HSAFE.out.kept0 HKW.out, HTHERE.out.kept0 HKW.out, HKR.out.then0 HKW.out, HRO.out⟩
          case measure => simp [intOf]; omega
      · have k1 : ¬ kind < 1 := by omega
        have k4 : ¬ 4 < kind := by omega
        clear hkd
        go_wp2_with fail
        have hfin : Blk (((((w2.setCell ⟨wr.heap.size, 0, none⟩ (.int .i64 kind)).setCell ⟨wr.heap.size, 1, none⟩ (.int .i64 nn)).setCell ⟨wr.heap.size, 2, none⟩ (.slice Ab L.length capb)).setCell ⟨wr.heap.size, 3, none⟩ (.slice A2 R0.length c2')).setCell ⟨wr.heap.size, 4, none⟩ (.slice Ak2 ks0.length capk2)) wr.heap.size 47 #[.int .i64 kind, .int .i64 nn, .slice Ab L.length capb, .slice A2 R0.length c2', .slice Ak2 ks0.length capk2] := ((((HB2.out.set_ 0 (.int .i64 kind)).set_ 1 (.int .i64 nn)).set_ 2 (.slice Ab L.length capb)).set_ 3 (.slice A2 R0.length c2')).set_ 4 (.slice Ak2 ks0.length capk2)
        have hkF : Kept (fun q => q = wr.heap.size) w2 (((((w2.setCell ⟨wr.heap.size, 0, none⟩ (.int .i64 kind)).setCell ⟨wr.heap.size, 1, none⟩ (.int .i64 nn)).setCell ⟨wr.heap.size, 2, none⟩ (.slice Ab L.length capb)).setCell ⟨wr.heap.size, 3, none⟩ (.slice A2 R0.length c2')).setCell ⟨wr.heap.size, 4, none⟩ (.slice Ak2 ks0.length capk2)) := (((((Kept.refl (fun q => q = wr.heap.size) w2).setIn (p := ⟨wr.heap.size, 0, none⟩) rfl _).setIn (p := ⟨wr.heap.size, 1, none⟩) rfl _).setIn (p := ⟨wr.heap.size, 2, none⟩) rfl _).setIn (p := ⟨wr.heap.size, 3, none⟩) rfl _).setIn (p := ⟨wr.heap.size, 4, none⟩) rfl _
        generalize (((((w2.setCell ⟨wr.heap.size, 0, none⟩ (.int .i64 kind)).setCell ⟨wr.heap.size, 1, none⟩ (.int .i64 nn)).setCell ⟨wr.heap.size, 2, none⟩ (.slice Ab L.length capb)).setCell ⟨wr.heap.size, 3, none⟩ (.slice A2 R0.length c2')).setCell ⟨wr.heap.size, 4, none⟩ (.slice Ak2 ks0.length capk2)) = wF at hfin hkF ⊢
        have HKW : Hid (Kept Kno wr wF) := Lib.hid (HK2.out.trans hkF (fun q hq e => by omega))
        have HOF := Lib.hid (own_kept HO2.out hkF (fun q e e' => by have := (own_base HO2.out e).1; omega))
        have HJF := Lib.hid (HJ.out.kept0 HKW.out)
        have HIF := Lib.hid (HI.out.kept0 HKW.out)
        have HKRF := Lib.hid (HKR.out.then0 HKW.out)
        have HZA := Lib.hid hzA
        have hfl := (file_le HI.out HRO.out).1
        rw [HAL.out.file] at hfl
        have hlf : (frame L).length ≤ 311 := by have h9 := (leb_length L.length).2; have := HLL.out; rw [frame_length]; omega
        have HFIT : Hid ((frames (s.rs ++ [L])).length ≤ 20000000) := Lib.hid (by rw [frames_snoc, List.length_append]; omega)
        clear hfl hlf d0 d1 d2 d3 d4 h0 h1 h2 h3 h4 hkF
        have hpl := jplay_any s kind nn Ab capb L A2 c2' vs0 R0 Ak2 ks0.length capk2 HJF.out HIF.out HAP.out
          (fun w1 hk => HLB.out w1 (jkept HKRF.out (Nat.le_refl _) HJF.out HIF.out hk))
          (fun w1 hk => HRB.out A2 c2' w1 (Rd.kept (Rd.of_own HOF.out) hk (fun q e e' => by
            have h1 := (own_base HOF.out e).1
            have h2 := HZA.out
            rcases e' with e' | e'
            · have := (HJ.out.own_low e').2; omega
            · have := (HI.out.low e').2; omega)) (jkept HKRF.out (Nat.le_refl _) HJF.out HIF.out hk))
          (fun _ _ _ => HFIT.out) (by have := HRl.out; omega) (fun _ => by have := HRf.out; omega) HKRF.out.size (fun b hb => by have := HRm.out b hb; simp only [maxLen]; omega)
        refine hpl.mono ?_
        rintro e w5 ⟨he, fs5, rv5, ev5, us5, hi5, hj5, ha5, hkk5, hd5, ho5⟩
        have hst := alive_step HAL.out kind nn L R0 (by omega) (by omega) (by have := HLL.out; omega) HRs.out
        have hro := play_roomj s 0 kind nn L R0
        generalize s.play 0 kind nn L R0 = pp at he hi5 hj5 hst hro
        obtain ⟨⟨a5, rs5, off5⟩, c5⟩ := pp
        simp only at he hi5 hj5 hst hro
        subst he
        have HSAFE5 := Lib.hid ((HSAFE.out.kept0 HKW.out).turn hkk5 hd5 ho5)
        have HB5 := Lib.hid (hfin.kept hkk5 (fun e => by
          rcases e with e | e
          · have := (HJ.out.own_low e).2; omega
          · have := (HI.out.low e).2; omega))
        have q0 := HB5.out.cell 0
        have q2 := HB5.out.cell 2
        simp only [List.getElem?_toArray, List.getElem?_cons_zero, List.getElem?_cons_succ] at q0 q2
        have HK5 := Lib.hid (jkept HKRF.out (Nat.le_refl _) HJF.out HIF.out hkk5)
        have HI5 := Lib.hid hi5
        have HJ5 := Lib.hid hj5
        have HA5 := Lib.hid ha5
        have HST := Lib.hid hst
        have HRO5 : Hid (a5.room ≤ 4000) := Lib.hid (by rw [hro]; exact HRO.out)
        clear hpl hfin hi5 hj5 ha5 hkk5 hd5 ho5 hst hro HSAFE HTHERE HB2 HO2 HK2 HOF HJF HIF HFIT
        by_cases hc5 : c5 = 220
        · subst hc5
          obtain ⟨hrs5, hlf5⟩ := HST.out.1 rfl
          subst hrs5
          have HLF5 := Lib.hid hlf5
          clear hlf5 HST
          go_wp2_with fail
          refine (records_any HJ5.out).mono ?_
          rintro e w6 ⟨A6, cap6, vs6, rfl, hls6, hk6⟩
          have HLS6 := Lib.hid hls6
          have HIZ := Lib.hid (HI5.out.kept0 hk6)
          have HKZ := Lib.hid (HK5.out.then0 hk6)
          obtain ⟨vsS, hfar⟩ := (HSAFE5.out.kept0 hk6).far
          have HFAR := Lib.hid hfar
          have HCN := Lib.hid HJ5.out.cnt
          have p0 := hk6.cell_some q0 (fun h => h)
          have p2 := hk6.cell_some q2 (fun h => h)
          have HS6 := Lib.hid hk6.size
          have hl6 := hls6.len
          have HL6 := Lib.hid hl6
          clear hls6 hfar q0 q2 hl6
          by_cases hkk1 : kind = 1
          · subst hkk1
            have mm : s.rs.length + 1 ≤ maxLen := by have := HCN.out; simp only [maxLen]; omega
            have m24 : (s.rs.length + 1) * 24 ≤ 140737488355328 := by have := HCN.out; omega
            go_wp2_with (at_builtin; (refine wpList_append_rd _ rfl _ _ 45 rfl w5.heap.size 30 j0 _ 1 24 Try.underlying45 hj0 hy0 hy1 hy2 rfl (by decide) (.slice A6 s.rs.length cap6) s.rs.length vs6 rfl (World.ownsRow.alloc HLS6.out.1 _) _ 1 [.slice Ab L.length capb] rfl (Rd.one _ _ _ rfl) (by simp [Value.oneCell']) mm m24 (by have := HS6.out; simp; omega) ?_); intro A7 cap7 w7 hown7 hg7 hat7)
            have hkB : Kept (Kown (.slice A6 s.rs.length cap6)) w6 w7 := (((Kept.refl Kno w6).alloc (.cells #[.slice Ab L.length capb] 30)).mono (T := Kown (.slice A6 s.rs.length cap6)) (fun _ _ h => h.elim)).grown hg7 (fun q _ e => e)
            have hk67 : Kept Kno w5 w7 := hk6.trans hkB (fun q hq e => by have := (own_base HLS6.out.1 e).1; omega)
            have hIZ7 := HI5.out.kept0 hk67
            have hKZ7 := HK5.out.then0 hk67
            have HLF : Hid (Left a5 SL (s.rs ++ [L])) := Lib.hid (by have h9 := HLF5.out; (first | rw [if_pos rfl] at h9 | rw [if_pos trivial] at h9); rw [← HSL.out] at h9; exact h9)
            have HTB : Hid ((s.rs ++ [L]).length ≤ 100000000) := Lib.hid (by have := HCN.out; simp; omega)
            obtain ⟨vsS7, hfar7⟩ := (HSAFE5.out.kept0 hk67).far
            have HSF := Lib.hid hfar7
            have HTF : Hid (∀ w1, Kept (DK w.heap.size fs5) w7 w1 → LsR w1 (.slice A7 (s.rs.length + 1) cap7) (vs6 ++ [.slice Ab L.length capb]) (s.rs ++ [L])) := Lib.hid (fun w1 hk => by
              have hdk : ∀ q, DK w.heap.size fs5 q → q < w5.heap.size := fun q e => (HI5.out.low e).2
              refine lsr_snoc2 (Rd.kept (Rd.of_own hown7) hk (fun q e e' => ?_)) HL6.out (fun i y c hy hc => ?_) (HLB.out w1 (hIZ7.kept hKZ7 (Nat.le_refl _) hk))
              · have := (own_base hown7 e).1; have := hdk q e'; omega
              · have ho := HLS6.out.2 i y c hy hc
                have h1 := Rd.kept (OwnB.bs ho) hkB (fun q e e' => absurd ((own_bt ho e).one (own_bt HLS6.out.1 e')) (by decide))
                exact Rd.kept h1 hk (fun q e e' => by have := (own_base ho e).1; have := hdk q e'; omega))
            have HRZ := HRO5
            have HIZ := Lib.hid hIZ7
            have HKZ := Lib.hid hKZ7
            clear hown7 hg7 hat7 hIZ7 hKZ7 hfar7 hk67 hkB HLS6 HFAR HLF5
            refine (crash_any (.slice Ak ks.length capk) ks HIZ.out (fun w1 h => keep_farj HKP.out HKZ.out (Nat.le_refl _) h)).mono ?_
            rintro e w8 ⟨rfl, ht⟩
            obtain ⟨fs8, hi8, hkk8, hd8⟩ := ht.is
            have hk8 : Kept Kno w w8 := HIZ.out.kept HKZ.out (Nat.le_refl _) hkk8
            have HI8 := Lib.hid hi8
            clear ht hi8
            go_wp2_with fail
            obtain ⟨a9, L9, ho9, hs9, ht9⟩ := left_opens HLF.out (file_le HIZ.out HRZ.out).2 ks
            have hop := open_any w.heap.size w.heap.size 0 fs8 _ w8 HI8.out (by have := read_le HI8.out HRZ.out; omega)
            rw [ho9] at hop
            refine hop.mono ?_
            rintro e w9 ⟨fs9, hi9, hkk9, hd9, J3, rv9, ev9, us9, rfl, hj9, ha9⟩
            have hkz9 := hkk8.trans hkk9 (fun i hi e => by
              rcases hd8 i e with h | h
              · exact h
              · omega)
            have hk9 : Kept Kno w w9 := HI8.out.kept hk8 (Nat.le_refl _) hkk9
            have HSL9 := Lib.hid (HSF.out w9 hkz9)
            have HTL9 := Lib.hid (HTF.out w9 hkz9)
            have HJ9 := Lib.hid hj9
            have HCN9 := Lib.hid hj9.cnt
            have HS9 := Lib.hid hs9
            have HT9 := Lib.hid ht9
            clear hop ho9 hs9 ht9 hi9 hkk9 hd9 hj9 ha9 hkz9 hkk8 hd8 hk8
            go_wp2_with fail
            refine (records_any HJ9.out).mono ?_
            rintro e w10 ⟨A10, cap10, vs10, rfl, hls10, hk10⟩
            have HL10 := Lib.hid hls10.r
            have HJ10 := Lib.hid (HJ9.out.kept0 hk10)
            clear hls10
            go_wp2_with fail
            refine (begins_any _ _ _ _ SL L9 w10 (HSL9.out.kept0 hk10) HL10.out (by have h8 := congrArg List.length HS9.out; rw [List.length_take] at h8; have := HCN9.out; omega) (by have := HCN9.out; omega) HS9.out).mono ?_
            rintro e w11 ⟨rfl, hk11⟩
            have HJ11 := Lib.hid (HJ10.out.kept0 hk11)
            go_wp2_with fail
            refine (records_any HJ11.out).mono ?_
            rintro e w12 ⟨A12, cap12, vs12, rfl, hls12, hk12⟩
            have HL12 := Lib.hid hls12.r
            clear hls12
            go_wp2_with fail
            refine (begins_any _ _ _ _ L9 (s.rs ++ [L]) w12 HL12.out (((HTL9.out.kept0 hk10).kept0 hk11).kept0 hk12) (by have := HCN9.out; omega) HTB.out HT9.out).mono ?_
            rintro e w13 ⟨rfl, hk13⟩
            go_wp2_with fail
            refine (begun_j _).mono ?_
            rintro e w14 ⟨rfl, hk14⟩
            go_wp2
            go_ret
            exact ⟨rfl, ((((hk9.then0 hk10).then0 hk11).then0 hk12).then0 hk13).then0 hk14⟩
          · have HLF : Hid (Left a5 SL s.rs) := Lib.hid (by have h9 := HLF5.out; rw [if_neg hkk1, ← HSL.out] at h9; exact h9)
            have HTB : Hid (s.rs.length ≤ 100000000) := Lib.hid (by have := HCN.out; omega)
            have HSF := HFAR
            obtain ⟨vsT, hfarT⟩ := (held_new HLS6.out HJ5.out HI5.out).far
            have HTF := Lib.hid hfarT
            have HRZ := HRO5
            clear hfarT HLS6 HFAR HLF5
            go_wp2_with fail
            refine (crash_any (.slice Ak ks.length capk) ks HIZ.out (fun w1 h => keep_farj HKP.out HKZ.out (Nat.le_refl _) h)).mono ?_
            rintro e w8 ⟨rfl, ht⟩
            obtain ⟨fs8, hi8, hkk8, hd8⟩ := ht.is
            have hk8 : Kept Kno w w8 := HIZ.out.kept HKZ.out (Nat.le_refl _) hkk8
            have HI8 := Lib.hid hi8
            clear ht hi8
            go_wp2_with fail
            obtain ⟨a9, L9, ho9, hs9, ht9⟩ := left_opens HLF.out (file_le HIZ.out HRZ.out).2 ks
            have hop := open_any w.heap.size w.heap.size 0 fs8 _ w8 HI8.out (by have := read_le HI8.out HRZ.out; omega)
            rw [ho9] at hop
            refine hop.mono ?_
            rintro e w9 ⟨fs9, hi9, hkk9, hd9, J3, rv9, ev9, us9, rfl, hj9, ha9⟩
            have hkz9 := hkk8.trans hkk9 (fun i hi e => by
              rcases hd8 i e with h | h
              · exact h
              · omega)
            have hk9 : Kept Kno w w9 := HI8.out.kept hk8 (Nat.le_refl _) hkk9
            have HSL9 := Lib.hid (HSF.out w9 hkz9)
            have HTL9 := Lib.hid (HTF.out w9 hkz9)
            have HJ9 := Lib.hid hj9
            have HCN9 := Lib.hid hj9.cnt
            have HS9 := Lib.hid hs9
            have HT9 := Lib.hid ht9
            clear hop ho9 hs9 ht9 hi9 hkk9 hd9 hj9 ha9 hkz9 hkk8 hd8 hk8
            go_wp2_with fail
            refine (records_any HJ9.out).mono ?_
            rintro e w10 ⟨A10, cap10, vs10, rfl, hls10, hk10⟩
            have HL10 := Lib.hid hls10.r
            have HJ10 := Lib.hid (HJ9.out.kept0 hk10)
            clear hls10
            go_wp2_with fail
            refine (begins_any _ _ _ _ SL L9 w10 (HSL9.out.kept0 hk10) HL10.out (by have h8 := congrArg List.length HS9.out; rw [List.length_take] at h8; have := HCN9.out; omega) (by have := HCN9.out; omega) HS9.out).mono ?_
            rintro e w11 ⟨rfl, hk11⟩
            have HJ11 := Lib.hid (HJ10.out.kept0 hk11)
            go_wp2_with fail
            refine (records_any HJ11.out).mono ?_
            rintro e w12 ⟨A12, cap12, vs12, rfl, hls12, hk12⟩
            have HL12 := Lib.hid hls12.r
            clear hls12
            go_wp2_with fail
            refine (begins_any _ _ _ _ L9 (s.rs) w12 HL12.out (((HTL9.out.kept0 hk10).kept0 hk11).kept0 hk12) (by have := HCN9.out; omega) HTB.out HT9.out).mono ?_
            rintro e w13 ⟨rfl, hk13⟩
            go_wp2_with fail
            refine (begun_j _).mono ?_
            rintro e w14 ⟨rfl, hk14⟩
            go_wp2
            go_ret
            exact ⟨rfl, ((((hk9.then0 hk10).then0 hk11).then0 hk12).then0 hk13).then0 hk14⟩
        · obtain ⟨m5, hal5, htk5⟩ := HST.out.2 hc5
          have HAL5 := Lib.hid hal5
          have HTK5 := Lib.hid htk5
          clear hal5 htk5 HST
          go_wp2_with fail
          refine (records_any HJ5.out).mono ?_
          rintro e w6 ⟨A6, cap6, vs6, rfl, hls6, hk6⟩
          have HHT := Lib.hid (held_new hls6 HJ5.out HI5.out)
          have HHS := Lib.hid (HSAFE5.out.kept0 hk6)
          have HI6 := Lib.hid (HI5.out.kept0 hk6)
          have HJ6 := Lib.hid (HJ5.out.kept0 hk6)
          have HK6 := Lib.hid (HK5.out.then0 hk6)
          have p0 := hk6.cell_some q0 (fun h => h)
          clear hls6 hk6 q0 q2
          by_cases hz : c5 = 0
          · subst hz
            by_cases hg : 1 < kind
            · have HT5 : Hid (rs5.take m5 = rs5) := Lib.hid (by have h9 := HTK5.out; rw [if_pos ⟨rfl, hg⟩] at h9; exact h9)
              clear HTK5
              go_wp2
              go_roundw
              case rel => exact ⟨k + 1, _, m5, fs5, rv5, ev5, us5, rs5, rs5, by omega, by go_num, HAL5.out, HI6.out, HJ6.out, HA5.out, HT5.out.symm, rfl, HHT.out, HHT.out, HK6.out, HRO5.out⟩
              case measure => simp [intOf]; omega
            · have HT5 : Hid (rs5.take m5 = s.rs.take m) := Lib.hid (by have h9 := HTK5.out; rw [if_neg (fun h => hg h.2)] at h9; exact h9)
              clear HTK5
              go_wp2
              go_roundw
              case rel => exact ⟨k + 1, _, m5, fs5, rv5, ev5, us5, SL, rs5, by omega, by go_num, HAL5.out, HI6.out, HJ6.out, HA5.out, HSL.out.trans HT5.out.symm, rfl, HHS.out, HHT.out, HK6.out, HRO5.out⟩
              case measure => simp [intOf]; omega
          · have HT5 : Hid (rs5.take m5 = s.rs.take m) := Lib.hid (by have h9 := HTK5.out; rw [if_neg (fun h => hz h.1)] at h9; exact h9)
            clear HTK5
            go_wp2
            go_roundw
            case rel => exact ⟨k + 1, _, m5, fs5, rv5, ev5, us5, SL, rs5, by omega, by go_num, HAL5.out, HI6.out, HJ6.out, HA5.out, HSL.out.trans HT5.out.symm, rfl, HHS.out, HHT.out, HK6.out, HRO5.out⟩
            case measure => simp [intOf]; omega
    · have hk1 : ¬ (k : Int) < (n : Int) := by omega
      have HIZ := HI
      have HKZ := HKR
      have HRZ := HRO
      have HLF : Hid (Left s.a SL TL) := Lib.hid (by rw [HSL.out, HTL.out]; exact HAL.out.left)
      have HTB : Hid (TL.length ≤ 100000000) := Lib.hid (by rw [HTL.out]; have := HJ.out.cnt; omega)
      obtain ⟨vsS, hfarS⟩ := HSAFE.out.far
      obtain ⟨vsT, hfarT⟩ := HTHERE.out.far
      have HSF := Lib.hid hfarS
      have HTF := Lib.hid hfarT
      clear hfarS hfarT HSAFE HTHERE hkr
      go_wp2_with fail
      refine (crash_any (.slice Ak ks.length capk) ks HIZ.out (fun w1 h => keep_farj HKP.out HKZ.out (Nat.le_refl _) h)).mono ?_
      rintro e w8 ⟨rfl, ht⟩
      obtain ⟨fs8, hi8, hkk8, hd8⟩ := ht.is
      have hk8 : Kept Kno w w8 := HIZ.out.kept HKZ.out (Nat.le_refl _) hkk8
      have HI8 := Lib.hid hi8
      clear ht hi8
      go_wp2_with fail
      obtain ⟨a9, L9, ho9, hs9, ht9⟩ := left_opens HLF.out (file_le HIZ.out HRZ.out).2 ks
      have hop := open_any w.heap.size w.heap.size 0 fs8 _ w8 HI8.out (by have := read_le HI8.out HRZ.out; omega)
      rw [ho9] at hop
      refine hop.mono ?_
      rintro e w9 ⟨fs9, hi9, hkk9, hd9, J3, rv9, ev9, us9, rfl, hj9, ha9⟩
      have hkz9 := hkk8.trans hkk9 (fun i hi e => by
        rcases hd8 i e with h | h
        · exact h
        · omega)
      have hk9 : Kept Kno w w9 := HI8.out.kept hk8 (Nat.le_refl _) hkk9
      have HSL9 := Lib.hid (HSF.out w9 hkz9)
      have HTL9 := Lib.hid (HTF.out w9 hkz9)
      have HJ9 := Lib.hid hj9
      have HCN9 := Lib.hid hj9.cnt
      have HS9 := Lib.hid hs9
      have HT9 := Lib.hid ht9
      clear hop ho9 hs9 ht9 hi9 hkk9 hd9 hj9 ha9 hkz9 hkk8 hd8 hk8
      go_wp2_with fail
      refine (records_any HJ9.out).mono ?_
      rintro e w10 ⟨A10, cap10, vs10, rfl, hls10, hk10⟩
      have HL10 := Lib.hid hls10.r
      have HJ10 := Lib.hid (HJ9.out.kept0 hk10)
      clear hls10
      go_wp2_with fail
      refine (begins_any _ _ _ _ SL L9 w10 (HSL9.out.kept0 hk10) HL10.out (by have h8 := congrArg List.length HS9.out; rw [List.length_take] at h8; have := HCN9.out; omega) (by have := HCN9.out; omega) HS9.out).mono ?_
      rintro e w11 ⟨rfl, hk11⟩
      have HJ11 := Lib.hid (HJ10.out.kept0 hk11)
      go_wp2_with fail
      refine (records_any HJ11.out).mono ?_
      rintro e w12 ⟨A12, cap12, vs12, rfl, hls12, hk12⟩
      have HL12 := Lib.hid hls12.r
      clear hls12
      go_wp2_with fail
      refine (begins_any _ _ _ _ L9 (TL) w12 HL12.out (((HTL9.out.kept0 hk10).kept0 hk11).kept0 hk12) (by have := HCN9.out; omega) HTB.out HT9.out).mono ?_
      rintro e w13 ⟨rfl, hk13⟩
      go_wp2_with fail
      refine (begun_j _).mono ?_
      rintro e w14 ⟨rfl, hk14⟩
      go_wp2
      go_ret
      exact ⟨rfl, ((((hk9.then0 hk10).then0 hk11).then0 hk12).then0 hk13).then0 hk14⟩

theorem surv_final (r : Int) (cv : Value) (cs : List CallJ) (at_ : Int) (kv : Value) (ks : List Int) (w : World) (h : (Lit.int .u16 r).wf = true) (hin : CallsJ w cv cs) (h2 : (Lit.int .u8 at_).wf = true) (hkp : KeepIn w kv ks) :
    Calls Try.prog 10 #[.int .u16 r, cv, .int .u8 at_, kv] w (RetNew (.bool true) w) := by
  have hx : 0 ≤ r ∧ r ≤ 65535 := by simpa [Lit.wf, IntKind.min, IntKind.max, IntKind.signed, IntKind.bits] using h
  have hy : 0 ≤ at_ ∧ at_ ≤ 255 := by simpa [Lit.wf, IntKind.min, IntKind.max, IntKind.signed, IntKind.bits] using h2
  exact surv_walk r hx.1 hx.2 cv cs at_ hy.1 hy.2 kv ks w hin hkp

end Go.Proofs.Yteoodgcpkgfomaa
