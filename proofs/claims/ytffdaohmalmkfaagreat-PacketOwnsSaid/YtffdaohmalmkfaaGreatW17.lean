/-
  Packet: Decode, where the bytes are those of a valid message without a device of its own (a sync or a delta).
-/
import Derived.Test.YtffdaohmalmkfaaGreatW16
import Derived.Laws.Tables
set_option linter.unusedSimpArgs false
set_option linter.unusedVariables false
namespace Go.Proofs.YtffdaohmalmkfaaGreat
open Go.RowKit
set_option linter.unusedVariables false

/-- The cells of the zero message. -/
def zeroC : Array Value := #[.int .i64 0, .int .i64 0, .int .i64 0, .int .i64 0, .int .i64 0, .slice none 0 0, .int .i64 0, .slice none 0 0, .int .i64 0, .int .i64 0, .slice none 0 0, .int .i64 0, .int .i64 0, .int .i64 0, .slice none 0 0, .int .i64 0, .int .i64 0, .int .i64 0, .slice none 0 0, .bool false, .slice none 0 0, .int .i64 0, .int .i64 0, .int .i64 0, .slice none 0 0, .int .i64 0, .int .i64 0, .int .i64 0, .int .i64 0, .int .i64 0, .slice none 0 0]

def DecRel (R M n : Nat) (v : Value) (P : Nat → Nat) (C : Nat → Array Value) (w : World) (i : Value) (wr : World) : Prop :=
  ∃ k : Nat, k ≤ n ∧ i = .int .i64 k ∧ Rdp wr R v (P k) ∧ Blk wr M 36 (C k) ∧ Kept (KRM R M) w wr

set_option maxRecDepth 100000 in
set_option maxHeartbeats 8000000 in
theorem decode_ok (kind : Int) (v : Value) (l : List UInt8) (fs : List Fd) (N0 : Nat) (P : Nat → Nat) (C : Nat → Array Value) (w : World) (hb : Bs w v l) (hl : l.length ≤ 65536)
    (hx : uintAt l 0 = .ok (N0, P 0)) (hk0 : unzz N0 = kind) (hC0 : C 0 = zeroC.setIfInBounds 0 (.int .i64 kind)) (hk3 : kind ≠ 3) (hk4 : kind ≠ 4)
    (hfields : ∀ w', Calls Tryz.prog 36 #[.int .i64 kind] w' (FsRet fs w'))
    (hfd : ∀ (w2 : World) (R M base : Nat), R < base → M < base → R ≠ M → Bs w2 v l → (∀ k, v.ownBlock = some k → k ≠ R ∧ k ≠ M) → ∀ (i : Nat) (f : Fd) (p : Value × Value), fs[i]? = some f → FdIn w2 base f p → FdRd w2 R M v p.2 (P i) (C i) (P (i + 1)) (C (i + 1)))
    (hfl : fs.length ≤ 100) (hend : P fs.length = l.length) (hCk : (C fs.length)[0]? = some (.int .i64 kind)) (hCs : (C fs.length).size = 31) (hC1 : (C fs.length).all (·.oneCell') = true)
    (hvalid : ∀ w', Kept Kno w w' → Calls Tryz.prog 34 #[.agg (C fs.length)] w' (RetBool true w')) :
    Calls Tryz.prog 11 #[v] w fun e w' => e = .returned (.tuple #[.agg (C fs.length), .int .i64 0]) ∧ Kept Kno w w' := by
  have HB := Lib.hid hb
  have hmf : ∀ (fn : Fn) (first cap : Array Value) (w : World), (Instr.makeFunc fn first cap).run Tryz.prog w = .ok (.func fn first cap) w := fun _ _ _ _ => rfl
  have HX := Lib.hid hx
  have HK0 := Lib.hid hk0
  have HC0 := Lib.hid hC0
  have HF := Lib.hid hfields
  have HFD := Lib.hid hfd
  have HEND := Lib.hid hend
  have HCK := Lib.hid hCk
  have HCS := Lib.hid hCs
  have HC1 := Lib.hid hC1
  have HV := Lib.hid hvalid
  have hk3b : (kind == 3) = false := by simpa using hk3
  have hk4b : (kind == 4) = false := by simpa using hk4
  have hlow : ∀ k, v.ownBlock = some k → k < w.heap.size ∨ l = [] := by
    obtain ⟨A, cap, rfl, h1, h2, h3, h4⟩ := hb
    intro k hk
    cases hA : A with
    | none => rw [hA] at hk; simp [Value.ownBlock] at hk
    | some ad =>
      rw [hA] at hk
      simp only [Value.ownBlock, Option.some.injEq] at hk
      by_cases h0 : l = []
      · exact .inr h0
      · left
        obtain ⟨c, hc⟩ : ∃ c, l[0]? = some c := ⟨l[0]'(List.length_pos_iff.2 h0), List.getElem?_eq_getElem _⟩
        have := h4 ad hA 0 (bv c) (by rw [List.getElem?_map, hc]; rfl)
        have := World.block_lt_of_cell? w _ this
        rw [block_of_add] at this
        omega
  have hne : l ≠ [] := by
    rintro rfl
    simp [uintAt, rdF] at hx
  have HLOW : Hid (∀ k, v.ownBlock = some k → k < w.heap.size) := Lib.hid (fun k hk => (hlow k hk).resolve_right hne)
  have h65 : ¬ (65536 : Int) < (l.length : Int) := by omega
  obtain ⟨A, cap, rfl, -⟩ := hb
  clear hx hk0 hC0 hfields hfd hend hCk hCs hC1 hvalid hk3 hk4 hlow hne
  go_enter_defers Tryz.func11, Tryz.ntmps11
  go_wp2_with fail
  obtain ⟨w0, h0⟩ : ∃ w0, w0 = ((w.alloc (.cells #[.int .i64 0, .int .i64 0, .int .i64 0, .int .i64 0, .int .i64 0, .slice none 0 0, .int .i64 0, .slice none 0 0, .int .i64 0, .int .i64 0, .slice none 0 0, .int .i64 0, .int .i64 0, .int .i64 0, .slice none 0 0, .int .i64 0, .int .i64 0, .int .i64 0, .slice none 0 0, .bool false, .slice none 0 0, .int .i64 0, .int .i64 0, .int .i64 0, .slice none 0 0, .int .i64 0, .int .i64 0, .int .i64 0, .int .i64 0, .int .i64 0, .slice none 0 0] 36)).alloc (.cells #[.int .i64 0] 40)).alloc (.cells #[.slice A l.length cap, .int .i64 0] 120) := ⟨_, rfl⟩
  have hkw : Kept Kno w w0 := by rw [h0]; exact (((Kept.refl _ _).alloc _).alloc _).alloc _
  have hM : Blk w0 w.heap.size 36 zeroC := by rw [h0]; exact ((Blk.new w _ _).alloc _).alloc _
  have hE : Blk w0 (w.heap.size + 1) 40 #[.int .i64 0] := by
    have := (Blk.new (w.alloc (.cells #[.int .i64 0, .int .i64 0, .int .i64 0, .int .i64 0, .int .i64 0, .slice none 0 0, .int .i64 0, .slice none 0 0, .int .i64 0, .int .i64 0, .slice none 0 0, .int .i64 0, .int .i64 0, .int .i64 0, .slice none 0 0, .int .i64 0, .int .i64 0, .int .i64 0, .slice none 0 0, .bool false, .slice none 0 0, .int .i64 0, .int .i64 0, .int .i64 0, .slice none 0 0, .int .i64 0, .int .i64 0, .int .i64 0, .int .i64 0, .int .i64 0, .slice none 0 0] 36)) 40 #[.int .i64 0]).alloc (.cells #[.slice A l.length cap, .int .i64 0] 120)
    rw [size_alloc'] at this
    rw [h0]; exact this
  have hR : Rdp w0 (w.heap.size + 1 + 1) (.slice A l.length cap) 0 := by
    have := Blk.new ((w.alloc (.cells #[.int .i64 0, .int .i64 0, .int .i64 0, .int .i64 0, .int .i64 0, .slice none 0 0, .int .i64 0, .slice none 0 0, .int .i64 0, .int .i64 0, .slice none 0 0, .int .i64 0, .int .i64 0, .int .i64 0, .slice none 0 0, .int .i64 0, .int .i64 0, .int .i64 0, .slice none 0 0, .bool false, .slice none 0 0, .int .i64 0, .int .i64 0, .int .i64 0, .slice none 0 0, .int .i64 0, .int .i64 0, .int .i64 0, .int .i64 0, .int .i64 0, .slice none 0 0] 36)).alloc (.cells #[.int .i64 0] 40)) 120 #[.slice A l.length cap, .int .i64 0]
    rw [size_alloc', size_alloc'] at this
    rw [h0]; exact this
  rw [← h0]
  have HKW := Lib.hid hkw
  have HM := Lib.hid hM
  have HE := Lib.hid hE
  have HR := Lib.hid hR
  have HB0 := Lib.hid (HB.out.kept0 hkw)
  clear h0 hkw hM hE hR hmf
  have hn0 : 0 ≤ l.length := Nat.zero_le _
  refine (rnumber_ok (w.heap.size + 1 + 1) 0 N0 (P 0) _ l w0 HR.out HB0.out (by omega) hn0 HX.out).mono ?_
  rintro e w1 ⟨rfl, hr1, hk1⟩
  rw [HK0.out]
  have hM1 : Blk w1 w.heap.size 36 zeroC := HM.out.kept hk1 (fun h => by unfold Kone at h; omega)
  have hE1 : Blk w1 (w.heap.size + 1) 40 #[.int .i64 0] := HE.out.kept hk1 (fun h => by unfold Kone at h; omega)
  obtain ⟨wS, hS⟩ : ∃ wS, wS = w1.setCell ⟨w.heap.size, 0, none⟩ (.int .i64 kind) := ⟨_, rfl⟩
  have cM1 : w1.cell? ⟨w.heap.size, 0, none⟩ = some (.int .i64 0) := hM1.cell 0
  have fM1 := hM1.frozen 0
  have hMS : Blk wS w.heap.size 36 (C 0) := by rw [hS, HC0.out]; exact hM1.set_ 0 _
  have hES : Blk wS (w.heap.size + 1) 40 #[.int .i64 0] := by rw [hS]; exact hE1.far (by simp) _
  have hRS : Rdp wS (w.heap.size + 1 + 1) (.slice A l.length cap) (P 0) := by rw [hS]; have := Blk.far hr1 (p := ⟨w.heap.size, 0, none⟩) (by simp; omega) (.int .i64 kind); rw [Nat.zero_add] at this; exact this
  have hkS : Kept Kno w wS := by
    rw [hS]
    exact (HKW.out.trans hk1 (fun i hi h => by unfold Kone at h; omega)).setNew (p := ⟨w.heap.size, 0, none⟩) (Nat.le_refl _) _
  have cS : wS.cell? ⟨w.heap.size, 0, none⟩ = some (.int .i64 kind) := by rw [hS]; exact World.cell?_setCell_same w1 _ _ cM1
  have HMS := Lib.hid hMS
  have HES := Lib.hid hES
  have HRS := Lib.hid hRS
  have HKS := Lib.hid hkS
  have HSe := Lib.hid hS
  rw [hS] at cS
  clear hr1 hk1 hM1 hE1 hMS hES hRS hkS hS HM HE HR HB0 HKW
  go_wp2_with fail
  rw [← HSe.out]
  refine (HF.out wS).mono ?_
  rintro e w2 ⟨s, rfl, hFI, hk2⟩
  obtain ⟨ps, hp1, hp2, hp3⟩ := hFI
  have hRb : w.heap.size + 1 + 1 < wS.heap.size := HRS.out.lt
  have HM2 := Lib.hid (HMS.out.kept hk2 (fun h => h))
  have HE2 := Lib.hid (HES.out.kept hk2 (fun h => h))
  have HR2 : Hid (Rdp w2 (w.heap.size + 1 + 1) (.slice A l.length cap) (P 0)) := Lib.hid (Blk.kept HRS.out hk2 (fun h => h))
  have HK2 := Lib.hid (HKS.out.then0 hk2)
  have HP1 := Lib.hid hp1
  have HFN : Hid (∀ (i : Nat) (f : Fd) (p : Value × Value), fs[i]? = some f → ps[i]? = some p → FdRd w2 (w.heap.size + 1 + 1) w.heap.size (.slice A l.length cap) p.2 (P i) (C i) (P (i + 1)) (C (i + 1)) ∧ ∃ caps, p.1 = .func (.func f.wf) #[] caps ∧ p.2 = .func (.func f.rf) #[] caps) := Lib.hid (by
    intro i f p h1 h3
    have hfi := hp3 i f p h1 h3
    exact ⟨HFD.out w2 (w.heap.size + 1 + 1) w.heap.size wS.heap.size (by omega) (by omega) (by omega) (HB.out.kept0 (HKS.out.then0 hk2)) (fun k hk => by have := HLOW.out k hk; omega) i f p h1 hfi, hfi.form⟩)
  have HGF : Hid (∀ g cap', s = .slice (some ⟨g, 0, none⟩) fs.length cap' → ¬ KRM (w.heap.size + 1 + 1) w.heap.size g ∧ g < w2.heap.size) := Lib.hid (by
    intro g cap' he
    have h1 := own_base hp2 (k := g) (by rw [he]; rfl)
    refine ⟨fun hk => ?_, h1.2⟩
    unfold KRM at hk
    omega)
  have HP2 := Lib.hid hp2
  obtain ⟨As, cs, rfl⟩ := own_form hp2
  have hcs : fs.length ≤ cs ∧ cs ≤ 9223372036854775807 := by
    rcases hp2.2 with ⟨hn, h0⟩ | ⟨g, cap, cur, hv, _, _, hc1, hc2, _⟩
    · injection hn with _ _ h3
      omega
    · injection hv with _ _ h3
      simp only [maxLen] at hc2
      omega
  obtain ⟨hcs1, hcs2⟩ := hcs
  clear hp1 hp2 hp3 hk2 cS HFD HMS HES HRS HKS HSe cM1 fM1
  go_wp2_with fail
  go_loopw [23] (fun i wr => DecRel (w.heap.size + 1 + 1) w.heap.size fs.length (.slice A l.length cap) P C w2 i wr) (fun i _ => fs.length - (intOf i).toNat)
  case atStart => exact ⟨0, Nat.zero_le _, rfl, HR2.out, HM2.out, Kept.refl _ _⟩
  case round =>
    obtain ⟨k, hk, rfl, hrr, hmr, hkr⟩ := hrel
    have HRR := Lib.hid hrr
    have HMR := Lib.hid hmr
    have HKR := Lib.hid hkr
    clear hrr hmr hkr
    by_cases hlt : k < fs.length
    · obtain ⟨f, hf⟩ : ∃ f, fs[k]? = some f := ⟨_, List.getElem?_eq_getElem hlt⟩
      obtain ⟨p, hp⟩ : ∃ p, ps[k]? = some p := ⟨_, List.getElem?_eq_getElem (by rw [HP1.out]; exact hlt)⟩
      obtain ⟨hFW, caps, hpc1, hpc2⟩ := HFN.out k f p hf hp
      obtain ⟨K, caps', hK1, hK2, hK3⟩ := hFW
      rw [hpc2] at hK1
      injection hK1 with e1 e2 e3
      injection e1 with e1
      subst e1 e3
      obtain ⟨g, cap', hAs⟩ : ∃ g cap', (Value.slice As fs.length cs) = .slice (some ⟨g, 0, none⟩) fs.length cap' := by
        rcases HP2.out.2 with ⟨hn, h0⟩ | ⟨g, cap, cur, hv, _⟩
        · omega
        · exact ⟨g, cap, hv⟩
      obtain ⟨hg1, hg2⟩ := HGF.out g cap' hAs
      injection hAs with hAs1 _ hAs2
      subst hAs1 hAs2
      have hcell := fun j (hj : j < fs.length * 2) => World.ownsRow.cellAt HP2.out j hj
      obtain ⟨hq1, hq2⟩ := fpairs_get ps k p hp
      have c0 : wr.cell? ⟨g, k * 2, none⟩ = some (.func (.func f.wf) #[] caps) := HKR.out.cell_some (p := ⟨g, k * 2, none⟩) ((hcell (k * 2) (by omega)).trans (by rw [hq1, hpc1])) hg1
      have c1 : wr.cell? ⟨g, k * 2 + 1, none⟩ = some (.func (.func f.rf) #[] caps) := HKR.out.cell_some (p := ⟨g, k * 2 + 1, none⟩) ((hcell (k * 2 + 1) (by omega)).trans (by rw [hq2, hpc2])) hg1
      have e1 : ∀ (args : Array Value) (w : World), (callFunc f.rf args).run Tryz.prog w = .ok (.enter f.rf args) w := hK2
      have HK3 := Lib.hid hK3
      have hk0 : (0 : Int) ≤ (k : Int) := by omega
      have hk9 : (k : Int) < (fs.length : Int) := by omega
      clear hcell hq1 hq2 hpc1 hpc2 hK2 hK3 hf hp e2
      generalize f.wf = K1 at c0
      generalize f.rf = K2 at c1 e1 HK3 ⊢
      go_wp2_with fail
      have hkq : Kept Kno wr (wr.alloc (.cells #[.func (.func K1) #[] caps, .func (.func K2) #[] caps] 111)) := (Kept.refl _ _).alloc _
      refine (HK3.out _ (HKR.out.then0 hkq) (Blk.kept HRR.out hkq (fun h => h)) (HMR.out.kept hkq (fun h => h))).mono ?_
      rintro e w3 ⟨rfl, hr3, hm3, hk3⟩
      have HX3 : Hid (Rdp w3 (w.heap.size + 1 + 1) (.slice A l.length cap) (P (k + 1)) ∧ Blk w3 w.heap.size 36 (C (k + 1)) ∧ Kept (KRM (w.heap.size + 1 + 1) w.heap.size) w2 w3) := Lib.hid ⟨hr3, hm3, (HKR.out.then0 hkq).trans hk3 (fun _ _ h => h)⟩
      clear hr3 hm3 hk3 hkq c0 c1 e1 HK3
      go_wp2
      go_roundw
      case rel => exact ⟨k + 1, by omega, by go_num, HX3.out⟩
      case measure => simp [intOf]; omega
    · have hk9 : ¬ (k : Int) < (fs.length : Int) := by omega
      obtain rfl : k = fs.length := by omega
      have hkwr : Kept Kno w wr := HK2.out.trans HKR.out (fun i hi h => by unfold KRM at h; omega)
      have HKWR := Lib.hid hkwr
      have HER : Hid (Blk wr (w.heap.size + 1) 40 #[.int .i64 0]) := Lib.hid (HE2.out.kept HKR.out (fun h => by unfold KRM at h; omega))
      have cK : wr.cell? ⟨w.heap.size, 0, none⟩ = some (.int .i64 kind) := (HMR.out.cell 0).trans HCK.out
      have cR : wr.cell? ⟨w.heap.size + 1 + 1, 1, none⟩ = some (.int .i64 (l.length : Int)) := by have := Blk.cell HRR.out 1; rw [HEND.out] at this; exact this
      have HSZ : Hid ((Tryz.prog.info? 36).map (·.size) = some (C fs.length).size) := Lib.hid (bad_load _ HCS.out)
      clear hkwr
      go_wp2_with (first | (refine wpList_load_rowW rfl 36 (.tmp 2) rfl w.heap.size rfl 36 (C fs.length) (0, 0) _ HMR.out Tryz.underlying36 rfl HSZ.out ?_))
      refine (HV.out wr HKWR.out).mono ?_
      rintro e w4 ⟨rfl, hk4⟩
      have HM4 := Lib.hid (HMR.out.kept hk4 (fun h => h))
      have hE4 : Blk w4 (w.heap.size + 1) 40 #[.int .i64 0] := HER.out.kept hk4 (fun h => h)
      have HK4 := Lib.hid (HKWR.out.then0 hk4)
      have hkR : Kept (Kone w.heap.size) w4 (w4.setRow w.heap.size (C fs.length)) := Kept.setRow (S := Kone w.heap.size) (Kept.refl _ _) (fun _ => rfl) _
      have cE : (w4.setRow w.heap.size (C fs.length)).cell? ⟨w.heap.size + 1, 0, none⟩ = some (.int .i64 0) := hkR.cell_some (hE4.cell 0) (fun h => by unfold Kone at h; simp at h)
      have fE : (w4.setRow w.heap.size (C fs.length)).frozen? ⟨w.heap.size + 1, 0, none⟩ = false := hkR.frozen_no (hE4.frozen 0) hE4.lt (fun h => by unfold Kone at h; simp at h)
      have HE4 := Lib.hid hE4
      clear hk4 hE4 cK cR hkR
      go_wp2_with (first
        | (refine wpList_load_row rfl 36 (.tmp 2) rfl w.heap.size rfl 36 (C fs.length) (0, 0) _ HM4.out Tryz.underlying36 rfl HSZ.out ?_)
        | (refine wpList_store_row rfl 36 (.tmp 2) (.tmp 60) rfl w.heap.size (C fs.length) rfl rfl 36 (C fs.length) HM4.out HSZ.out rfl HC1.out ?_))
      obtain ⟨wy, hy⟩ : ∃ wy, wy = (w4.setRow w.heap.size (C fs.length)).setCell ⟨w.heap.size + 1, 0, none⟩ (.int .i64 0) := ⟨_, rfl⟩
      rw [← hy]
      have hMy : Blk wy w.heap.size 36 (C fs.length) := by rw [hy]; exact (HM4.out.setRow _).far (by simp) _
      have cEy : wy.cell? ⟨w.heap.size + 1, 0, none⟩ = some (.int .i64 0) := by rw [hy]; exact World.cell?_setCell_same _ _ _ cE
      have hky : Kept Kno w wy := by rw [hy]; exact (HK4.out.setRow (fun h => absurd h (Nat.lt_irrefl _)) _).setNew (p := ⟨w.heap.size + 1, 0, none⟩) (by simp) _
      have HKY := Lib.hid hky
      refine leaves_cons (f := 37) (args := #[.pointer (some ⟨w.heap.size, 0, none⟩), .pointer (some ⟨w.heap.size + 1, 0, none⟩)]) (by simp) (by simp [go_sem]) ?_
      refine (decD_idle _ _ _).mono ?_
      rintro e u' w'' ⟨rfl, rfl, rfl⟩
      have hlv := run_loadVar_row (P := Tryz.prog) w'' w.heap.size 36 36 (C fs.length) (0, 0) _ hMy Tryz.underlying36 rfl HSZ.out
      have HLV := Lib.hid hlv
      clear hy cE fE hMy hky hlv
      have hlv := HLV.out
      have hk := HKY.out
      have hle : (loadVar 40 ⟨w.heap.size + 1, 0, none⟩).run Tryz.prog w'' = .ok (.int .i64 0) w'' := by
        simp [loadVar, isAgg, run_underlying Tryz.underlying40, go_sem, cEy]
      simp [Leaves, settle, results, Tryz.results11, asAddr, hlv, hle, hk, Sem.run_bind, Sem.run_pure, Result.andThen]

end Go.Proofs.YtffdaohmalmkfaaGreat
