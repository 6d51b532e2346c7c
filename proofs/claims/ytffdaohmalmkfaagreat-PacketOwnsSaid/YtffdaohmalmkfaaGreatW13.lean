/-
  Contracts and plain laws that the claim's theorem rests on.
-/
import Derived.Test.YtffdaohmalmkfaaGreatW12
import Derived.Deep.WholeRow
set_option linter.unusedSimpArgs false
set_option linter.unusedVariables false
/-
  Packet: the closures that write a field. (Printed by gen_paki.py.)
-/
namespace Go.Proofs.YtffdaohmalmkfaaGreat
open Go.RowKit
set_option linter.unusedVariables false

/-- Function K is entered by a call. -/
def Ent (K : Nat) : Prop := ∀ (args : Array Value) (w : World), (callFunc K args).run Tryz.prog w = .ok (.enter K args) w
/-- Function k finds the cell 'off' of a message. -/
def OfIs (k off : Nat) : Prop := Ent k ∧ ∀ (G : Nat) (w : World), Calls Tryz.prog k #[.pointer (some ⟨G, 0, none⟩)] w fun e w' => e = .returned (.pointer (some ⟨G, off, none⟩)) ∧ w = w'
set_option maxRecDepth 100000 in
theorem of_fields_1 : OfIs 85 1 := by
  refine ⟨fun args w => by go_simp, fun G w => ?_⟩
  go_enter Tryz.func85, Tryz.ntmps85
  go_wp2
  go_ret
  exact ⟨rfl, rfl⟩
set_option maxRecDepth 100000 in
theorem of_fields_2 : OfIs 86 2 := by
  refine ⟨fun args w => by go_simp, fun G w => ?_⟩
  go_enter Tryz.func86, Tryz.ntmps86
  go_wp2
  go_ret
  exact ⟨rfl, rfl⟩
set_option maxRecDepth 100000 in
theorem of_fields_3 : OfIs 87 3 := by
  refine ⟨fun args w => by go_simp, fun G w => ?_⟩
  go_enter Tryz.func87, Tryz.ntmps87
  go_wp2
  go_ret
  exact ⟨rfl, rfl⟩
set_option maxRecDepth 100000 in
theorem of_fields_4 : OfIs 88 4 := by
  refine ⟨fun args w => by go_simp, fun G w => ?_⟩
  go_enter Tryz.func88, Tryz.ntmps88
  go_wp2
  go_ret
  exact ⟨rfl, rfl⟩
set_option maxRecDepth 100000 in
theorem of_fields_5 : OfIs 90 5 := by
  refine ⟨fun args w => by go_simp, fun G w => ?_⟩
  go_enter Tryz.func90, Tryz.ntmps90
  go_wp2
  go_ret
  exact ⟨rfl, rfl⟩
set_option maxRecDepth 100000 in
theorem of_fields_6 : OfIs 91 6 := by
  refine ⟨fun args w => by go_simp, fun G w => ?_⟩
  go_enter Tryz.func91, Tryz.ntmps91
  go_wp2
  go_ret
  exact ⟨rfl, rfl⟩
set_option maxRecDepth 100000 in
theorem of_fields_7 : OfIs 92 7 := by
  refine ⟨fun args w => by go_simp, fun G w => ?_⟩
  go_enter Tryz.func92, Tryz.ntmps92
  go_wp2
  go_ret
  exact ⟨rfl, rfl⟩

/-- What a field's closure writes. -/
def FdW (w : World) (D : Nat) (v m wv : Value) (b : List UInt8) : Prop :=
  ∃ (K : Nat) (caps : Array Value), wv = .func (.func K) #[] caps ∧ Ent K ∧ ∀ (w' : World) (v' : Value) (l : List UInt8), WStep D v w v' w' → Wr w' D v' l → l.length + b.length ≤ 100000000000 → Calls Tryz.prog K (#[.pointer (some ⟨D, 0, none⟩), m] ++ caps) w' (WrOk D v' (l ++ b) w')

theorem WrOk.new {D : Nat} {v : Value} {l : List UInt8} {w w1 w2 : World} {e : Ending} (hk : Kept Kno w w1) (h : WrOk D v l w1 e w2) : WrOk D v l w e w2 := WrOk.after (.new hk) h

set_option maxRecDepth 100000 in
set_option maxHeartbeats 2000000 in
theorem wfNum (D X k off : Nat) (n : Int) (mcs : Array Value) (v : Value) (l : List UInt8) (w : World) (hof : OfIs k off) (hm : mcs[off]? = some (.int .i64 n)) (hn : I64 n) (hX : w.cell? ⟨X, 0, none⟩ = some (.func (.func k) #[] #[])) (h : Wr w D v l) (hl : l.length ≤ 1000000000000) :
    Calls Tryz.prog 149 #[.pointer (some ⟨D, 0, none⟩), .agg mcs, .pointer (some ⟨X, 0, none⟩)] w (WrOk D v (l ++ inum n) w) := by
  have H := Lib.hid h
  have HO := Lib.hid hof.2
  have HN := Lib.hid hn
  have e1 : ∀ (args : Array Value) (w : World), (callFunc k args).run Tryz.prog w = .ok (.enter k args) w := hof.1
  have hkA : Kept Kno w (w.alloc (.cells mcs 36)) := (Kept.refl _ _).alloc _
  have hXA := hkA.cell_some hX (fun h => h)
  have hc : (w.alloc (.cells mcs 36)).cell? ⟨w.heap.size, off, none⟩ = some (.int .i64 n) := ((Blk.new w 36 mcs).cell off).trans hm
  have HK := Lib.hid hkA
  clear h hof hn hkA hX
  go_enter Tryz.func149, Tryz.ntmps149
  go_wp2_with fail
  refine (HO.out _ _).mono ?_
  rintro e w1 ⟨rfl, rfl⟩
  go_wp2_with fail
  refine (wnumber_any D v l n _ (H.out.kept HK.out) HN.out hl).mono ?_
  rintro e w2 ⟨v2, rfl, hw2, hs2⟩
  have HX := Lib.hid (WrOk.new HK.out ⟨v2, rfl, hw2, hs2⟩)
  clear hw2 hs2
  go_wp2
  go_end0
  exact HX.out

end Go.Proofs.YtffdaohmalmkfaaGreat
/-
  Packet: Encode, for any list of fields.
-/
namespace Go.Proofs.YtffdaohmalmkfaaGreat
open Go.RowKit
set_option linter.unusedVariables false

/-- The bytes of a message come back, or it is too long. -/
def EncOk (M : List UInt8) (w : World) (e : Ending) (w' : World) : Prop :=
  Kept Kno w w' ∧ if M.length ≤ 65536 then ∃ A cap, e = .returned (.tuple #[.slice A M.length cap, .int .i64 0]) ∧ OwnB w' w.heap.size 5 (.slice A M.length cap) M
    else e = .returned (.tuple #[.slice none 0 0, .int .i64 2])

def EncRel (D n : Nat) (v : Value) (pre : List UInt8) (bs : List (List UInt8)) (w : World) (i : Value) (wr : World) : Prop :=
  ∃ (k : Nat) (v' : Value), k ≤ n ∧ i = .int .i64 k ∧ Wr wr D v' (pre ++ (bs.take k).flatten) ∧ WStep D v w v' wr

theorem fpairs_get (ps : List (Value × Value)) (k : Nat) (p : Value × Value) (h : ps[k]? = some p) : (fpairs ps)[k * 2]? = some p.1 ∧ (fpairs ps)[k * 2 + 1]? = some p.2 := by
  induction ps generalizing k with
  | nil => simp at h
  | cons q ps ih =>
    cases k with
    | zero => simp at h; subst h; simp [fpairs, fpair]
    | succ k =>
      have h2 := ih k (by simpa using h)
      have e : fpairs (q :: ps) = q.1 :: q.2 :: fpairs ps := rfl
      have e1 : (k + 1) * 2 = k * 2 + 1 + 1 := by omega
      have e2 : (k + 1) * 2 + 1 = k * 2 + 1 + 1 + 1 := by omega
      rw [e, e1]
      simpa using h2
theorem FdIn.form {w : World} {base : Nat} {f : Fd} {p : Value × Value} (h : FdIn w base f p) : ∃ caps, p.1 = .func (.func f.wf) #[] caps ∧ p.2 = .func (.func f.rf) #[] caps := by
  obtain ⟨wf, rf, o⟩ := f
  cases o with
  | none => simp only [FdIn] at h; subst h; exact ⟨_, rfl, rfl⟩
  | some o => obtain ⟨X, h1, h2, h3⟩ := h; subst h2; exact ⟨_, rfl, rfl⟩
theorem flatten_take_le (bs : List (List UInt8)) (k : Nat) : ((bs.take k).flatten).length ≤ bs.flatten.length := by
  induction bs generalizing k with
  | nil => simp
  | cons b bs ih =>
    cases k with
    | zero => simp
    | succ k => have := ih k; simp only [List.take_succ_cons, List.flatten_cons, List.length_append]; omega

set_option maxRecDepth 100000 in
set_option maxHeartbeats 4000000 in
theorem encode_ok (kind : Int) (mcs : Array Value) (fs : List Fd) (bs : List (List UInt8)) (w : World) (hms : mcs.size = 31) (hk0 : mcs[0]? = some (.int .i64 kind)) (hki : I64 kind) (hn : bs.length = fs.length)
    (hvalid : ∀ w', Kept Kno w w' → Calls Tryz.prog 34 #[.agg mcs] w' (RetBool true w'))
    (hfields : ∀ w', Calls Tryz.prog 36 #[.int .i64 kind] w' (FsRet fs w'))
    (hfd : ∀ (w1 : World) (D base : Nat) (v : Value) (l : List UInt8), Old w.heap.size w w1 → w.heap.size ≤ D → Wr w1 D v l → (∀ k, Kw D v k → k < base) → ∀ (i : Nat) (f : Fd) (p : Value × Value) (b : List UInt8), fs[i]? = some f → bs[i]? = some b → FdIn w1 base f p → FdW w1 D v (.agg mcs) p.1 b)
    (hl : bs.flatten.length ≤ 1000000000) (hfl : fs.length ≤ 100) :
    Calls Tryz.prog 9 #[.agg mcs] w (EncOk (inum kind ++ bs.flatten) w) := by
  have HV := Lib.hid hvalid
  have HFS := Lib.hid hfields
  have HFD := Lib.hid hfd
  have HKI := Lib.hid hki
  have HN := Lib.hid hn
  have hsz : (Tryz.prog.info? 36).map (·.size) = some mcs.size := by rw [hms]; kernel_rfl
  have HSZ := Lib.hid hsz
  have HK0 := Lib.hid hk0
  clear hvalid hfields hfd hki hn hsz hms hk0
  go_enter Tryz.func9, Tryz.ntmps9
  go_wp2_with (refine wpList_load_row rfl 36 (.tmp 1) rfl w.heap.size rfl 36 mcs (0, 0) _ (Blk.new w _ _) Tryz.underlying36 rfl HSZ.out ?_)
  obtain ⟨wA, hA⟩ : ∃ wA, wA = w.alloc (.cells mcs 36) := ⟨_, rfl⟩
  rw [← hA]
  have hkA : Kept Kno w wA := by rw [hA]; exact (Kept.refl _ _).alloc _
  have hBA : Blk wA w.heap.size 36 mcs := by rw [hA]; exact Blk.new _ _ _
  have HBA := Lib.hid hBA
  have HKA := Lib.hid hkA
  clear hA hBA hkA
  refine (HV.out wA HKA.out).mono ?_
  rintro e w0 ⟨rfl, hkV⟩
  have HB0 := Lib.hid (HBA.out.kept hkV (fun h => h))
  have HK0' := Lib.hid (HKA.out.then0 hkV)
  clear hkV HBA HKA
  obtain ⟨wD, hD⟩ : ∃ wD, wD = w0.alloc (.cells #[.slice none 0 0] 104) := ⟨_, rfl⟩
  have hkD : Kept Kno w0 wD := by rw [hD]; exact (Kept.refl _ _).alloc _
  have hWD : Wr wD w0.heap.size (.slice none 0 0) [] := ⟨by rw [hD]; exact Blk.new _ _ _, World.ownsRow_nil _ _ _ _⟩
  have hlow : w.heap.size ≤ w0.heap.size := HK0'.out.size
  have hltB : w.heap.size < w0.heap.size := HB0.out.lt
  have k0 : wD.cell? ⟨w.heap.size, 0, none⟩ = some (.int .i64 kind) := hkD.cell_some ((HB0.out.cell 0).trans HK0.out) (fun h => h)
  rw [hD] at k0
  have HBD := Lib.hid (HB0.out.kept hkD (fun h => h))
  have HKD := Lib.hid (HK0'.out.then0 hkD)
  have HWD := Lib.hid hWD
  have HD := Lib.hid hD
  clear hkD hWD hD HB0 HK0'
  go_wp2_with fail
  rw [← HD.out]
  rw [← HD.out] at k0
  have hm1 : ([] : List UInt8).length ≤ 1000000000000 := by simp
  refine (wnumber_any w0.heap.size _ [] kind wD HWD.out HKI.out hm1).mono ?_
  rintro e w1 ⟨v1, rfl, hw1, hs1⟩
  have hb1 : Blk w1 w.heap.size 36 mcs := HBD.out.kept hs1.k (fun hk => by have := HWD.out.low hk; omega)
  have k1 : w1.cell? ⟨w.heap.size, 0, none⟩ = some (.int .i64 kind) := (hb1.cell 0).trans HK0.out
  have hkw1 : Kept Kno w w1 := HKD.out.trans hs1.k (fun i hi hk => by have := HWD.out.low hk; omega)
  have HB1 := Lib.hid hb1
  have HW1 : Hid (Wr w1 w0.heap.size v1 (inum kind)) := Lib.hid hw1
  have HK1 := Lib.hid hkw1
  clear hw1 hs1 hb1 hkw1 k0 HBD HKD HWD HD hm1
  go_wp2_with fail
  refine (HFS.out w1).mono ?_
  rintro e w2 ⟨s, rfl, hF, hk2⟩
  obtain ⟨ps, hp1, hp2, hp3⟩ := hF
  have hkw2 := HK1.out.then0 hk2
  have HB2 := Lib.hid (HB1.out.kept hk2 (fun h => h))
  have HW2 := Lib.hid (HW1.out.kept hk2)
  have HK2 := Lib.hid hkw2
  have HP1 := Lib.hid hp1
  have HFN : Hid (∀ (i : Nat) (f : Fd) (p : Value × Value) (b : List UInt8), fs[i]? = some f → bs[i]? = some b → ps[i]? = some p → FdW w2 w0.heap.size v1 (.agg mcs) p.1 b ∧ ∃ caps, p.1 = .func (.func f.wf) #[] caps ∧ p.2 = .func (.func f.rf) #[] caps) := Lib.hid (by
    intro i f p b h1 h2 h3
    have hfi := hp3 i f p h1 h3
    exact ⟨HFD.out w2 w0.heap.size w1.heap.size v1 (inum kind) (hkw2.old (Nat.le_refl _) (fun _ _ h => h)) hlow HW2.out (fun k hk => HW1.out.hi hk) i f p b h1 h2 hfi, hfi.form⟩)
  have HGF : Hid (∀ g cap, s = .slice (some ⟨g, 0, none⟩) fs.length cap → ¬ Kw w0.heap.size v1 g ∧ g < w2.heap.size ∧ g ≠ w.heap.size) := Lib.hid (by
    intro g cap he
    have h1 := own_base hp2 (k := g) (by rw [he]; rfl)
    refine ⟨fun hk => ?_, h1.2, ?_⟩
    · have := HW1.out.hi hk
      omega
    · have := HB1.out.lt
      omega)
  have HP2 := Lib.hid hp2
  obtain ⟨As, cs, rfl⟩ := own_form hp2
  have hcs : fs.length ≤ cs ∧ cs ≤ 9223372036854775807 := by
    rcases hp2.2 with ⟨hn, h0⟩ | ⟨g, cap, cur, hv, _, _, hc1, hc2, _⟩
    · injection hn with _ _ h3
      omega
    · injection hv with _ _ h3
      simp only [maxLen] at hc2
      omega
  obtain ⟨hcs1, hcs2⟩ := hcs
  clear hp1 hp2 hp3 hk2 hkw2 k1 HFD HB1 HK1
  go_wp2_with fail
  go_loopw [17] (fun i wr => EncRel w0.heap.size fs.length v1 (inum kind) bs w2 i wr) (fun i _ => fs.length - (intOf i).toNat)
  case atStart => exact ⟨0, v1, Nat.zero_le _, rfl, by simpa using HW2.out, WStep.refl _ _ _⟩
  case round =>
    obtain ⟨k, v', hk, rfl, hwr, hsr⟩ := hrel
    have HWR := Lib.hid hwr
    have HSR := Lib.hid hsr
    clear hwr hsr
    by_cases hlt : k < fs.length
    · obtain ⟨f, hf⟩ : ∃ f, fs[k]? = some f := ⟨_, List.getElem?_eq_getElem hlt⟩
      obtain ⟨b, hb⟩ : ∃ b, bs[k]? = some b := ⟨_, List.getElem?_eq_getElem (by rw [HN.out]; exact hlt)⟩
      obtain ⟨p, hp⟩ : ∃ p, ps[k]? = some p := ⟨_, List.getElem?_eq_getElem (by rw [HP1.out]; exact hlt)⟩
      obtain ⟨hFW, caps, hpc1, hpc2⟩ := HFN.out k f p b hf hb hp
      obtain ⟨K, caps', hK1, hK2, hK3⟩ := hFW
      rw [hpc1] at hK1
      injection hK1 with e1 e2 e3
      injection e1 with e1
      subst e1 e3
      obtain ⟨g, cap', hAs⟩ : ∃ g cap', (Value.slice As fs.length cs) = .slice (some ⟨g, 0, none⟩) fs.length cap' := by
        rcases HP2.out.2 with ⟨hn, h0⟩ | ⟨g, cap, cur, hv, _⟩
        · omega
        · exact ⟨g, cap, hv⟩
      obtain ⟨hg1, hg2, hg3⟩ := HGF.out g cap' hAs
      injection hAs with hAs1 _ hAs2
      subst hAs1 hAs2
      have hcell := fun j (hj : j < fs.length * 2) => World.ownsRow.cellAt HP2.out j hj
      obtain ⟨hq1, hq2⟩ := fpairs_get ps k p hp
      have c0 : wr.cell? ⟨g, k * 2, none⟩ = some (.func (.func f.wf) #[] caps) := HSR.out.k.cell_some (p := ⟨g, k * 2, none⟩) ((hcell (k * 2) (by omega)).trans (by rw [hq1, hpc1])) hg1
      have c1 : wr.cell? ⟨g, k * 2 + 1, none⟩ = some (.func (.func f.rf) #[] caps) := HSR.out.k.cell_some (p := ⟨g, k * 2 + 1, none⟩) ((hcell (k * 2 + 1) (by omega)).trans (by rw [hq2, hpc2])) hg1
      have hbr : Blk wr w.heap.size 36 mcs := HB2.out.kept HSR.out.k (fun hk => by have := HW2.out.low hk; omega)
      have e1 : ∀ (args : Array Value) (w : World), (callFunc f.wf args).run Tryz.prog w = .ok (.enter f.wf args) w := hK2
      have HK3 := Lib.hid hK3
      have HBR := Lib.hid hbr
      have HB := Lib.hid hb
      have hk0 : (0 : Int) ≤ (k : Int) := by omega
      have hk9 : (k : Int) < (fs.length : Int) := by omega
      clear hcell hq1 hq2 hpc1 hpc2 hK2 hK3 hbr hf hb hp e2
      generalize f.wf = K1 at c0 e1 HK3 ⊢
      generalize f.rf = K2 at c1 ⊢
      go_wp2_with (refine wpList_load_row rfl 36 (.tmp 1) rfl w.heap.size rfl 36 mcs (0, 0) _ (HBR.out.alloc _) Tryz.underlying36 rfl HSZ.out ?_)
      have hkq : Kept Kno wr (wr.alloc (.cells #[.func (.func K1) #[] caps, .func (.func K2) #[] caps] 111)) := (Kept.refl _ _).alloc _
      have hll : (inum kind ++ (bs.take k).flatten).length + b.length ≤ 100000000000 := by
        have h1 := flatten_take_le bs (k + 1)
        rw [List.take_add_one, HB.out] at h1
        simp only [Option.toList_some, List.flatten_append, List.flatten_cons, List.flatten_nil, List.append_nil, List.length_append] at h1
        have h2 := (inum_length kind).2
        rw [List.length_append]
        omega
      refine (HK3.out _ v' _ (HSR.out.then0 hkq) (HWR.out.kept hkq) hll).mono ?_
      rintro e w3 ⟨v3, rfl, hw3, hs3⟩
      have HW3 := Lib.hid hw3
      have HS3 := Lib.hid ((HSR.out.then0 hkq).trans hs3)
      clear hw3 hs3 hkq hll c0 c1 e1 HK3
      go_wp2
      go_roundw
      case rel =>
        refine ⟨k + 1, v3, by omega, by go_num, ?_, HS3.out⟩
        rw [List.take_add_one, HB.out]
        have := HW3.out
        simpa using this
      case measure => simp [intOf]; omega
    · have hk9 : ¬ (k : Int) < (fs.length : Int) := by omega
      have hM : inum kind ++ (bs.take k).flatten = inum kind ++ bs.flatten := by rw [List.take_of_length_le (by have := HN.out; omega)]
      rw [hM] at HWR
      clear hM
      have hkw : Kept Kno w wr := HK2.out.trans HSR.out.k (fun i hi hk => by have := HW2.out.low hk; omega)
      have HKW := Lib.hid hkw
      obtain ⟨M, hM⟩ : ∃ M, M = inum kind ++ bs.flatten := ⟨_, rfl⟩
      have hMl : M.length ≤ 1000000100 := by
        have h2 := (inum_length kind).2
        rw [hM, List.length_append]
        omega
      rw [← hM] at HWR
      have HM := Lib.hid hM
      obtain ⟨Av, cv, rfl⟩ := HWR.out.form
      have c0 : wr.cell? ⟨w0.heap.size, 0, none⟩ = some (.slice Av M.length cv) := HWR.out.blk.cell 0
      clear hkw hM
      by_cases h65 : M.length ≤ 65536
      · have h65' : ¬ (65536 : Int) < (M.length : Int) := by omega
        have hx : EncOk M w (.returned (.tuple #[.slice Av M.length cv, .int .i64 0])) wr := ⟨HKW.out, by rw [if_pos h65]; exact ⟨_, _, rfl, own_rebase HWR.out.own (fun k hk => by have := (own_base HWR.out.own hk).1; omega)⟩⟩
        have HX := Lib.hid hx
        clear hx h65
        go_wp2
        go_ret2
        rw [← HM.out]
        exact HX.out
      · have h65' : (65536 : Int) < (M.length : Int) := by omega
        have hx : EncOk M w (.returned (.tuple #[.slice none 0 0, .int .i64 2])) wr := ⟨HKW.out, by rw [if_neg h65]⟩
        have HX := Lib.hid hx
        clear hx h65
        go_wp2
        go_ret2
        rw [← HM.out]
        exact HX.out

theorem bad_load (m : Array Value) (h : m.size = 31) : (Tryz.prog.info? 36).map (·.size) = some m.size := by rw [h]; kernel_rfl

end Go.Proofs.YtffdaohmalmkfaaGreat
