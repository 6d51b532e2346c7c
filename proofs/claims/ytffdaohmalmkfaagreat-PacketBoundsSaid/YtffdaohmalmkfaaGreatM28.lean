/-
  Contracts and plain laws that the claim's theorem rests on, some texts in one file.
-/
import Derived.Test.YtffdaohmalmkfaaGreatM27
/-
  Packet: Encode, for any list of fields.
-/
namespace Go.Proofs.YtffdaohmalmkfaaGreat
open Go.RowKit
set_option linter.unusedVariables false

/-- The bytes of a message come back, or it is too long. -/
def EncOk (M : List UInt8) (w : World) (e : Ending) (w' : World) : Prop :=
  Kept Kno w w' ∧ if M.length ≤ 65536 then ∃ A cap, e = .returned (.tuple #[.slice A M.length cap, .int .i64 0]) ∧ OwnB w' w.heap.size 5 (.slice A M.length cap) M
    else e = .returned (.tuple #[.slice none 0 0, .int .i64 2])

def EncRel (D n : Nat) (v : Value) (pre : List UInt8) (bs : List (List UInt8)) (w : World) (i : Value) (wr : World) : Prop :=
  ∃ (k : Nat) (v' : Value), k ≤ n ∧ i = .int .i64 k ∧ Wr wr D v' (pre ++ (bs.take k).flatten) ∧ WStep D v w v' wr

theorem fpairs_get (ps : List (Value × Value)) (k : Nat) (p : Value × Value) (h : ps[k]? = some p) : (fpairs ps)[k * 2]? = some p.1 ∧ (fpairs ps)[k * 2 + 1]? = some p.2 := by
  induction ps generalizing k with
  | nil => simp at h
  | cons q ps ih =>
    cases k with
    | zero => simp at h; subst h; simp [fpairs, fpair]
    | succ k =>
      have h2 := ih k (by simpa using h)
      have e : fpairs (q :: ps) = q.1 :: q.2 :: fpairs ps := rfl
      have e1 : (k + 1) * 2 = k * 2 + 1 + 1 := by omega
      have e2 : (k + 1) * 2 + 1 = k * 2 + 1 + 1 + 1 := by omega
      rw [e, e1]
      simpa using h2
theorem FdIn.form {w : World} {base : Nat} {f : Fd} {p : Value × Value} (h : FdIn w base f p) : ∃ caps, p.1 = .func (.func f.wf) #[] caps ∧ p.2 = .func (.func f.rf) #[] caps := by
  obtain ⟨wf, rf, o⟩ := f
  cases o with
  | none => simp only [FdIn] at h; subst h; exact ⟨_, rfl, rfl⟩
  | some o => obtain ⟨X, h1, h2, h3⟩ := h; subst h2; exact ⟨_, rfl, rfl⟩
theorem flatten_take_le (bs : List (List UInt8)) (k : Nat) : ((bs.take k).flatten).length ≤ bs.flatten.length := by
  induction bs generalizing k with
  | nil => simp
  | cons b bs ih =>
    cases k with
    | zero => simp
    | succ k => have := ih k; simp only [List.take_succ_cons, List.flatten_cons, List.length_append]; omega

set_option maxRecDepth 100000 in
set_option maxHeartbeats 4000000 in
theorem encode_ok (kind : Int) (mcs : Array Value) (fs : List Fd) (bs : List (List UInt8)) (w : World) (hms : mcs.size = 31) (hk0 : mcs[0]? = some (.int .i64 kind)) (hki : I64 kind) (hn : bs.length = fs.length)
    (hvalid : ∀ w', Kept Kno w w' → Calls Tryz.prog 34 #[.agg mcs] w' (RetBool true w'))
    (hfields : ∀ w', Calls Tryz.prog 36 #[.int .i64 kind] w' (FsRet fs w'))
    (hfd : ∀ (w1 : World) (D base : Nat) (v : Value) (l : List UInt8), Old w.heap.size w w1 → w.heap.size ≤ D → Wr w1 D v l → (∀ k, Kw D v k → k < base) → ∀ (i : Nat) (f : Fd) (p : Value × Value) (b : List UInt8), fs[i]? = some f → bs[i]? = some b → FdIn w1 base f p → FdW w1 D v (.agg mcs) p.1 b)
    (hl : bs.flatten.length ≤ 1000000000) (hfl : fs.length ≤ 100) :
    Calls Tryz.prog 9 #[.agg mcs] w (EncOk (inum kind ++ bs.flatten) w) := by
  have HV := Lib.hid hvalid
  have HFS := Lib.hid hfields
  have HFD := Lib.hid hfd
  have HKI := Lib.hid hki
  have HN := Lib.hid hn
  have hsz : (Tryz.prog.info? 36).map (·.size) = some mcs.size := by rw [hms]; kernel_rfl
  have HSZ := Lib.hid hsz
  have HK0 := Lib.hid hk0
  clear hvalid hfields hfd hki hn hsz hms hk0
  go_enter Tryz.func9, Tryz.ntmps9
  go_wp2_with (refine wpList_load_row rfl 36 (.tmp 1) rfl w.heap.size rfl 36 mcs (0, 0) _ (Blk.new w _ _) Tryz.underlying36 rfl HSZ.out ?_)
  obtain ⟨wA, hA⟩ : ∃ wA, wA = w.alloc (.cells mcs 36) := ⟨_, rfl⟩
  rw [← hA]
  have hkA : Kept Kno w wA := by rw [hA]; exact (Kept.refl _ _).alloc _
  have hBA : Blk wA w.heap.size 36 mcs := by rw [hA]; exact Blk.new _ _ _
  have HBA := Lib.hid hBA
  have HKA := Lib.hid hkA
  clear hA hBA hkA
  refine (HV.out wA HKA.out).mono ?_
  rintro e w0 ⟨rfl, hkV⟩
  have HB0 := Lib.hid (HBA.out.kept hkV (fun h => h))
  have HK0' := Lib.hid (HKA.out.then0 hkV)
  clear hkV HBA HKA
  obtain ⟨wD, hD⟩ : ∃ wD, wD = w0.alloc (.cells #[.slice none 0 0] 104) := ⟨_, rfl⟩
  have hkD : Kept Kno w0 wD := by rw [hD]; exact (Kept.refl _ _).alloc _
  have hWD : Wr wD w0.heap.size (.slice none 0 0) [] := ⟨by rw [hD]; exact Blk.new _ _ _, World.ownsRow_nil _ _ _ _⟩
  have hlow : w.heap.size ≤ w0.heap.size := HK0'.out.size
  have hltB : w.heap.size < w0.heap.size := HB0.out.lt
  have k0 : wD.cell? ⟨w.heap.size, 0, none⟩ = some (.int .i64 kind) := hkD.cell_some ((HB0.out.cell 0).trans HK0.out) (fun h => h)
  rw [hD] at k0
  have HBD := Lib.hid (HB0.out.kept hkD (fun h => h))
  have HKD := Lib.hid (HK0'.out.then0 hkD)
  have HWD := Lib.hid hWD
  have HD := Lib.hid hD
  clear hkD hWD hD HB0 HK0'
  go_wp2_with fail
  rw [← HD.out]
  rw [← HD.out] at k0
  have hm1 : ([] : List UInt8).length ≤ 1000000000000 := by simp
  refine (wnumber_any w0.heap.size _ [] kind wD HWD.out HKI.out hm1).mono ?_
  rintro e w1 ⟨v1, rfl, hw1, hs1⟩
  have hb1 : Blk w1 w.heap.size 36 mcs := HBD.out.kept hs1.k (fun hk => by have := HWD.out.low hk; omega)
  have k1 : w1.cell? ⟨w.heap.size, 0, none⟩ = some (.int .i64 kind) := (hb1.cell 0).trans HK0.out
  have hkw1 : Kept Kno w w1 := HKD.out.trans hs1.k (fun i hi hk => by have := HWD.out.low hk; omega)
  have HB1 := Lib.hid hb1
  have HW1 : Hid (Wr w1 w0.heap.size v1 (inum kind)) := Lib.hid hw1
  have HK1 := Lib.hid hkw1
  clear hw1 hs1 hb1 hkw1 k0 HBD HKD HWD HD hm1
  go_wp2_with fail
  refine (HFS.out w1).mono ?_
  rintro e w2 ⟨s, rfl, hF, hk2⟩
  obtain ⟨ps, hp1, hp2, hp3⟩ := hF
  have hkw2 := HK1.out.then0 hk2
  have HB2 := Lib.hid (HB1.out.kept hk2 (fun h => h))
  have HW2 := Lib.hid (HW1.out.kept hk2)
  have HK2 := Lib.hid hkw2
  have HP1 := Lib.hid hp1
  have HFN : Hid (∀ (i : Nat) (f : Fd) (p : Value × Value) (b : List UInt8), fs[i]? = some f → bs[i]? = some b → ps[i]? = some p → FdW w2 w0.heap.size v1 (.agg mcs) p.1 b ∧ ∃ caps, p.1 = .func (.func f.wf) #[] caps ∧ p.2 = .func (.func f.rf) #[] caps) := Lib.hid (by
    intro i f p b h1 h2 h3
    have hfi := hp3 i f p h1 h3
    exact ⟨HFD.out w2 w0.heap.size w1.heap.size v1 (inum kind) (hkw2.old (Nat.le_refl _) (fun _ _ h => h)) hlow HW2.out (fun k hk => HW1.out.hi hk) i f p b h1 h2 hfi, hfi.form⟩)
  have HGF : Hid (∀ g cap, s = .slice (some ⟨g, 0, none⟩) fs.length cap → ¬ Kw w0.heap.size v1 g ∧ g < w2.heap.size ∧ g ≠ w.heap.size) := Lib.hid (by
    intro g cap he
    have h1 := own_base hp2 (k := g) (by rw [he]; rfl)
    refine ⟨fun hk => ?_, h1.2, ?_⟩
    · have := HW1.out.hi hk
      omega
    · have := HB1.out.lt
      omega)
  have HP2 := Lib.hid hp2
  obtain ⟨As, cs, rfl⟩ := own_form hp2
  have hcs : fs.length ≤ cs ∧ cs ≤ 9223372036854775807 := by
    rcases hp2.2 with ⟨hn, h0⟩ | ⟨g, cap, cur, hv, _, _, hc1, hc2, _⟩
    · injection hn with _ _ h3
      omega
    · injection hv with _ _ h3
      simp only [maxLen] at hc2
      omega
  obtain ⟨hcs1, hcs2⟩ := hcs
  clear hp1 hp2 hp3 hk2 hkw2 k1 HFD HB1 HK1
  go_wp2_with fail
  go_loopw [17] (fun i wr => EncRel w0.heap.size fs.length v1 (inum kind) bs w2 i wr) (fun i _ => fs.length - (intOf i).toNat)
  case atStart => exact ⟨0, v1, Nat.zero_le _, rfl, by simpa using HW2.out, WStep.refl _ _ _⟩
  case round =>
    obtain ⟨k, v', hk, rfl, hwr, hsr⟩ := hrel
    have HWR := Lib.hid hwr
    have HSR := Lib.hid hsr
    clear hwr hsr
    by_cases hlt : k < fs.length
    · obtain ⟨f, hf⟩ : ∃ f, fs[k]? = some f := ⟨_, List.getElem?_eq_getElem hlt⟩
      obtain ⟨b, hb⟩ : ∃ b, bs[k]? = some b := ⟨_, List.getElem?_eq_getElem (by rw [HN.out]; exact hlt)⟩
      obtain ⟨p, hp⟩ : ∃ p, ps[k]? = some p := ⟨_, List.getElem?_eq_getElem (by rw [HP1.out]; exact hlt)⟩
      obtain ⟨hFW, caps, hpc1, hpc2⟩ := HFN.out k f p b hf hb hp
      obtain ⟨K, caps', hK1, hK2, hK3⟩ := hFW
      rw [hpc1] at hK1
      injection hK1 with e1 e2 e3
      injection e1 with e1
      subst e1 e3
      obtain ⟨g, cap', hAs⟩ : ∃ g cap', (Value.slice As fs.length cs) = .slice (some ⟨g, 0, none⟩) fs.length cap' := by
        rcases HP2.out.2 with ⟨hn, h0⟩ | ⟨g, cap, cur, hv, _⟩
        · omega
        · exact ⟨g, cap, hv⟩
      obtain ⟨hg1, hg2, hg3⟩ := HGF.out g cap' hAs
      injection hAs with hAs1 _ hAs2
      subst hAs1 hAs2
      have hcell := fun j (hj : j < fs.length * 2) => World.ownsRow.cellAt HP2.out j hj
      obtain ⟨hq1, hq2⟩ := fpairs_get ps k p hp
      have c0 : wr.cell? ⟨g, k * 2, none⟩ = some (.func (.func f.wf) #[] caps) := HSR.out.k.cell_some (p := ⟨g, k * 2, none⟩) ((hcell (k * 2) (by omega)).trans (by rw [hq1, hpc1])) hg1
      have c1 : wr.cell? ⟨g, k * 2 + 1, none⟩ = some (.func (.func f.rf) #[] caps) := HSR.out.k.cell_some (p := ⟨g, k * 2 + 1, none⟩) ((hcell (k * 2 + 1) (by omega)).trans (by rw [hq2, hpc2])) hg1
      have hbr : Blk wr w.heap.size 36 mcs := HB2.out.kept HSR.out.k (fun hk => by have := HW2.out.low hk; omega)
      have e1 : ∀ (args : Array Value) (w : World), (callFunc f.wf args).run Tryz.prog w = .ok (.enter f.wf args) w := hK2
      have HK3 := Lib.hid hK3
      have HBR := Lib.hid hbr
      have HB := Lib.hid hb
      have hk0 : (0 : Int) ≤ (k : Int) := by omega
      have hk9 : (k : Int) < (fs.length : Int) := by omega
      clear hcell hq1 hq2 hpc1 hpc2 hK2 hK3 hbr hf hb hp e2
      generalize f.wf = K1 at c0 e1 HK3 ⊢
      generalize f.rf = K2 at c1 ⊢
      go_wp2_with (refine wpList_load_row rfl 36 (.tmp 1) rfl w.heap.size rfl 36 mcs (0, 0) _ (HBR.out.alloc _) Tryz.underlying36 rfl HSZ.out ?_)
      have hkq : Kept Kno wr (wr.alloc (.cells #[.func (.func K1) #[] caps, .func (.func K2) #[] caps] 111)) := (Kept.refl _ _).alloc _
      have hll : (inum kind ++ (bs.take k).flatten).length + b.length ≤ 100000000000 := by
        have h1 := flatten_take_le bs (k + 1)
        rw [List.take_add_one, HB.out] at h1
        simp only [Option.toList_some, List.flatten_append, List.flatten_cons, List.flatten_nil, List.append_nil, List.length_append] at h1
        have h2 := (inum_length kind).2
        rw [List.length_append]
        omega
      refine (HK3.out _ v' _ (HSR.out.then0 hkq) (HWR.out.kept hkq) hll).mono ?_
      rintro e w3 ⟨v3, rfl, hw3, hs3⟩
      have HW3 := Lib.hid hw3
      have HS3 := Lib.hid ((HSR.out.then0 hkq).trans hs3)
      clear hw3 hs3 hkq hll c0 c1 e1 HK3
      go_wp2
      go_roundw
      case rel =>
        refine ⟨k + 1, v3, by omega, by go_num, ?_, HS3.out⟩
        rw [List.take_add_one, HB.out]
        have := HW3.out
        simpa using this
      case measure => simp [intOf]; omega
    · have hk9 : ¬ (k : Int) < (fs.length : Int) := by omega
      have hM : inum kind ++ (bs.take k).flatten = inum kind ++ bs.flatten := by rw [List.take_of_length_le (by have := HN.out; omega)]
      rw [hM] at HWR
      clear hM
      have hkw : Kept Kno w wr := HK2.out.trans HSR.out.k (fun i hi hk => by have := HW2.out.low hk; omega)
      have HKW := Lib.hid hkw
      obtain ⟨M, hM⟩ : ∃ M, M = inum kind ++ bs.flatten := ⟨_, rfl⟩
      have hMl : M.length ≤ 1000000100 := by
        have h2 := (inum_length kind).2
        rw [hM, List.length_append]
        omega
      rw [← hM] at HWR
      have HM := Lib.hid hM
      obtain ⟨Av, cv, rfl⟩ := HWR.out.form
      have c0 : wr.cell? ⟨w0.heap.size, 0, none⟩ = some (.slice Av M.length cv) := HWR.out.blk.cell 0
      clear hkw hM
      by_cases h65 : M.length ≤ 65536
      · have h65' : ¬ (65536 : Int) < (M.length : Int) := by omega
        have hx : EncOk M w (.returned (.tuple #[.slice Av M.length cv, .int .i64 0])) wr := ⟨HKW.out, by rw [if_pos h65]; exact ⟨_, _, rfl, own_rebase HWR.out.own (fun k hk => by have := (own_base HWR.out.own hk).1; omega)⟩⟩
        have HX := Lib.hid hx
        clear hx h65
        go_wp2
        go_ret2
        rw [← HM.out]
        exact HX.out
      · have h65' : (65536 : Int) < (M.length : Int) := by omega
        have hx : EncOk M w (.returned (.tuple #[.slice none 0 0, .int .i64 2])) wr := ⟨HKW.out, by rw [if_neg h65]⟩
        have HX := Lib.hid hx
        clear hx h65
        go_wp2
        go_ret2
        rw [← HM.out]
        exact HX.out

theorem bad_load (m : Array Value) (h : m.size = 31) : (Tryz.prog.info? 36).map (·.size) = some m.size := by rw [h]; kernel_rfl

set_option maxRecDepth 100000 in
set_option maxHeartbeats 1000000 in
theorem encode_bad (mcs : Array Value) (w : World) (hms : mcs.size = 31)
    (hvalid : ∀ w', Kept Kno w w' → Calls Tryz.prog 34 #[.agg mcs] w' (RetBool false w')) :
    Calls Tryz.prog 9 #[.agg mcs] w fun e w' => e = .returned (.tuple #[.slice none 0 0, .int .i64 300]) ∧ Kept Kno w w' := by
  have HV := Lib.hid hvalid
  have HSZ := Lib.hid (bad_load mcs hms)
  clear hvalid hms
  go_enter Tryz.func9, Tryz.ntmps9
  go_wp2_with (refine wpList_load_row rfl 36 (.tmp 1) rfl w.heap.size rfl 36 mcs (0, 0) _ (Blk.new w _ _) Tryz.underlying36 rfl HSZ.out ?_)
  have hkA : Kept Kno w (w.alloc (.cells mcs 36)) := (Kept.refl _ _).alloc _
  refine (HV.out _ hkA).mono ?_
  rintro e w0 ⟨rfl, hkV⟩
  have HK := Lib.hid (hkA.then0 hkV)
  clear hkA hkV
  go_wp2
  go_ret2
  exact ⟨rfl, HK.out⟩

end Go.Proofs.YtffdaohmalmkfaaGreat
/-
  Packet: valid, as a whole, at a sync and at a verdict. (Printed by gen_pakr.py.)
-/
namespace Go.Proofs.YtffdaohmalmkfaaGreat
open Go.RowKit
set_option linter.unusedVariables false

section
variable {P : Program}
theorem wpList_load_rowW {ops : Array Oper} {rest : List Oper} {o : Oper} {a : Act} {w : World} {Q : Exit → Act → World → Prop} (hgd : Region.wanted o (yielded ops a.tmps) = true) (ty : TypeId) (x : Operand) (ho : o.op = .load ty x)
    (g : Nat) (hx : a.eval x = .pointer (some ⟨g, 0, none⟩)) (t : TypeId) (cs : Array Value) (fr : Nat × Nat) (d : TypeDesc) (hg : w.heap[g]? = some (.cells cs t fr))
    (hu : P.underlying ty = some d) (hd : (match d with | .struct _ | .array _ _ => true | _ => false) = true) (hi : (P.info? ty).map (·.size) = some cs.size)
    (h : wpList P ops Q rest (a.put o.dst (.agg cs)) w) : wpList P ops Q (o :: rest) a w :=
  BigFrame.wpList_want hgd fun _ hK => wp_load_row ty x ho g hx t cs fr d hg hu hd hi (hK _ _ h)
end

theorem wB_lo {d a b : Int} (h : d < a) : wB d a b = false := by unfold wB; rw [decide_eq_false (by omega)]; rfl
theorem wB_hi {d a b : Int} (h : b < d) : wB d a b = false := by unfold wB; rw [decide_eq_false (p := d ≤ b) (by omega)]; simp
theorem CellsAt.sub {w : World} {g : Nat} {t : TypeId} {cs : Array Value} (h : Blk w g t cs) (n : Nat) {l : List Value} (hl : (cs.toList.drop n).take l.length = l) : CellsAt w g n l := fun j u hj => by
  rw [h.cell]
  rw [← hl, List.getElem?_take, List.getElem?_drop] at hj
  split at hj
  · simpa using hj
  · cases hj

set_option maxRecDepth 100000 in
set_option maxHeartbeats 4000000 in
theorem valid_sync (d : Int) (x : Syn) (a b : Value) (B : Nat) (w : World) (ha : SubsIn w B a x.wanted) (hb : SubsIn w B b x.held) (hB : B ≤ w.heap.size) (hla : (encSubs x.wanted).length ≤ 500000000000) (hlb : (encSubs x.held).length ≤ 500000000000) :
    Calls Tryz.prog 34 #[.agg (syncC d x a b)] w (RetBool (wB d 1 8 && syncB x) w) := by
  have HSZ : Hid ((Tryz.prog.info? 36).map (·.size) = some (syncC d x a b).size) := Lib.hid (bad_load _ rfl)
  obtain ⟨w0, h0⟩ : ∃ w0, w0 = w.alloc (.cells (syncC d x a b) 36) := ⟨_, rfl⟩
  have hk0 : Kept Kno w w0 := by rw [h0]; exact (Kept.refl _ _).alloc _
  have hG : Blk w0 w.heap.size 36 (syncC d x a b) := by rw [h0]; exact Blk.new _ _ _
  have c1 : w0.cell? ⟨w.heap.size, 1, none⟩ = some (.int .i64 d) := hG.cell 1
  have c0 : w0.cell? ⟨w.heap.size, 0, none⟩ = some (.int .i64 1) := hG.cell 0
  have HK := Lib.hid hk0
  have HG := Lib.hid hG
  have HE0 := Lib.hid h0
  clear h0 hk0 hG
  go_enter Tryz.func34, Tryz.ntmps34
  go_upto_region 1 with (fail)
  rw [← HE0.out]
  by_cases hd1 : d < 1
  · have hx : RetBool (wB d 1 8 && syncB x) w (.returned (.bool false)) w0 := ⟨by rw [wB_lo hd1]; rfl, HK.out⟩
    have HX := Lib.hid hx
    clear hx
    go_wp2
    go_ret
    exact HX.out
  · by_cases hd8 : 8 < d
    · have hx : RetBool (wB d 1 8 && syncB x) w (.returned (.bool false)) w0 := ⟨by rw [wB_hi hd8]; rfl, HK.out⟩
      have HX := Lib.hid hx
      clear hx
      go_wp2
      go_ret
      exact HX.out
    · have hwb : wB d 1 8 = true := by unfold wB; rw [decide_eq_true (by omega), decide_eq_true (by omega)]; rfl
      have HWB := Lib.hid hwb
      clear hwb
      go_wp2_with (first | (refine wpList_load_row rfl 36 (.tmp 1) rfl w.heap.size rfl 36 (syncC d x a b) (0, 0) _ HG.out Tryz.underlying36 rfl HSZ.out ?_))
      refine (noDelta_z _ _ _ _ _ _ _ _ _ _ _ _ _ _ _ _ _ _ _ _ _ _ _ _ w0).mono ?_
      rintro e w1 ⟨rfl, hk1⟩
      have HG := Lib.hid (HG.out.kept hk1 (fun h => h))
      have HK := Lib.hid (HK.out.then0 hk1)
      clear hk1
      go_wp2_with (first | (refine wpList_load_atW rfl 29 (.tmp 18) rfl w.heap.size 15 [.int .i64 0, .int .i64 0, .int .i64 0, .slice none 0 0, .bool false, .slice none 0 0] _ rfl (CellsAt.sub HG.out 15 rfl) Tryz.underlying29 rfl (by kernel_rfl) ?_))
      refine (noSubmission_z w1).mono ?_
      rintro e w2 ⟨rfl, hk2⟩
      have HG := Lib.hid (HG.out.kept hk2 (fun h => h))
      have HK := Lib.hid (HK.out.then0 hk2)
      clear hk2
      go_wp2_with (first | (refine wpList_load_atW rfl 34 (.tmp 23) rfl w.heap.size 21 [.int .i64 0, .int .i64 0, .int .i64 0, .slice none 0 0, .int .i64 0, .int .i64 0, .int .i64 0, .int .i64 0, .int .i64 0, .slice none 0 0] _ rfl (CellsAt.sub HG.out 21 rfl) Tryz.underlying34 rfl (by kernel_rfl) ?_))
      refine (noVerdict_z w2).mono ?_
      rintro e w3 ⟨rfl, hk3⟩
      have HG := Lib.hid (HG.out.kept hk3 (fun h => h))
      have HK := Lib.hid (HK.out.then0 hk3)
      clear hk3
      go_wp2_with (first | (refine wpList_load_rowW rfl 36 (.tmp 1) rfl w.heap.size rfl 36 (syncC d x a b) (0, 0) _ HG.out Tryz.underlying36 rfl HSZ.out ?_))
      refine (validSync_any d x a b B w3 (ha.old (HK.out.old hB (fun _ _ h => h)) (Nat.le_refl _)) (hb.old (HK.out.old hB (fun _ _ h => h)) (Nat.le_refl _)) (Nat.le_trans hB HK.out.size) hla hlb).mono ?_
      rintro e w4 ⟨rfl, hk4⟩
      have HG := Lib.hid (HG.out.kept hk4 (fun h => h))
      have HK := Lib.hid (HK.out.then0 hk4)
      clear hk4
      obtain ⟨bh, hbh⟩ : ∃ bh, bh = syncB x := ⟨_, rfl⟩
      have hx : RetBool (wB d 1 8 && syncB x) w (.returned (.bool bh)) w4 := ⟨by rw [HWB.out, hbh]; rfl, HK.out⟩
      have HX := Lib.hid hx
      rw [← hbh]
      clear hx hbh
      go_wp2
      go_ret
      exact HX.out

set_option maxRecDepth 100000 in
set_option maxHeartbeats 4000000 in
theorem valid_verdict (d : Int) (x : Verd) (a k : Value) (w : World) (ha : RowIn w a x.args) (hkr : RowIn w k x.key) :
    Calls Tryz.prog 34 #[.agg (verdC d x a k)] w (RetBool (wB d 1 8 && verdB d x) w) := by
  have HSZ : Hid ((Tryz.prog.info? 36).map (·.size) = some (verdC d x a k).size) := Lib.hid (bad_load _ rfl)
  obtain ⟨w0, h0⟩ : ∃ w0, w0 = w.alloc (.cells (verdC d x a k) 36) := ⟨_, rfl⟩
  have hk0 : Kept Kno w w0 := by rw [h0]; exact (Kept.refl _ _).alloc _
  have hG : Blk w0 w.heap.size 36 (verdC d x a k) := by rw [h0]; exact Blk.new _ _ _
  have c1 : w0.cell? ⟨w.heap.size, 1, none⟩ = some (.int .i64 d) := hG.cell 1
  have c0 : w0.cell? ⟨w.heap.size, 0, none⟩ = some (.int .i64 4) := hG.cell 0
  have HK := Lib.hid hk0
  have HG := Lib.hid hG
  have HE0 := Lib.hid h0
  clear h0 hk0 hG
  go_enter Tryz.func34, Tryz.ntmps34
  go_upto_region 1 with (fail)
  rw [← HE0.out]
  by_cases hd1 : d < 1
  · have hx : RetBool (wB d 1 8 && verdB d x) w (.returned (.bool false)) w0 := ⟨by rw [wB_lo hd1]; rfl, HK.out⟩
    have HX := Lib.hid hx
    clear hx
    go_wp2
    go_ret
    exact HX.out
  · by_cases hd8 : 8 < d
    · have hx : RetBool (wB d 1 8 && verdB d x) w (.returned (.bool false)) w0 := ⟨by rw [wB_hi hd8]; rfl, HK.out⟩
      have HX := Lib.hid hx
      clear hx
      go_wp2
      go_ret
      exact HX.out
    · have hwb : wB d 1 8 = true := by unfold wB; rw [decide_eq_true (by omega), decide_eq_true (by omega)]; rfl
      have HWB := Lib.hid hwb
      clear hwb
      go_wp2_with (first | (refine wpList_load_row rfl 36 (.tmp 1) rfl w.heap.size rfl 36 (verdC d x a k) (0, 0) _ HG.out Tryz.underlying36 rfl HSZ.out ?_))
      refine (noRound_z _ _ _ _ _ _ _ _ _ _ _ _ _ _ _ _ _ _ _ _ _ _ _ _ _ _ _ w0).mono ?_
      rintro e w1 ⟨rfl, hk1⟩
      have HG := Lib.hid (HG.out.kept hk1 (fun h => h))
      have HK := Lib.hid (HK.out.then0 hk1)
      have c3 : w1.cell? ⟨w.heap.size, 3, none⟩ = some (.int .i64 0) := HG.out.cell 3
      have c4 : w1.cell? ⟨w.heap.size, 4, none⟩ = some (.int .i64 0) := HG.out.cell 4
      clear hk1
      go_wp2_with (first | (refine wpList_load_rowW rfl 36 (.tmp 1) rfl w.heap.size rfl 36 (verdC d x a k) (0, 0) _ HG.out Tryz.underlying36 rfl HSZ.out ?_))
      refine (noDelta_z _ _ _ _ _ _ _ _ _ _ _ _ _ _ _ _ _ _ _ _ _ _ _ _ w1).mono ?_
      rintro e w2 ⟨rfl, hk2⟩
      have HG := Lib.hid (HG.out.kept hk2 (fun h => h))
      have HK := Lib.hid (HK.out.then0 hk2)
      clear hk2
      go_wp2_with (first | (refine wpList_load_atW rfl 29 (.tmp 82) rfl w.heap.size 15 [.int .i64 0, .int .i64 0, .int .i64 0, .slice none 0 0, .bool false, .slice none 0 0] _ rfl (CellsAt.sub HG.out 15 rfl) Tryz.underlying29 rfl (by kernel_rfl) ?_))
      refine (noSubmission_z w2).mono ?_
      rintro e w3 ⟨rfl, hk3⟩
      have HG := Lib.hid (HG.out.kept hk3 (fun h => h))
      have HK := Lib.hid (HK.out.then0 hk3)
      clear hk3
      go_wp2_with (first | (refine wpList_load_rowW rfl 36 (.tmp 1) rfl w.heap.size rfl 36 (verdC d x a k) (0, 0) _ HG.out Tryz.underlying36 rfl HSZ.out ?_))
      refine (validVerdict_any d x a k w3 (ha.kept0 HK.out) (hkr.kept0 HK.out)).mono ?_
      rintro e w4 ⟨rfl, hk4⟩
      have HG := Lib.hid (HG.out.kept hk4 (fun h => h))
      have HK := Lib.hid (HK.out.then0 hk4)
      clear hk4
      obtain ⟨bh, hbh⟩ : ∃ bh, bh = verdB d x := ⟨_, rfl⟩
      have hx : RetBool (wB d 1 8 && verdB d x) w (.returned (.bool bh)) w4 := ⟨by rw [HWB.out, hbh]; rfl, HK.out⟩
      have HX := Lib.hid hx
      rw [← hbh]
      clear hx hbh
      go_wp2
      go_ret
      exact HX.out

end Go.Proofs.YtffdaohmalmkfaaGreat
