/-
  Packet: Split at a delta with edits. (Printed by gen_pakmf.py.)
-/
import Derived.Test.YtffdaohmalmkfaaGreatW1
import Derived.Test.YtffdaohmalmkfaaGreatW43
import Derived.Deep.CutBlock
import Derived.Great.BuildSlice
import Derived.Deep.QuietTactic
import Derived.BigQuiet
import Derived.Laws.Slices
import Derived.WalkSpells
set_option linter.unusedSimpArgs false
set_option linter.unusedVariables false
namespace Go.Proofs.YtffdaohmalmkfaaGreat
open Go.RowKit
set_option linter.unusedVariables false

theorem info_msg : (Tryz.prog.info? 36).map (fun i => (i.zero, i.size, i.bytes)) = some (some (.agg dltZ), 31, 376) := by kernel_rfl
theorem yieldsIf_slice {P : Program} {ops : Array Oper} {S : World → Prop} {op : Oper} {a : Act} (hw : Region.wanted op (yielded ops a.tmps) = true) (v : Value) (t : TypeId) (x : Operand) (lo hi : Option Operand) (ho : op.op = .slice t x lo hi none) (ht : P.underlying t = some (.slice (P.elem t)))
    (x0 : Value) (l0 h0 : Option Value) (hx : a.eval x = x0) (hl : lo.map a.eval = l0) (hh : hi.map a.eval = h0) (h : ∀ w, S w → (Instr.slice t x0 l0 h0 none).run P w = .ok v w) : YieldsIf P ops S op v a :=
  .inl ⟨hw, fun w hS => by
    unfold execOp
    simp only [ho, Sem.run_bind, Option.map_none]
    rw [hx, hl, hh, run_sliceAt_slice w t x0 l0 h0 none ht, h w hS]
    rfl⟩
/-- 's[lo:hi]' of a slice whose elements have sz cells: the run. -/
theorem run_slice_sz {P : Program} (w : World) (t : TypeId) (ht : P.underlying t = some (.slice (P.elem t))) (sz : Nat) (hsz : ∀ w, (sizeOf (P.elem t)).run P w = .ok sz w) (A : Option Addr) (n cap lo hi : Nat) (h1 : lo ≤ hi) (h2 : hi ≤ cap) :
    (Instr.slice t (.slice A n cap) (some (.int .i64 (lo : Int))) (some (.int .i64 (hi : Int))) none).run P w = .ok (sliced A lo hi cap sz) w := by
  rw [run_slice_lh w t _ _ _ ht .i64 .i64 (lo : Int) (hi : Int) (Int.natCast_nonneg lo) (by omega) (by omega), hsz]
  simp only [Result.andThen, Int.toNat_natCast]
theorem yieldsIf_load_blk {P : Program} {ops : Array Oper} {S : World → Prop} {op : Oper} {a : Act} (hw : Region.wanted op (yielded ops a.tmps) = true) (ty : TypeId) (x : Operand) (ho : op.op = .load ty x)
    (g : Nat) (hx : a.eval x = .pointer (some ⟨g, 0, none⟩)) (cs : Array Value) (d : TypeDesc) {t : TypeId} (hS : ∀ w, S w → Blk w g t cs)
    (hu : P.underlying ty = some d) (hd : (match d with | .struct _ | .array _ _ => true | _ => false) = true) (hi : (P.info? ty).map (·.size) = some cs.size) : YieldsIf P ops S op (.agg cs) a := by
  have h := yieldsIf_load_atE (P := P) (ops := ops) (S := S) (op := op) (a := a) hw ty x ho g 0 hx cs.toList d (fun w hw => CellsAt.blk (t := t) (by have := hS w hw; simpa using this)) hu hd (by simpa using hi)
  simpa using h
theorem one_fill {cs z : Array Value} {ie : TypeInfo} {n : Nat} (h1 : ie.size = n) (hs : 0 < n) (hc : cs.size = n) : Instr.fill (fun i => some (i * ie.size, ie.size)) ((Array.range (1 * ie.size)).map (z[· % z.size]!)) [(0, Value.agg cs)] = some cs := by
  rw [h1]
  have := Great.fill_whole hs [.agg cs] ((Array.range (1 * n)).map (z[· % z.size]!)) (by simp [Value.cells, hc]) (by simp)
  simpa [Value.cells] using this
theorem wp_buildOne {P : Program} {o : Oper} {a : Act} {w : World} {K : Act → World → Prop} {Q : Exit → Act → World → Prop} (t e : TypeId) (x : Operand) (ho : o.op = .buildSlice t 1 #[(0, x)])
    (cs : Array Value) (ie : TypeInfo) (z : Value) (n : Nat) (hu : P.underlying t = some (.slice e)) (hie : P.info? e = some ie) (hz : ie.zero = some z) (hx : a.eval x = .agg cs) (hsz : ie.size = n) (hn : 0 < n) (hn2 : n ≤ 1000) (hc : cs.size = n)
    (h : K (a.put o.dst (.slice (some ⟨w.heap.size, 0, none⟩) 1 1)) (w.alloc (.cells cs e))) : o.wp P a w K Q := by
  refine wp_buildSlice t e 1 _ ho cs ie z hu hie hz (by rw [hsz]; omega) (by rw [hsz]; omega) ?_ h
  rw [Array.toList_map]
  show Instr.fill _ _ [(0, a.eval x)] = _
  rw [hx]
  exact one_fill hsz hn hc
theorem dlt_ones (x : Dl) (k e : Value) (hk : k.oneCell' = true) (he : e.oneCell' = true) : ∀ u ∈ (dltC x k e).toList, u.oneCell' = true := by
  have h := dlt_one x k e hk he
  rw [Array.all_eq_true'] at h
  intro u hu
  exact h u (by simpa using hu)
theorem edit_size (w : World) : (sizeOf (Tryz.prog.elem 25)).run Tryz.prog w = .ok 5 w := by
  obtain ⟨i0, hi0, z00, z01, z02⟩ := info_parts info_edit
  have he : Tryz.prog.elem 25 = 73 := by kernel_rfl
  rw [he]
  simp [sizeOf, typeInfo, hi0, z01]
/-- The parts of a delta. -/
def partsOf (x : Dl) (n : Nat) : List Dl := (List.range n).map (partOf x n)
def SplitOk (x : Dl) (w : World) (e : Ending) (w' : World) : Prop :=
  ∃ (A : Option Addr) (cap n : Nat), n = (x.edits.length + 31) / 32 ∧ e = .returned (.tuple #[.slice A n cap, .int .i64 0]) ∧ LyIn w'.heap.size (.slice A n cap) n (AtL w' 31 (DlQ w' w'.heap.size) (partsOf x n)) ∧ Kept Kno w w'
def SplitRel (x : Dl) (n : Nat) (w : World) (p i : Value) (wr : World) : Prop :=
  ∃ (k : Nat) (A : Option Addr) (cap : Nat) (qs : List (Dl × List Value)), k ≤ n ∧ i = .int .i64 k ∧ p = .slice A qs.length cap ∧ qs.map (·.1) = (List.range k).map (partOf x n) ∧ LOut DlQ 36 31 S0 w.heap.size wr A cap qs ∧ Kept Kno w wr
theorem part_cut {xs : List Ed} {f l : Nat} (h : l = min (f + 32) xs.length) (hf : f < xs.length) : (xs.drop f).take (l - f) = (xs.drop f).take 32 := by
  subst h
  by_cases h : f + 32 ≤ xs.length
  · rw [Nat.min_eq_left h, Nat.add_sub_cancel_left]
  · rw [Nat.min_eq_right (by omega), List.take_of_length_le (by rw [List.length_drop]; omega), List.take_of_length_le (by rw [List.length_drop]; omega)]
theorem dlt_cells (x : Dl) (k e : Value) : (dltC x k e).toList.length = 31 := rfl

set_option maxRecDepth 100000 in
set_option maxHeartbeats 4000000 in
theorem split_any (x : Dl) (B : Nat) (k e : Value) (w : World) (hk : IIn w B k x.kept) (he : EdsIn w B e x.edits) (hB : B ≤ w.heap.size) (hok : DlOk x) (hp : x.part = 0) (hps : x.parts = 1) (h1 : 0 < x.edits.length) (h2 : x.edits.length ≤ 16384) :
    Calls Tryz.prog 20 #[.agg (dltC x k e)] w (SplitOk x w) := by
  obtain ⟨i0, hi0, z00, z01, z02⟩ := info_parts info_msg
  obtain ⟨dev, rnd, frm, too, kept, dec, prt, pts, eds⟩ := x
  simp only at hk he hp hps h1 h2 ⊢
  subst hp hps
  obtain ⟨kA, kc, rfl⟩ := IIn.form hk
  obtain ⟨eA, ec, rfl⟩ := EdsIn.form he
  obtain ⟨-, hecap, hecm⟩ := he.cap
  obtain ⟨ge, oe, rfl⟩ : ∃ g o, eA = some ⟨g, o, none⟩ := by
    obtain ⟨g, o, hA, -⟩ := he.cut (f := 0) (l := eds.length) h1 (Nat.le_refl _)
    exact ⟨g, o, hA⟩
  have HIK := Lib.hid hk
  have HIE := Lib.hid he
  have HOK := Lib.hid hok
  have HKL := Lib.hid (show kept.length ≤ 1000 from Nat.le_trans hok.kept.2 (by decide))
  have hd1 : 1 ≤ dev := hok.dev.1
  have hd8 : dev ≤ 8 := hok.dev.2
  have HDLB := Lib.hid hok.dl
  have HSZ := Lib.hid (size_dlt ⟨dev, rnd, frm, too, kept, dec, 0, 1, eds⟩ (.slice kA kept.length kc) (.slice (some ⟨ge, oe, none⟩) eds.length ec))
  clear hk he hok
  go_enter Tryz.func20, Tryz.ntmps20
  go_upto_region 1 with (fail)
  obtain ⟨w0, h0⟩ : ∃ w0, w.alloc (.cells (dltC ⟨dev, rnd, frm, too, kept, dec, 0, 1, eds⟩ (.slice kA kept.length kc) (.slice (some ⟨ge, oe, none⟩) eds.length ec)) 36) = w0 := ⟨_, rfl⟩
  have HK := Lib.hid (show Kept Kno w w0 by rw [← h0]; exact (Kept.refl _ _).alloc _)
  have HG := Lib.hid (show Blk w0 w.heap.size 36 (dltC ⟨dev, rnd, frm, too, kept, dec, 0, 1, eds⟩ (.slice kA kept.length kc) (.slice (some ⟨ge, oe, none⟩) eds.length ec)) by rw [← h0]; exact Blk.new _ _ _)
  rw [h0]
  clear h0
  have HKP := Lib.hid (IIn.keep0 HIK.out hB HK.out)
  have HED := Lib.hid (EdsIn.keep0 HIE.out hB HK.out)
  have hB0 : B ≤ w0.heap.size := Nat.le_trans hB HK.out.size
  obtain ⟨Z, hZ⟩ : ∃ n, w.heap.size = n := ⟨_, rfl⟩
  rw [hZ] at HG ⊢
  clear hZ HIK HIE
  obtain ⟨q, hq⟩ : ∃ n, eds.length = n := ⟨_, rfl⟩
  have HQ := Lib.hid hq
  rw [hq] at HG HED HSZ hecap h1 h2
  clear hq
  have c0 : w0.cell? ⟨Z, 0, none⟩ = some (.int .i64 2) := HG.out.cell 0
  have c1 : w0.cell? ⟨Z, 1, none⟩ = some (.int .i64 dev) := HG.out.cell 1
  go_wp2_with fail
  refine (within_t w0 hd1 hd8).mono ?_
  rintro e w1 ⟨rfl, hk1⟩
  have HG1 := Lib.hid (HG.out.kept hk1 (fun h => h))
  have HK1 := Lib.hid hk1
  have d12 : w1.cell? ⟨Z, 12, none⟩ = some (.int .i64 0) := HG1.out.cell 12
  have d13 : w1.cell? ⟨Z, 13, none⟩ = some (.int .i64 1) := HG1.out.cell 13
  have d14 : w1.cell? ⟨Z, 14, none⟩ = some (.slice (some ⟨ge, oe, none⟩) q ec) := HG1.out.cell 14
  have hqI : decide ((16384 : Int) < (q : Int)) = false := by rw [decide_eq_false_iff_not]; omega
  clear hk1 c0 c1
  go_wp2_with (first | (refine wpList_load_rowW rfl 36 (.tmp 1) rfl Z rfl 36 (dltC ⟨dev, rnd, frm, too, kept, dec, 0, 1, eds⟩ (.slice kA kept.length kc) (.slice (some ⟨ge, oe, none⟩) q ec)) (0, 0) _ HG1.out Tryz.underlying36 rfl HSZ.out ?_))
  refine (validDelta_any ⟨dev, rnd, frm, too, kept, dec, 0, 1, eds⟩ B _ _ w1 (IIn.keep0 HKP.out hB0 HK1.out) (EdsIn.keep0 HED.out hB0 HK1.out) (Nat.le_trans hB0 HK1.out.size) HOK.out.i).mono ?_
  rintro e w2 ⟨rfl, hk2⟩
  rw [HDLB.out]
  have HG2 := Lib.hid (HG1.out.kept hk2 (fun h => h))
  have HK2 := Lib.hid (HK1.out.then0 hk2)
  have e14 : w2.cell? ⟨Z, 14, none⟩ = some (.slice (some ⟨ge, oe, none⟩) q ec) := HG2.out.cell 14
  have hB2 : B ≤ w2.heap.size := Nat.le_trans hB0 HK2.out.size
  have HKP2 := Lib.hid (IIn.keep0 HKP.out hB0 HK2.out)
  have HED2 := Lib.hid (EdsIn.keep0 HED.out hB0 HK2.out)
  have hZ2 : Z < w2.heap.size := HG2.out.lt
  clear hk2 d12 d13 d14 hqI HKP HED
  obtain ⟨N, hN⟩ : ∃ N, (q + 31) / 32 = N := ⟨_, rfl⟩
  have hN1 : 1 ≤ N := by omega
  have hN2 : 32 * N < q + 32 := by omega
  have hN3 : q ≤ 32 * N := by omega
  have hNI : ((q : Int) + 32 - 1) / 32 = (N : Int) := by omega
  have hmx : (if (1 : Int) < (N : Int) then (N : Int) else 1) = (N : Int) := by split <;> omega
  have HMX := Lib.hid hmx
  clear hmx
  go_upto_region 4 with (fail)
  rw [HMX.out]
  clear HMX hNI
  have HX : Hid (∀ (A : Option Addr) (cap : Nat) (w' : World), LyIn w'.heap.size (.slice A N cap) N (AtL w' 31 (DlQ w' w'.heap.size) (partsOf ⟨dev, rnd, frm, too, kept, dec, 0, 1, eds⟩ N)) → Kept Kno w2 w' → SplitOk ⟨dev, rnd, frm, too, kept, dec, 0, 1, eds⟩ w (.returned (.tuple #[.slice A N cap, .int .i64 0])) w') := Lib.hid (fun A cap w' hly hk => ⟨A, cap, N, by rw [HQ.out, hN], rfl, hly, HK.out.then0 (HK2.out.then0 hk)⟩)
  have hN4 : N ≤ 1000 := by omega
  clear hN HDLB
  go_upto_region 6 with (fail)
  go_loopw [5, 47] (fun p i wr => SplitRel ⟨dev, rnd, frm, too, kept, dec, 0, 1, eds⟩ N w2 p i wr) (fun _ i _ => N - (intOf i).toNat)
  case atStart => exact ⟨0, none, 0, [], Nat.zero_le _, rfl, rfl, rfl, LOut.nil, Kept.refl _ _⟩
  case round =>
    obtain ⟨k, A, cap, qs, hk, rfl, rfl, hqs, hlo, hkr⟩ := hrel
    have HQS := Lib.hid hqs
    have HLO := Lib.hid hlo
    have HKR := Lib.hid hkr
    have hk0 : (0 : Int) ≤ (k : Int) := by omega
    have hql : qs.length = k := by have := congrArg List.length hqs; rw [List.length_map, List.length_map, List.length_range] at this; exact this
    have hql2 : qs.length ≤ 1000 := by omega
    have HQL := Lib.hid hql
    have r14 : wr.cell? ⟨Z, 14, none⟩ = some (.slice (some ⟨ge, oe, none⟩) q ec) := (HG2.out.kept hkr (fun h => h)).cell 14
    clear hqs hlo hkr hql
    by_cases hlt : k < N
    · have hltI : (k : Int) < (N : Int) := by omega
      obtain ⟨f, hf⟩ : ∃ f, k * 32 = f := ⟨_, rfl⟩
      obtain ⟨l, hl⟩ : ∃ l, min (f + 32) q = l := ⟨_, rfl⟩
      have hfq : f < q := by omega
      have hlq : l ≤ q := by omega
      have hfl : f < l := by omega
      have hfI : (k : Int) * 32 = (f : Int) := by omega
      have hmin : (if (q : Int) < (f : Int) + 32 then (q : Int) else (f : Int) + 32) = (l : Int) := by split <;> omega
      have HMIN := Lib.hid hmin
      have HF := Lib.hid hf
      have HL := Lib.hid hl
      have hf0 : (0 : Int) ≤ (f : Int) := by omega
      have hfm : (f : Int) ≤ 16384 := by omega
      clear hf hl hmin
      go_upto_region 10 with (fail)
      rw [HMIN.out]
      have hBR : B ≤ wr.heap.size := Nat.le_trans hB2 HKR.out.size
      have HGR := Lib.hid (HG2.out.kept HKR.out (fun h => h))
      have HKPR := Lib.hid (IIn.keep0 HKP2.out hB2 HKR.out)
      have HEDR : Hid (EdsIn wr B (.slice (some ⟨ge, oe, none⟩) q ec) eds) := Lib.hid (EdsIn.keep0 HED2.out hB2 HKR.out)
      obtain ⟨es, hes⟩ : ∃ es, (eds.drop f).take (l - f) = es := ⟨_, rfl⟩
      have HPART := Lib.hid (show (eds.drop (32 * k)).take 32 = es by
        rw [← hes, part_cut (xs := eds) (f := f) (l := l) (by rw [HQ.out]; exact HL.out.symm) (by rw [HQ.out]; exact hfq), ← HF.out, Nat.mul_comm])
      have hesl : es.length = l - f := by rw [← hes, List.length_take, List.length_drop, HQ.out]; omega
      have HESL := Lib.hid hesl
      have HEL := Lib.hid (show es.length ≤ 100000 by omega)
      have HESH : Hid (∀ y ∈ es, EdShort y) := Lib.hid (fun y hy => (HOK.out.eds y (by rw [← hes] at hy; exact List.mem_of_mem_drop (List.mem_of_mem_take hy))).short)
      have HES : Hid (EdsIn wr.drew B (.slice (some ⟨ge, oe + f * 5, none⟩) (l - f) (ec - f)) es) := Lib.hid (by
        obtain ⟨g, o, he, -, -, -, hc⟩ := EdsIn.cut (f := f) (l := l) HEDR.out hfl (by rw [HQ.out]; exact hlq)
        simp only [Option.some.injEq, Addr.mk.injEq, and_true] at he
        obtain ⟨rfl, rfl⟩ := he
        rw [hes] at hc
        exact hc)
      have HSE : Hid (∀ w, (sizeOf (Tryz.prog.elem 25)).run Tryz.prog w = .ok 5 w) := Lib.hid (edit_size)
      have HSLI : Hid (∀ w1 : World, (Instr.slice 25 (.slice (some ⟨ge, oe, none⟩) q ec) (some (.int .i64 (f : Int))) (some (.int .i64 (l : Int))) none).run Tryz.prog w1 = .ok (.slice (some ⟨ge, oe + f * 5, none⟩) (l - f) (ec - f)) w1) := Lib.hid (fun w1 => by
        rw [run_slice_sz w1 25 Tryz.underlying25 5 HSE.out _ _ _ f l (by omega) (by omega)]
        simp only [sliced, if_neg (show ¬ ec = f by omega), Option.map_some, add_lit0])
      have HORW : Hid (∀ k, orow S0 (.slice A qs.length cap) k = true → k < wr.drew.heap.size) := Lib.hid (fun k hk => HLO.out.orow_lt (fun k hk => by cases hk) k hk)
      have m1 : qs.length + 1 ≤ maxLen := by simp only [maxLen]; omega
      have hwr : w2.heap.size ≤ wr.heap.size := HKR.out.size
      clear r14 hes hesl
      refine wp_region_held_drew (S := fun w' => Blk w' Z 36 (dltC ⟨dev, rnd, frm, too, kept, dec, 0, 1, eds⟩ (.slice kA kept.length kc) (.slice (some ⟨ge, oe, none⟩) q ec))) (by kernel_rfl) HGR.out.drew (fun hHeld => ?_)
      refine wpAnyH_takeE (i := 0) (v := .slice A qs.length cap) rfl rfl (by kernel_rfl) (by kernel_rfl) (by kernel_rfl) (fun _ _ _ h => h) (Or.inl ⟨by rfl, fun w1 hw => by go_simp⟩) (by assumption) ?_
      (try simp only [Act.put, List.setIfInBounds_toArray, List.set_cons_zero, List.set_cons_succ])
      refine wpAnyH_takeE (i := 1) (v := .agg (dltC ⟨dev, rnd, frm, too, kept, dec, 0, 1, eds⟩ (.slice kA kept.length kc) (.slice (some ⟨ge, oe, none⟩) q ec))) rfl rfl (by kernel_rfl) (by kernel_rfl) (by kernel_rfl) (fun _ _ _ h => h) (yieldsIf_load_blk (by rfl) 36 _ rfl Z rfl (dltC ⟨dev, rnd, frm, too, kept, dec, 0, 1, eds⟩ (.slice kA kept.length kc) (.slice (some ⟨ge, oe, none⟩) q ec)) _ (fun w1 hw => hw) Tryz.underlying36 rfl HSZ.out) (by assumption) ?_
      (try simp only [Act.put, List.setIfInBounds_toArray, List.set_cons_zero, List.set_cons_succ])
      refine wpAnyH_takeE (i := 2) (v := .int .i64 (k : Int)) rfl rfl (by kernel_rfl) (by kernel_rfl) (by kernel_rfl) (fun _ _ _ h => h) (Or.inl ⟨by rfl, fun w1 hw => by go_simp⟩) (by assumption) ?_
      (try simp only [Act.put, List.setIfInBounds_toArray, List.set_cons_zero, List.set_cons_succ])
      refine wpAnyH_takeE (i := 3) (v := .int .i64 (N : Int)) rfl rfl (by kernel_rfl) (by kernel_rfl) (by kernel_rfl) (fun _ _ _ h => h) (Or.inl ⟨by rfl, fun w1 hw => by go_simp⟩) (by assumption) ?_
      (try simp only [Act.put, List.setIfInBounds_toArray, List.set_cons_zero, List.set_cons_succ])
      refine wpAnyH_takeE (i := 4) (v := .pointer (some ⟨Z, 14, none⟩)) rfl rfl (by kernel_rfl) (by kernel_rfl) (by kernel_rfl) (fun _ _ _ h => h) (Or.inl ⟨by rfl, fun w1 hw => by go_simp⟩) (by assumption) ?_
      (try simp only [Act.put, List.setIfInBounds_toArray, List.set_cons_zero, List.set_cons_succ])
      refine wpAnyH_takeE (i := 5) (v := .slice (some ⟨ge, oe, none⟩) q ec) rfl rfl (by kernel_rfl) (by kernel_rfl) (by kernel_rfl) (fun _ _ _ h => h) (Or.inl ⟨by rfl, fun w1 hw => by have c1 : w1.cell? ⟨Z, 14, none⟩ = some (.slice (some ⟨ge, oe, none⟩) q ec) := hw.cell 14; clear hw; go_simp⟩) (by assumption) ?_
      (try simp only [Act.put, List.setIfInBounds_toArray, List.set_cons_zero, List.set_cons_succ])
      refine wpAnyH_takeE (i := 6) (v := .int .i64 (f : Int)) rfl rfl (by kernel_rfl) (by kernel_rfl) (by kernel_rfl) (fun _ _ _ h => h) (Or.inl ⟨by rfl, fun w1 hw => by go_simp⟩) (by assumption) ?_
      (try simp only [Act.put, List.setIfInBounds_toArray, List.set_cons_zero, List.set_cons_succ])
      refine wpAnyH_takeE (i := 7) (v := .int .i64 (l : Int)) rfl rfl (by kernel_rfl) (by kernel_rfl) (by kernel_rfl) (fun _ _ _ h => h) (Or.inl ⟨by rfl, fun w1 hw => by go_simp⟩) (by assumption) ?_
      (try simp only [Act.put, List.setIfInBounds_toArray, List.set_cons_zero, List.set_cons_succ])
      refine wpAnyH_takeE (i := 8) (v := .slice (some ⟨ge, oe + f * 5, none⟩) (l - f) (ec - f)) rfl rfl (by kernel_rfl) (by kernel_rfl) (by kernel_rfl) (fun _ _ _ h => h) (yieldsIf_slice (by rfl) _ 25 _ _ _ rfl Tryz.underlying25 _ _ _ rfl rfl rfl (fun w1 _ => HSLI.out w1)) (by assumption) ?_
      (try simp only [Act.put, List.setIfInBounds_toArray, List.set_cons_zero, List.set_cons_succ])
      refine wpAnyH_ready (rs := [9]) (by kernel_rfl) (by simp) ?_
      refine AllReadyH.cons rfl (fun K' hK => ?_) (AllReadyH.nil)
      go_simp
      go_at_call 55
      refine (clone_any (orow S0 (.slice A qs.length cap)) es B _ wr.drew HES.out (Nat.le_trans hB2 HKR.out.size) HEL.out HESH.out HORW.out).mono ?_
      rintro e w4 ⟨A4, c4, rfl, he4, hk4⟩
      have HE4 := Lib.hid he4
      have HK4 := Lib.hid (show Kept Kno wr w4 from ((Kept.refl _ wr).drew).then0 hk4)
      clear he4 hk4
      go_wp2_with fail
      refine hK.out _ _ ?_ (fun hHeld => ?_)
      · exact HGR.out.kept HK4.out (fun h => h)
      clear hK K'
      (try simp only [Act.put, List.setIfInBounds_toArray, List.set_cons_zero, List.set_cons_succ])
      refine wpAnyH_ready (rs := [10]) (by kernel_rfl) (by simp) ?_
      refine AllReadyH.cons rfl (fun K' hK => ?_) (AllReadyH.nil)
      go_simp
      go_at_call 54
      refine (head_any ⟨dev, rnd, frm, too, kept, dec, 0, 1, eds⟩ B _ _ A4 es.length c4 (k : Int) (N : Int) w4 (IIn.keep0 HKPR.out hBR HK4.out) (Nat.le_trans hBR HK4.out.size) HKL.out).mono ?_
      rintro e w5 ⟨A5, c5, rfl, ho5, hk5⟩
      have HO5 := Lib.hid ho5
      have HK45 := Lib.hid hk5
      have HK5 := Lib.hid (HK4.out.then0 hk5)
      clear ho5 hk5
      go_wp2_with fail
      refine hK.out _ _ ?_ (fun hHeld => ?_)
      · exact HGR.out.kept HK5.out (fun h => h)
      clear hK K'
      (try simp only [Act.put, List.setIfInBounds_toArray, List.set_cons_zero, List.set_cons_succ])
      refine wpAnyH_ready (rs := [11]) (by kernel_rfl) (by simp) ?_
      refine AllReadyH.cons rfl (fun K' hK => ?_) (AllReadyH.nil)
      rw [if_pos (by rfl)]
      refine wp_buildOne 67 36 (.tmp 68) rfl (dltC ⟨dev, rnd, frm, too, kept, dec, (k : Int), (N : Int), eds⟩ (.slice A5 kept.length c5) (.slice A4 es.length c4)) i0 (.agg dltZ) 31 Tryz.underlying67 hi0 z00 rfl z01 (by decide) (by decide) rfl ?_
      refine hK.out _ _ ?_ (fun hHeld => ?_)
      · exact (HGR.out.kept HK5.out (fun h => h)).alloc _
      clear hK K'
      (try simp only [Act.put, List.setIfInBounds_toArray, List.set_cons_zero, List.set_cons_succ])
      refine wpAnyH_ready (rs := [12]) (by kernel_rfl) (by simp) ?_
      refine AllReadyH.cons rfl (fun K' hK => ?_) (AllReadyH.nil)
      have HLO5 := Lib.hid (HLO.out.keep0 clo_dl HK5.out)
      refine step_append_rd _ (by rfl) _ _ 67 (by rfl) w2.heap.size 36 i0 _ 31 376 Tryz.underlying67 hi0 z00 z01 z02 (by rfl) (by decide) (.slice A qs.length cap) qs.length (qs.map (·.2)).flatten (by rfl) (World.ownsRow.alloc HLO5.out.own.1 _) _ 1 (dltC ⟨dev, rnd, frm, too, kept, dec, (k : Int), (N : Int), eds⟩ (.slice A5 kept.length c5) (.slice A4 es.length c4)).toList (by rfl) (Rd.one _ _ _ rfl) (dlt_ones _ _ _ rfl rfl) m1 (by omega) (by have := HKR.out.size; have := HK5.out.size; simp; omega) ?_
      intro A9 c9 w9 hown9 hg9 hat9
      have HX9 := Lib.hid (show DlQ (erase (orow S0 (.slice A qs.length cap)) w5) w5.heap.size (partOf ⟨dev, rnd, frm, too, kept, dec, 0, 1, eds⟩ N k) (dltC ⟨dev, rnd, frm, too, kept, dec, (k : Int), (N : Int), eds⟩ (.slice A5 kept.length c5) (.slice A4 es.length c4)).toList from ⟨.slice A5 kept.length c5, .slice A4 es.length c4, rfl, own_slin HO5.out (fun k hk => by
          cases hx : orow S0 (.slice A qs.length cap) k with
          | false => rfl
          | true => have := HORW.out k hx; have := HK4.out.size; simp at *; omega), by
          have h1 := HE4.out.keepS HK45.out (fun _ h => h.elim)
          show EdsIn _ _ _ ((eds.drop (32 * k)).take 32)
          rw [HPART.out]
          exact h1⟩)
      have HL9 := Lib.hid (LOut.push clo_dl HLO5.out HX9.out (dlt_cells _ _ _) hg9 hown9 hat9)
      have HK9 := Lib.hid (show Kept Kno w2 w9 from ((HKR.out.then0 HK5.out).alloc _).grown hg9 (fun k hk e => by have := HLO5.out.ge e; omega))
      have hg9' : Blk w9 Z 36 (dltC ⟨dev, rnd, frm, too, kept, dec, 0, 1, eds⟩ (.slice kA kept.length kc) (.slice (some ⟨ge, oe, none⟩) q ec)) := ((HGR.out.kept HK5.out (fun h => h)).alloc _).grown hg9 (fun e => by have := HLO5.out.ge e.symm; omega)
      clear hown9 hg9 hat9
      refine hK.out _ _ ?_ (fun hHeld => ?_)
      · exact hg9'
      clear hK K'
      (try simp only [Act.put, List.setIfInBounds_toArray, List.set_cons_zero, List.set_cons_succ])
      refine wpAnyH_ready (rs := [13]) (by kernel_rfl) (by simp) ?_
      refine AllReadyH.cons rfl (fun K' hK => ?_) (AllReadyH.nil)
      go_simp
      refine hK.out _ _ ?_ (fun hHeld => ?_)
      · exact hg9'
      clear hK K'
      refine wpAnyH_done (by kernel_rfl) ?_ _
      clear hHeld
      go_wp2_with fail
      go_roundw
      case rel => exact ⟨k + 1, A9, c9, qs ++ [(partOf ⟨dev, rnd, frm, too, kept, dec, 0, 1, eds⟩ N k, (dltC ⟨dev, rnd, frm, too, kept, dec, (k : Int), (N : Int), eds⟩ (.slice A5 kept.length c5) (.slice A4 es.length c4)).toList)], hlt, by go_num, by simp, by rw [List.map_append, HQS.out, List.range_succ, List.map_append]; rfl, HL9.out, HK9.out⟩
      case measure => simp [intOf]; omega
    · have hltI : ¬ (k : Int) < (N : Int) := by omega
      have hkN : k = N := by omega
      have hqN : qs.length = N := by rw [HQL.out, hkN]
      have hqt : qs.map (·.1) = partsOf ⟨dev, rnd, frm, too, kept, dec, 0, 1, eds⟩ N := by rw [HQS.out, hkN]; rfl
      have hly := HLO.out.ly clo_dl (fun k hk => by cases hk)
      rw [hqt, hqN] at hly
      have HXX := Lib.hid (show SplitOk ⟨dev, rnd, frm, too, kept, dec, 0, 1, eds⟩ w (.returned (.tuple #[.slice A qs.length cap, .int .i64 0])) wr from by rw [hqN]; exact HX.out A cap wr (hly.mono (Nat.le_refl _) (fun g o _ h => h.sub0 (erase_S0 wr) (fun _ _ _ h => clo_dl.sub (erase_S0 wr) h))) HKR.out)
      clear hqN hqt hly hkN
      go_wp2
      go_ret2
      exact HXX.out

end Go.Proofs.YtffdaohmalmkfaaGreat
