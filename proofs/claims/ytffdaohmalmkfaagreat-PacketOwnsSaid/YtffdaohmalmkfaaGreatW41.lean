/-
  Packet: validDelta at any delta, valid at a delta. (Printed by gen_pakmc.py.)
-/
import Derived.Test.YtffdaohmalmkfaaGreatW40
import Derived.Deep.CutBlock
set_option linter.unusedSimpArgs false
set_option linter.unusedVariables false
namespace Go.Proofs.YtffdaohmalmkfaaGreat
open Go.RowKit
set_option linter.unusedVariables false

def incB : Int → List Int → Bool
  | _, [] => true
  | a, x :: xs => !decide (x ≤ a) && incB x xs
theorem incB_at {xs : List Int} {k : Nat} {x a : Int} (h : xs[k]? = some x) : incB a (xs.drop k) = (!decide (x ≤ a) && incB x (xs.drop (k + 1))) := by
  obtain ⟨h1, rfl⟩ := List.getElem?_eq_some_iff.1 h
  rw [List.drop_eq_getElem_cons h1, incB]
theorem incB_of : ∀ {xs : List Int} {a : Int}, Inc a xs → incB a xs = true
  | [], _, _ => rfl
  | x :: xs, a, h => by
    rw [incB, incB_of h.2, Bool.and_true, Bool.not_eq_true', decide_eq_false_iff_not]
    have := h.1
    omega
def dlB (x : Dl) : Bool := wB x.round 0 1073741824 && wB x.to_ 0 1073741824 && wB x.from_ (-1) x.to_ && wB x.dec 0 1073741824 && decide (x.kept.length ≤ 8) && wB x.parts 1 512 && wB x.part 0 (x.parts - 1) && incB 0 x.kept && x.edits.all edB
/-- The numbers of an edit are an int's. -/
def EdI (x : Ed) : Prop := (∀ y ∈ x.key, okVal y) ∧ (∀ y ∈ x.cells, okVal y) ∧ ∀ y ∈ x.cols, I64 y
def KeptRel (kept : List Int) (w0 : World) (l i : Value) (wr : World) : Prop :=
  ∃ (k : Nat) (last : Int), k ≤ kept.length ∧ i = .int .i64 k ∧ l = .int .i64 last ∧ incB 0 kept = incB last (kept.drop k) ∧ Kept Kno w0 wr
def EdsRel (eds : List Ed) (w0 : World) (i : Value) (wr : World) : Prop := ∃ k : Nat, k ≤ eds.length ∧ i = .int .i64 k ∧ (eds.take k).all edB = true ∧ Kept Kno w0 wr
theorem EdsIn.at_ {w : World} {B : Nat} {A : Option Addr} {n cap : Nat} {xs : List Ed} (h : EdsIn w B (.slice A n cap) xs) {k : Nat} {x : Ed} (hk : xs[k]? = some x) :
    ∃ g o kv cv vv, A = some ⟨g, o, none⟩ ∧ n = xs.length ∧ g < B ∧ CellsAt w g (o + k * 5) [.int .i64 x.op, .int .i64 x.tab, kv, cv, vv] ∧ RIn w B kv x.key ∧ IIn w B cv x.cols ∧ RIn w B vv x.cells := by
  obtain ⟨A', cap', he, h3, h4, h5, h6, h7⟩ := h
  simp only [Value.slice.injEq] at he
  obtain ⟨rfl, rfl, rfl⟩ := he
  obtain ⟨hlt, -⟩ := List.getElem?_eq_some_iff.1 hk
  obtain ⟨g, o, rfl, hg, hc⟩ := h7 (by omega)
  obtain ⟨cs, -, ⟨kv, cv, vv, rfl, h8, h9, h10⟩, h11⟩ := hc k x hk
  exact ⟨g, o, kv, cv, vv, rfl, rfl, hg, h11, h8, h9, h10⟩
theorem EdsIn.cap {w : World} {B : Nat} {A : Option Addr} {n cap : Nat} {xs : List Ed} (h : EdsIn w B (.slice A n cap) xs) : n = xs.length ∧ n ≤ cap ∧ cap ≤ 9223372036854775807 := by
  obtain ⟨A', cap', he, h2, h3, -⟩ := h
  simp only [Value.slice.injEq] at he
  obtain ⟨rfl, rfl, rfl⟩ := he
  exact ⟨rfl, h2, by simpa only [maxLen] using h3⟩
theorem EdsIn.form {w : World} {B : Nat} {v : Value} {xs : List Ed} (h : EdsIn w B v xs) : ∃ A cap, v = .slice A xs.length cap := LyIn.form h
theorem IIn.form {w : World} {B : Nat} {v : Value} {xs : List Int} (h : IIn w B v xs) : ∃ A cap, v = .slice A xs.length cap := SlIn.form h
theorem size_dlt (x : Dl) (k e : Value) : (Tryz.prog.info? 36).map (·.size) = some (dltC x k e).size := bad_load _ rfl

set_option maxRecDepth 100000 in
set_option maxHeartbeats 4000000 in
theorem validDelta_any (x : Dl) (B : Nat) (k e : Value) (w : World) (hk : IIn w B k x.kept) (he : EdsIn w B e x.edits) (hB : B ≤ w.heap.size) (hi : ∀ y ∈ x.edits, EdI y) :
    Calls Tryz.prog 53 #[.agg (dltC x k e)] w (RetBool (dlB x) w) := by
  obtain ⟨i0, hi0, hz0, hz1, hz2⟩ := info_parts info_edit
  obtain ⟨dev, rnd, frm, too, kept, dec, prt, pts, eds⟩ := x
  simp only at hk he hi ⊢
  obtain ⟨kA, kc, rfl⟩ := IIn.form hk
  obtain ⟨eA, ec, rfl⟩ := EdsIn.form he
  have hkcap := (SlIn.cap hk).1
  have hkcm := (SlIn.cap hk).2
  obtain ⟨-, hecap, hecm⟩ := he.cap
  have HK_ := Lib.hid hk
  have HE_ := Lib.hid he
  have HI := Lib.hid hi
  clear hk he hi
  go_enter Tryz.func53, Tryz.ntmps53
  go_upto_region 1 with (fail)
  obtain ⟨w0, h0⟩ : ∃ w0, w.alloc (.cells (dltC ⟨dev, rnd, frm, too, kept, dec, prt, pts, eds⟩ (.slice kA kept.length kc) (.slice eA eds.length ec)) 36) = w0 := ⟨_, rfl⟩
  have HK := Lib.hid (show Kept Kno w w0 by rw [← h0]; exact (Kept.refl _ _).alloc _)
  have HG := Lib.hid (show Blk w0 w.heap.size 36 (dltC ⟨dev, rnd, frm, too, kept, dec, prt, pts, eds⟩ (.slice kA kept.length kc) (.slice eA eds.length ec)) by rw [← h0]; exact Blk.new _ _ _)
  rw [h0]
  clear h0
  obtain ⟨Z, hZ⟩ : ∃ n, w.heap.size = n := ⟨_, rfl⟩
  rw [hZ] at HG ⊢
  have hBZ : B ≤ w0.heap.size := Nat.le_trans hB HK.out.size
  have HKP : Hid (IIn w0 B (.slice kA kept.length kc) kept) := Lib.hid (IIn.keep0 HK_.out hB HK.out)
  have HED : Hid (EdsIn w0 B (.slice eA eds.length ec) eds) := Lib.hid (EdsIn.keep0 HE_.out hB HK.out)
  clear hZ HK_ HE_
  have c3 : w0.cell? ⟨Z, 3, none⟩ = some (.int .i64 0) := HG.out.cell 3
  have c4 : w0.cell? ⟨Z, 4, none⟩ = some (.int .i64 0) := HG.out.cell 4
  have c5 : w0.cell? ⟨Z, 5, none⟩ = some (.slice none 0 0) := HG.out.cell 5
  have c6 : w0.cell? ⟨Z, 6, none⟩ = some (.int .i64 0) := HG.out.cell 6
  have c7 : w0.cell? ⟨Z, 7, none⟩ = some (.slice none 0 0) := HG.out.cell 7
  go_wp2_with (first | (refine wpList_load_at rfl 29 (.tmp 33) rfl Z 15 [.int .i64 0, .int .i64 0, .int .i64 0, .slice none 0 0, .bool false, .slice none 0 0] _ rfl (CellsAt.sub HG.out 15 rfl) Tryz.underlying29 rfl (by kernel_rfl) ?_))
  refine (noSubmission_z w0).mono ?_
  rintro e w1 ⟨rfl, hk1⟩
  have HG1 := Lib.hid (HG.out.kept hk1 (fun h => h))
  have HK1 := Lib.hid (hk1)
  clear hk1 c3 c4 c5 c6 c7
  go_wp2_with (first | (refine wpList_load_atW rfl 34 (.tmp 38) rfl Z 21 [.int .i64 0, .int .i64 0, .int .i64 0, .slice none 0 0, .int .i64 0, .int .i64 0, .int .i64 0, .int .i64 0, .int .i64 0, .slice none 0 0] _ rfl (CellsAt.sub HG1.out 21 rfl) Tryz.underlying34 rfl (by kernel_rfl) ?_))
  refine (noVerdict_z w1).mono ?_
  rintro e w2 ⟨rfl, hk2⟩
  have HG2 := Lib.hid (HG1.out.kept hk2 (fun h => h))
  have HK2 := Lib.hid (HK1.out.then0 hk2)
  have d2_2 : w2.cell? ⟨Z, 2, none⟩ = some (.int .i64 rnd) := HG2.out.cell 2
  clear hk2 
  go_wp2_with fail
  refine (within_any rnd 0 1073741824 w2).mono ?_
  rintro e w3 ⟨rfl, hk3⟩
  have HG3 := Lib.hid (HG2.out.kept hk3 (fun h => h))
  have HK3 := Lib.hid (HK2.out.then0 hk3)
  have d3_9 : w3.cell? ⟨Z, 9, none⟩ = some (.int .i64 too) := HG3.out.cell 9
  clear hk3 d2_2
  cases h3 : wB rnd 0 1073741824 with
  | false =>
    have HX := Lib.hid (show RetBool (dlB ⟨dev, rnd, frm, too, kept, dec, prt, pts, eds⟩) w (.returned (.bool false)) w3 from ⟨by simp [dlB, h3], HK.out.then0 HK3.out⟩)
    clear h3
    go_wp2
    go_ret
    exact HX.out
  | true =>
  have H3 := Lib.hid h3
  clear h3
  go_wp2_with fail
  refine (within_any too 0 1073741824 w3).mono ?_
  rintro e w4 ⟨rfl, hk4⟩
  have HG4 := Lib.hid (HG3.out.kept hk4 (fun h => h))
  have HK4 := Lib.hid (HK3.out.then0 hk4)
  have d4_8 : w4.cell? ⟨Z, 8, none⟩ = some (.int .i64 frm) := HG4.out.cell 8
  have d4_9 : w4.cell? ⟨Z, 9, none⟩ = some (.int .i64 too) := HG4.out.cell 9
  clear hk4 d3_9
  cases h4 : wB too 0 1073741824 with
  | false =>
    have HX := Lib.hid (show RetBool (dlB ⟨dev, rnd, frm, too, kept, dec, prt, pts, eds⟩) w (.returned (.bool false)) w4 from ⟨by simp [dlB, h4], HK.out.then0 HK4.out⟩)
    clear h4
    go_wp2
    go_ret
    exact HX.out
  | true =>
  have H4 := Lib.hid h4
  clear h4
  go_wp2_with fail
  refine (within_any frm (-1) too w4).mono ?_
  rintro e w5 ⟨rfl, hk5⟩
  have HG5 := Lib.hid (HG4.out.kept hk5 (fun h => h))
  have HK5 := Lib.hid (HK4.out.then0 hk5)
  have d5_11 : w5.cell? ⟨Z, 11, none⟩ = some (.int .i64 dec) := HG5.out.cell 11
  clear hk5 d4_8 d4_9
  cases h5 : wB frm (-1) too with
  | false =>
    have HX := Lib.hid (show RetBool (dlB ⟨dev, rnd, frm, too, kept, dec, prt, pts, eds⟩) w (.returned (.bool false)) w5 from ⟨by simp [dlB, h5], HK.out.then0 HK5.out⟩)
    clear h5
    go_wp2
    go_ret
    exact HX.out
  | true =>
  have H5 := Lib.hid h5
  clear h5
  go_wp2_with fail
  refine (within_any dec 0 1073741824 w5).mono ?_
  rintro e w6 ⟨rfl, hk6⟩
  have HG6 := Lib.hid (HG5.out.kept hk6 (fun h => h))
  have HK6 := Lib.hid (HK5.out.then0 hk6)
  have d6_10 : w6.cell? ⟨Z, 10, none⟩ = some (.slice kA kept.length kc) := HG6.out.cell 10
  have d6_13 : w6.cell? ⟨Z, 13, none⟩ = some (.int .i64 pts) := HG6.out.cell 13
  clear hk6 d5_11
  cases h6 : wB dec 0 1073741824 with
  | false =>
    have HX := Lib.hid (show RetBool (dlB ⟨dev, rnd, frm, too, kept, dec, prt, pts, eds⟩) w (.returned (.bool false)) w6 from ⟨by simp [dlB, h6], HK.out.then0 HK6.out⟩)
    clear h6
    go_wp2
    go_ret
    exact HX.out
  | true =>
  have H6 := Lib.hid h6
  clear h6
  by_cases hkl : kept.length ≤ 8
  rotate_left
  · have hklI : (8 : Int) < (kept.length : Int) := by omega
    have HX := Lib.hid (show RetBool (dlB ⟨dev, rnd, frm, too, kept, dec, prt, pts, eds⟩) w (.returned (.bool false)) w6 from ⟨by simp [dlB, hkl], HK.out.then0 HK6.out⟩)
    go_wp2
    go_ret
    exact HX.out
  have hklI : ¬ (8 : Int) < (kept.length : Int) := by omega
  go_wp2_with fail
  refine (within_any pts 1 512 w6).mono ?_
  rintro e w7 ⟨rfl, hk7⟩
  have HG7 := Lib.hid (HG6.out.kept hk7 (fun h => h))
  have HK7 := Lib.hid (HK6.out.then0 hk7)
  have d7_12 : w7.cell? ⟨Z, 12, none⟩ = some (.int .i64 prt) := HG7.out.cell 12
  have d7_13 : w7.cell? ⟨Z, 13, none⟩ = some (.int .i64 pts) := HG7.out.cell 13
  clear hk7 d6_10 d6_13
  cases h7 : wB pts 1 512 with
  | false =>
    have HX := Lib.hid (show RetBool (dlB ⟨dev, rnd, frm, too, kept, dec, prt, pts, eds⟩) w (.returned (.bool false)) w7 from ⟨by simp [dlB, h7], HK.out.then0 HK7.out⟩)
    clear h7
    go_wp2
    go_ret
    exact HX.out
  | true =>
  have H7 := Lib.hid h7
  clear h7
  have hpts : 1 ≤ pts ∧ pts ≤ 512 := by
    have := H7.out
    unfold wB at this
    rw [Bool.and_eq_true, decide_eq_true_eq, decide_eq_true_eq] at this
    exact this
  have hp1 := hpts.1
  have hp2 := hpts.2
  clear hpts
  go_wp2_with fail
  refine (within_any prt 0 (pts - 1) w7).mono ?_
  rintro e w8 ⟨rfl, hk8⟩
  have HG8 := Lib.hid (HG7.out.kept hk8 (fun h => h))
  have HK8 := Lib.hid (HK7.out.then0 hk8)
  have d8_10 : w8.cell? ⟨Z, 10, none⟩ = some (.slice kA kept.length kc) := HG8.out.cell 10
  clear hk8 d7_12 d7_13
  cases h8 : wB prt 0 (pts - 1) with
  | false =>
    have HX := Lib.hid (show RetBool (dlB ⟨dev, rnd, frm, too, kept, dec, prt, pts, eds⟩) w (.returned (.bool false)) w8 from ⟨by simp [dlB, h8], HK.out.then0 HK8.out⟩)
    clear h8
    go_wp2
    go_ret
    exact HX.out
  | true =>
  have H8 := Lib.hid h8
  clear h8
  have HDB := Lib.hid (show dlB ⟨dev, rnd, frm, too, kept, dec, prt, pts, eds⟩ = (incB 0 kept && eds.all edB) by simp [dlB, H3.out, H4.out, H5.out, H6.out, H7.out, H8.out, hkl])
  have HX : Hid (∀ b w', (incB 0 kept && eds.all edB) = b → Kept Kno w8 w' → RetBool (dlB ⟨dev, rnd, frm, too, kept, dec, prt, pts, eds⟩) w (.returned (.bool b)) w') := Lib.hid (fun b w' hb hk => ⟨by rw [HDB.out, hb], HK.out.then0 (HK8.out.then0 hk)⟩)
  have HLE := Lib.hid hkl
  clear hkl HDB H3 H4 H5 H6 H7 H8
  go_upto_region 8 with (fail)
  obtain ⟨m, hm⟩ : ∃ n, kept.length = n := ⟨_, rfl⟩
  have HM := Lib.hid hm
  rw [hm] at d8_10 hkcap HKP
  clear hm hklI
  go_upto_block 0 with (fail)
  go_cut [] (fun wx => incB 0 kept = true ∧ Kept Kno w8 wx)
  case first =>
    go_wp2_with fail
    go_loopw [3, 91] (fun l i wr => KeptRel kept w8 l i wr) (fun _ i _ => m - (intOf i).toNat)
    case atStart => exact ⟨0, 0, Nat.zero_le _, rfl, rfl, rfl, Kept.refl _ _⟩
    case round =>
      obtain ⟨k, last, hk, rfl, rfl, hed, hkr⟩ := hrel
      rw [HM.out] at hk
      have HE := Lib.hid hed
      have HKR := Lib.hid hkr
      have hk0 : (0 : Int) ≤ (k : Int) := by omega
      clear hed hkr
      by_cases hlt : k < m
      · have hltI : (k : Int) < (m : Int) := by omega
        obtain ⟨cx, hcx⟩ : ∃ x, kept[k]? = some x := ⟨_, List.getElem?_eq_getElem (by rw [HM.out]; exact hlt)⟩
        obtain ⟨gc, oc, rfl, -, -, -, hgc, hcc⟩ := HKP.out.get hcx
        have q0 : wr.cell? ⟨gc, oc + k, none⟩ = some (.int .i64 cx) := (HK8.out.then0 HKR.out).cell_some hcc (fun h => h)
        have HAT := Lib.hid (incB_at (a := last) hcx)
        clear hcx hcc hgc
        by_cases h7 : cx ≤ last
        · have HXX := Lib.hid (HX.out false wr (by rw [HE.out, HAT.out, decide_eq_true h7]; rfl) HKR.out)
          go_wp2
          go_ret
          exact HXX.out
        · have HREL := Lib.hid (show KeptRel kept w8 (.int .i64 cx) (.int .i64 ((k + 1 : Nat) : Int)) wr from ⟨k + 1, cx, by rw [HM.out]; omega, rfl, rfl, by rw [HE.out, HAT.out, decide_eq_false h7]; rfl, HKR.out⟩)
          go_wp2
          go_roundw
          case rel => exact HREL.out
          case measure => simp [intOf]; omega
      · have hltI : ¬ (k : Int) < (m : Int) := by omega
        have HR := Lib.hid (show incB 0 kept = true ∧ Kept Kno w8 wr from ⟨by rw [HE.out, List.drop_of_length_le (by rw [HM.out]; omega)]; rfl, HKR.out⟩)
        go_wp2_with fail
        go_meet
        exact HR.out
  case rest =>
  obtain ⟨hinc, hkc⟩ := hcut
  have HINC := Lib.hid hinc
  have HKC := Lib.hid hkc
  have HGC := Lib.hid (HG8.out.kept hkc (fun h => h))
  have HXC : Hid (∀ b w', eds.all edB = b → Kept Kno wc w' → RetBool (dlB ⟨dev, rnd, frm, too, kept, dec, prt, pts, eds⟩) w (.returned (.bool b)) w') := Lib.hid (fun b w' hb hk => HX.out b w' (by rw [HINC.out, Bool.true_and]; exact hb) (HKC.out.then0 hk))
  have HEDC : Hid (EdsIn wc B (.slice eA eds.length ec) eds) := Lib.hid (EdsIn.keep0 HED.out hBZ (HK8.out.then0 hkc))
  have hBC : B ≤ wc.heap.size := Nat.le_trans hBZ (HK8.out.then0 hkc).size
  have g14 : wc.cell? ⟨Z, 14, none⟩ = some (.slice eA eds.length ec) := HGC.out.cell 14
  clear hinc hkc d8_10 HX HED HINC
  obtain ⟨q, hq⟩ : ∃ n, eds.length = n := ⟨_, rfl⟩
  have HQ := Lib.hid hq
  rw [hq] at g14 hecap HEDC
  clear hq
  go_upto_region 16 with (fail)
  go_loopw [103] (fun i wr => EdsRel eds wc i wr) (fun i _ => q - (intOf i).toNat)
  case atStart => exact ⟨0, Nat.zero_le _, rfl, rfl, Kept.refl _ _⟩
  case round =>
    obtain ⟨k, hk, rfl, hed, hkr⟩ := hrel
    rw [HQ.out] at hk
    have HE := Lib.hid hed
    have HKR := Lib.hid hkr
    have hk0 : (0 : Int) ≤ (k : Int) := by omega
    clear hed hkr
    by_cases hlt : k < q
    · have hltI : (k : Int) < (q : Int) := by omega
      obtain ⟨y, hy⟩ : ∃ x, eds[k]? = some x := ⟨_, List.getElem?_eq_getElem (by rw [HQ.out]; exact hlt)⟩
      obtain ⟨ge, oe, kv, cv, vv, rfl, -, hge, hce, hkv, hcv, hvv⟩ := HEDC.out.at_ hy
      have HCE := Lib.hid (hce.old hge (HKR.out.old hBC (fun _ _ h => h)))
      have HYI := Lib.hid (HI.out y (List.mem_of_getElem? hy))
      have HTK := Lib.hid (show (eds.take (k + 1)).all edB = edB y by rw [List.take_add_one, hy, List.all_append, HE.out]; simp)
      have HIN := Lib.hid (show RIn wr B kv y.key ∧ IIn wr B cv y.cols ∧ RIn wr B vv y.cells from ⟨hkv.keep0 hBC HKR.out, hcv.keep0 hBC HKR.out, hvv.keep0 hBC HKR.out⟩)
      have HMEM := Lib.hid (List.mem_of_getElem? hy)
      obtain ⟨kA', kc', hkf⟩ : ∃ A c, kv = .slice A y.key.length c := SlIn.form hkv
      obtain ⟨cA', cc', hcf⟩ : ∃ A c', cv = .slice A y.cols.length c' := SlIn.form hcv
      obtain ⟨vA', vc', hvf⟩ : ∃ A c', vv = .slice A y.cells.length c' := SlIn.form hvv
      have HONE := Lib.hid (show kv.oneCell' = true ∧ cv.oneCell' = true ∧ vv.oneCell' = true by rw [hkf, hcf, hvf]; exact ⟨rfl, rfl, rfl⟩)
      clear hy hce hge hkv hcv hvv hkf hcf hvf
      go_upto_region 18 with (first
        | (refine wpList_load_at rfl 73 (.tmp 105) rfl ge (oe + k * 5) [.int .i64 y.op, .int .i64 y.tab, kv, cv, vv] _ rfl HCE.out Tryz.underlying73 rfl (by kernel_rfl) ?_)
        | (refine wpList_store_new rfl 73 (.tmp 7) (.tmp 106) rfl _ #[.int .i64 y.op, .int .i64 y.tab, kv, cv, vv] rfl rfl (by kernel_rfl) rfl (by simp [HONE.out.1, HONE.out.2.1, HONE.out.2.2]; simp [Value.oneCell']) ?_))
      obtain ⟨wy, hwy⟩ : ∃ wy, wr.alloc (.cells #[.int .i64 y.op, .int .i64 y.tab, kv, cv, vv] 73) = wy := ⟨_, rfl⟩
      have HKY := Lib.hid (show Kept Kno wr wy by rw [← hwy]; exact (Kept.refl _ _).alloc _)
      have HYB := Lib.hid (show Blk wy wr.heap.size 73 #[.int .i64 y.op, .int .i64 y.tab, kv, cv, vv] by rw [← hwy]; exact Blk.new _ _ _)
      have hBR : B ≤ wr.heap.size := Nat.le_trans hBC HKR.out.size
      rw [hwy]
      clear hwy HCE
      go_wp2_with (first | (refine wpList_load_row rfl 73 (.tmp 7) rfl wr.heap.size rfl 73 #[.int .i64 y.op, .int .i64 y.tab, kv, cv, vv] (0, 0) _ HYB.out Tryz.underlying73 rfl (by kernel_rfl) ?_))
      refine (validEdit_any y B kv cv vv wy (HIN.out.1.keep0 hBR HKY.out) (HIN.out.2.1.keep0 hBR HKY.out) (HIN.out.2.2.keep0 hBR HKY.out) (Nat.le_trans hBR HKY.out.size) HYI.out.1 HYI.out.2.1 HYI.out.2.2).mono ?_
      rintro e wv ⟨rfl, hkv⟩
      have HKV := Lib.hid (HKR.out.then0 (HKY.out.then0 hkv))
      clear hkv
      cases hb : edB y with
      | false =>
        have HXX := Lib.hid (HXC.out false wv (by rw [List.all_eq_false]; exact ⟨y, HMEM.out, by simp [hb]⟩) HKV.out)
        clear hb
        go_wp2
        go_ret
        exact HXX.out
      | true =>
        have HREL := Lib.hid (show EdsRel eds wc (.int .i64 ((k + 1 : Nat) : Int)) wv from ⟨k + 1, by rw [HQ.out]; omega, rfl, by rw [HTK.out, hb], HKV.out⟩)
        clear hb
        go_wp2
        go_roundw
        case rel => exact HREL.out
        case measure => simp [intOf]; omega
    · have hltI : ¬ (k : Int) < (q : Int) := by omega
      have HXX := Lib.hid (HXC.out true wr (by have := HE.out; rw [List.take_of_length_le (by rw [HQ.out]; omega)] at this; exact this) HKR.out)
      go_wp2
      go_ret
      exact HXX.out

/-- A delta that is valid as a message. -/
def dltB (x : Dl) : Bool := wB x.dev 1 8 && (decide (x.edits.length ≤ 32) && dlB x)
set_option maxRecDepth 100000 in
set_option maxHeartbeats 4000000 in
theorem valid_delta (x : Dl) (B : Nat) (k e : Value) (w : World) (hk : IIn w B k x.kept) (he : EdsIn w B e x.edits) (hB : B ≤ w.heap.size) (hi : ∀ y ∈ x.edits, EdI y) :
    Calls Tryz.prog 34 #[.agg (dltC x k e)] w (RetBool (dltB x) w) := by
  obtain ⟨dev, rnd, frm, too, kept, dec, prt, pts, eds⟩ := x
  simp only at hk he hi ⊢
  obtain ⟨kA, kc, rfl⟩ := IIn.form hk
  obtain ⟨eA, ec, rfl⟩ := EdsIn.form he
  have HIK := Lib.hid hk
  have HIE := Lib.hid he
  have HI := Lib.hid hi
  clear hk he hi
  have HSZ := Lib.hid (size_dlt ⟨dev, rnd, frm, too, kept, dec, prt, pts, eds⟩ (.slice kA kept.length kc) (.slice eA eds.length ec))
  obtain ⟨w0, h0⟩ : ∃ w0, w0 = w.alloc (.cells (dltC ⟨dev, rnd, frm, too, kept, dec, prt, pts, eds⟩ (.slice kA kept.length kc) (.slice eA eds.length ec)) 36) := ⟨_, rfl⟩
  have hk0 : Kept Kno w w0 := by rw [h0]; exact (Kept.refl _ _).alloc _
  have hG : Blk w0 w.heap.size 36 (dltC ⟨dev, rnd, frm, too, kept, dec, prt, pts, eds⟩ (.slice kA kept.length kc) (.slice eA eds.length ec)) := by rw [h0]; exact Blk.new _ _ _
  have c1 : w0.cell? ⟨w.heap.size, 1, none⟩ = some (.int .i64 dev) := hG.cell 1
  have c0 : w0.cell? ⟨w.heap.size, 0, none⟩ = some (.int .i64 2) := hG.cell 0
  have c14 : w0.cell? ⟨w.heap.size, 14, none⟩ = some (.slice eA eds.length ec) := hG.cell 14
  have HK := Lib.hid hk0
  have HG := Lib.hid hG
  have HE0 := Lib.hid h0
  clear h0 hk0 hG
  go_enter Tryz.func34, Tryz.ntmps34
  go_upto_region 1 with (fail)
  rw [← HE0.out]
  by_cases hd1 : dev < 1
  · have HX := Lib.hid (show RetBool (dltB ⟨dev, rnd, frm, too, kept, dec, prt, pts, eds⟩) w (.returned (.bool false)) w0 from ⟨by simp [dltB, wB_lo hd1], HK.out⟩)
    go_wp2
    go_ret
    exact HX.out
  by_cases hd8 : 8 < dev
  · have HX := Lib.hid (show RetBool (dltB ⟨dev, rnd, frm, too, kept, dec, prt, pts, eds⟩) w (.returned (.bool false)) w0 from ⟨by simp [dltB, wB_hi hd8], HK.out⟩)
    go_wp2
    go_ret
    exact HX.out
  have HWB := Lib.hid (show wB dev 1 8 = true by unfold wB; rw [decide_eq_true (by omega), decide_eq_true (by omega)]; rfl)
  obtain ⟨q, hq⟩ : ∃ n, eds.length = n := ⟨_, rfl⟩
  have HQ := Lib.hid hq
  rw [hq] at c14
  clear hq
  by_cases hl : q ≤ 32
  rotate_left
  · have hlI : ¬ (q : Int) ≤ 32 := by omega
    have HX := Lib.hid (show RetBool (dltB ⟨dev, rnd, frm, too, kept, dec, prt, pts, eds⟩) w (.returned (.bool false)) w0 from ⟨by simp [dltB, HWB.out, HQ.out, hl], HK.out⟩)
    go_wp2
    go_ret
    exact HX.out
  have hlI : (q : Int) ≤ 32 := by omega
  go_wp2_with (first | (refine wpList_load_rowW rfl 36 (.tmp 1) rfl w.heap.size rfl 36 (dltC ⟨dev, rnd, frm, too, kept, dec, prt, pts, eds⟩ (.slice kA kept.length kc) (.slice eA eds.length ec)) (0, 0) _ HG.out Tryz.underlying36 rfl HSZ.out ?_))
  refine (validDelta_any ⟨dev, rnd, frm, too, kept, dec, prt, pts, eds⟩ B _ _ w0 (IIn.keep0 HIK.out hB HK.out) (EdsIn.keep0 HIE.out hB HK.out) (Nat.le_trans hB HK.out.size) HI.out).mono ?_
  rintro e w1 ⟨rfl, hk1⟩
  obtain ⟨bh, hbh⟩ : ∃ bh, bh = dlB ⟨dev, rnd, frm, too, kept, dec, prt, pts, eds⟩ := ⟨_, rfl⟩
  have HX := Lib.hid (show RetBool (dltB ⟨dev, rnd, frm, too, kept, dec, prt, pts, eds⟩) w (.returned (.bool bh)) w1 from ⟨by simp [dltB, HWB.out, HQ.out, hl, hbh], HK.out.then0 hk1⟩)
  rw [← hbh]
  clear hbh hk1
  go_wp2
  go_ret
  exact HX.out

/-! The law's deltas are valid. -/
theorem edB_of {x : Ed} (h : EdOk x) : edB x = true := by
  have hr := h.real
  have hl := h.klen
  obtain ⟨h1, h2, h3, -⟩ := h
  have hw : wB x.tab 0 7 = true := by unfold wB; rw [decide_eq_true h2, decide_eq_true (by omega)]; rfl
  obtain ⟨op, tab, key, cols, cells⟩ := x
  simp only at h1 h2 h3 hr hl hw ⊢
  unfold edB
  simp only [hr, hl, hw]
  rcases h1 with ⟨rfl, rfl, rfl⟩ | ⟨ho, rfl, s, rfl, hs⟩
  · rfl
  · rcases ho with rfl | rfl <;> simp [wB, edLoopB, edEndB, validB, hs]
theorem EdOk.i {x : Ed} (h : EdOk x) : EdI x := by
  refine ⟨h.vals, ?_, ?_⟩
  · obtain ⟨h1, -⟩ := h
    rcases h1 with ⟨-, -, h1⟩ | ⟨-, -, s, h1, hs⟩
    · rw [h1]; intro y hy; cases hy
    · rw [h1]
      intro y hy
      simp only [List.mem_singleton] at hy
      subst hy
      exact ⟨by show (-9223372036854775808 : Int) ≤ 0; omega, by show (0 : Int) ≤ 9223372036854775807; omega, by show s.size ≤ maxLen; unfold maxLen; omega⟩
  · obtain ⟨h1, -⟩ := h
    rcases h1 with ⟨-, h1, -⟩ | ⟨-, h1, -⟩
    · rw [h1]; intro y hy; cases hy
    · rw [h1]
      intro y hy
      simp only [List.mem_singleton] at hy
      subst hy
      exact ⟨by omega, by omega⟩
theorem wB_t {n a b : Int} (h1 : a ≤ n) (h2 : n ≤ b) : wB n a b = true := by unfold wB; rw [decide_eq_true h1, decide_eq_true h2]; rfl
theorem DlOk.dl {x : Dl} (h : DlOk x) : dlB x = true := by
  have h1 := h.dev
  have h2 := h.round
  have h3 := h.to_
  have h4 := h.from_
  have h5 := h.dec
  have h6 := h.parts
  have h7 := h.part
  have h8 := h.kept
  unfold dlB
  rw [wB_t h2.1 h2.2, wB_t h3.1 h3.2, wB_t h4.1 h4.2, wB_t h5.1 h5.2, wB_t h6.1 h6.2, wB_t h7.1 h7.2, decide_eq_true h8.2, incB_of h8.1]
  simp only [Bool.true_and, List.all_eq_true]
  exact fun y hy => edB_of (h.eds y hy)
theorem DlOk.dlt {x : Dl} (h : DlOk x) (hl : x.edits.length ≤ 32) : dltB x = true := by
  unfold dltB
  rw [wB_t h.dev.1 h.dev.2, decide_eq_true hl, h.dl]
  rfl
theorem DlOk.i {x : Dl} (h : DlOk x) : ∀ y ∈ x.edits, EdI y := fun y hy => (h.eds y hy).i

end Go.Proofs.YtffdaohmalmkfaaGreat
