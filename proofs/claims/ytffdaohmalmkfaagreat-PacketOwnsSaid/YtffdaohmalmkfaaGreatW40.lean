/-
  Packet: validEdit at any edit.
-/
import Derived.Test.YtffdaohmalmkfaaGreatW29
set_option linter.unusedSimpArgs false
set_option linter.unusedVariables false
namespace Go.Proofs.YtffdaohmalmkfaaGreat
open Go.RowKit
set_option linter.unusedVariables false

theorem RIn.row {w : World} {B : Nat} {v : Value} {xs : List Val} (h : RIn w B v xs) (hok : ∀ x ∈ xs, okVal x) : RowIn w v xs := by
  obtain ⟨A, cap, he, h2, h3, h4, h5, h6, h7⟩ := h
  refine ⟨A, cap, he, h2, h3, fun h0 => ?_, hok⟩
  obtain ⟨g, o, hA, hg, hc⟩ := h7 h0
  refine ⟨g, o, hA, fun i x hx => ?_⟩
  have hcc : CellsAt w g (o + i * 3) (vCells x) := CellsAt.flat hc (fun y => rfl) hx
  exact ⟨hcc 0 _ rfl, hcc 1 _ rfl, hcc 2 _ rfl⟩
theorem within_t {n a b : Int} (w : World) (h1 : a ≤ n) (h2 : n ≤ b) : Calls Tryz.prog 52 #[.int .i64 n, .int .i64 a, .int .i64 b] w (RetBool true w) := by
  have h := within_any n a b w
  have hb : wB n a b = true := by unfold wB; rw [decide_eq_true h1, decide_eq_true h2]; rfl
  rw [hb] at h
  exact h
/-- The columns ascend, and the cells are valid. -/
def edLoopB (op : Int) : Int → List (Int × Val) → Bool
  | _, [] => true
  | last, (c, v) :: r => !decide (c ≤ last) && !decide (8 ≤ c) && validB v.kind v.n v.s && !(op == 1 && v.kind == 1) && edLoopB op c r
def edEndB (op : Int) (n : Nat) : Bool := if op = 2 then decide (0 < n) else if op = 3 then decide (n = 0) else true
def edB (x : Ed) : Bool := wB x.op 1 3 && wB x.tab 0 7 && wB x.key.length 1 8 && realsB x.key && decide (x.cols.length ≤ 8) && decide (x.cells.length = x.cols.length) && edLoopB x.op (-1) (x.cols.zip x.cells) && edEndB x.op x.cols.length
/-- The rounds of validEdit: what remains decides. -/
def EdRel (op : Int) (cols : List Int) (cells : List Val) (w0 : World) (l i : Value) (wr : World) : Prop :=
  ∃ (k : Nat) (last : Int), k ≤ cols.length ∧ i = .int .i64 k ∧ l = .int .i64 last ∧ edLoopB op (-1) (cols.zip cells) = edLoopB op last ((cols.drop k).zip (cells.drop k)) ∧ Kept Kno w0 wr
theorem edLoop_at {op last c : Int} {cols : List Int} {cells : List Val} {v : Val} {k : Nat} (hc : cols[k]? = some c) (hv : cells[k]? = some v) :
    edLoopB op last ((cols.drop k).zip (cells.drop k)) = (!decide (c ≤ last) && !decide (8 ≤ c) && validB v.kind v.n v.s && !(op == 1 && v.kind == 1) && edLoopB op c ((cols.drop (k + 1)).zip (cells.drop (k + 1)))) := by
  obtain ⟨h1, rfl⟩ := List.getElem?_eq_some_iff.1 hc
  obtain ⟨h2, rfl⟩ := List.getElem?_eq_some_iff.1 hv
  rw [List.drop_eq_getElem_cons h1, List.drop_eq_getElem_cons h2, List.zip_cons_cons, edLoopB]
theorem IIn.get {w : World} {B : Nat} {A : Option Addr} {n cap : Nat} {xs : List Int} (h : IIn w B (.slice A n cap) xs) {k : Nat} {x : Int} (hk : xs[k]? = some x) :
    ∃ g o, A = some ⟨g, o, none⟩ ∧ n = xs.length ∧ n ≤ cap ∧ cap ≤ maxLen ∧ g < B ∧ w.cell? ⟨g, o + k, none⟩ = some (.int .i64 x) := by
  obtain ⟨A', cap', he, h2, h3, h4, h5, h6, h7⟩ := h
  simp only [Value.slice.injEq] at he
  obtain ⟨rfl, rfl, rfl⟩ := he
  obtain ⟨hlt, -⟩ := List.getElem?_eq_some_iff.1 hk
  obtain ⟨g, o, rfl, hg, hc⟩ := h7 (by omega)
  exact ⟨g, o, rfl, rfl, h2, h3, hg, hc k _ (by rw [List.getElem?_map, hk]; rfl)⟩
theorem RIn.get {w : World} {B : Nat} {A : Option Addr} {n cap : Nat} {xs : List Val} (h : RIn w B (.slice A n cap) xs) {k : Nat} {x : Val} (hk : xs[k]? = some x) :
    ∃ g o, A = some ⟨g, o, none⟩ ∧ n = xs.length ∧ n ≤ cap ∧ cap ≤ maxLen ∧ g < B ∧ CellsAt w g (o + k * 3) (vCells x) := by
  obtain ⟨A', cap', he, h2, h3, h4, h5, h6, h7⟩ := h
  simp only [Value.slice.injEq] at he
  obtain ⟨rfl, rfl, rfl⟩ := he
  obtain ⟨hlt, -⟩ := List.getElem?_eq_some_iff.1 hk
  obtain ⟨g, o, rfl, hg, hc⟩ := h7 (by omega)
  exact ⟨g, o, rfl, rfl, h2, h3, hg, CellsAt.flat hc (fun y => rfl) hk⟩
theorem SlIn.cap {w : World} {B sz n : Nat} {A : Option Addr} {m cap : Nat} {xs : List Value} (h : SlIn w B sz (.slice A m cap) n xs) : n ≤ cap ∧ cap ≤ 9223372036854775807 := by
  obtain ⟨A', cap', he, h2, h3, -⟩ := h
  simp only [Value.slice.injEq] at he
  obtain ⟨rfl, rfl, rfl⟩ := he
  exact ⟨h2, by simpa only [maxLen] using h3⟩

set_option maxRecDepth 100000 in
set_option maxHeartbeats 4000000 in
theorem validEdit_any (x : Ed) (B : Nat) (k c v : Value) (w : World) (hk : RIn w B k x.key) (hc : IIn w B c x.cols) (hv : RIn w B v x.cells) (hB : B ≤ w.heap.size) (hkv : ∀ y ∈ x.key, okVal y) (hcv : ∀ y ∈ x.cells, okVal y) (hci : ∀ y ∈ x.cols, I64 y) :
    Calls Tryz.prog 118 #[.agg #[.int .i64 x.op, .int .i64 x.tab, k, c, v]] w (RetBool (edB x) w) := by
  obtain ⟨op, tab, key, cols, cells⟩ := x
  simp only at hk hc hv hkv hcv hci ⊢
  obtain ⟨kA, kc, rfl⟩ : ∃ A c, k = .slice A key.length c := SlIn.form hk
  obtain ⟨cA, cc, rfl⟩ : ∃ A c', c = .slice A cols.length c' := SlIn.form hc
  obtain ⟨vA, vc, rfl⟩ : ∃ A c', v = .slice A cells.length c' := SlIn.form hv
  have HR := Lib.hid (hk.row hkv)
  have HC_ := Lib.hid hc
  have HV_ := Lib.hid hv
  have HCV := Lib.hid hcv
  have HCI := Lib.hid hci
  have hccap := (SlIn.cap hc).1
  have hccm := (SlIn.cap hc).2
  have hvcap := (SlIn.cap hv).1
  have hvcm := (SlIn.cap hv).2
  clear hk hc hv hkv hcv hci
  go_enter Tryz.func118, Tryz.ntmps118
  go_upto_region 1 with (fail)
  obtain ⟨w0, h0⟩ : ∃ w0, w.alloc (.cells #[.int .i64 op, .int .i64 tab, .slice kA key.length kc, .slice cA cols.length cc, .slice vA cells.length vc] 73) = w0 := ⟨_, rfl⟩
  have HK := Lib.hid (show Kept Kno w w0 by rw [← h0]; exact (Kept.refl _ _).alloc _)
  have HG := Lib.hid (show Blk w0 w.heap.size 73 #[.int .i64 op, .int .i64 tab, .slice kA key.length kc, .slice cA cols.length cc, .slice vA cells.length vc] by rw [← h0]; exact Blk.new _ _ _)
  rw [h0]
  clear h0
  obtain ⟨Z, hZ⟩ : ∃ n, w.heap.size = n := ⟨_, rfl⟩
  rw [hZ] at HG ⊢
  have hBZ : B ≤ w0.heap.size := Nat.le_trans hB HK.out.size
  have HC0 := Lib.hid (HC_.out.keep0 hB HK.out)
  have HV0 : Hid (RIn w0 B (.slice vA cells.length vc) cells) := Lib.hid (RIn.keep0 HV_.out hB HK.out)
  have HR0 := Lib.hid (HR.out.kept0 HK.out)
  clear hZ HC_ HV_ HR
  have c0 : w0.cell? ⟨Z, 0, none⟩ = some (.int .i64 op) := HG.out.cell 0
  go_wp2_with fail
  refine (within_any op 1 3 w0).mono ?_
  rintro e w1 ⟨rfl, hk1⟩
  have HG1 := Lib.hid (HG.out.kept hk1 (fun h => h))
  have HK1 := Lib.hid hk1
  have d1 : w1.cell? ⟨Z, 1, none⟩ = some (.int .i64 tab) := HG1.out.cell 1
  clear hk1 c0
  cases h1 : wB op 1 3 with
  | false =>
    have HX := Lib.hid (show RetBool (edB ⟨op, tab, key, cols, cells⟩) w (.returned (.bool false)) w1 from ⟨by simp [edB, h1], HK.out.then0 HK1.out⟩)
    clear h1
    go_wp2
    go_ret
    exact HX.out
  | true =>
  have H1 := Lib.hid h1
  clear h1
  go_wp2_with fail
  refine (within_any tab 0 7 w1).mono ?_
  rintro e w2 ⟨rfl, hk2⟩
  have HG2 := Lib.hid (HG1.out.kept hk2 (fun h => h))
  have HK2 := Lib.hid (HK1.out.then0 hk2)
  have d2 : w2.cell? ⟨Z, 2, none⟩ = some (.slice kA key.length kc) := HG2.out.cell 2
  clear hk2 d1
  cases h2 : wB tab 0 7 with
  | false =>
    have HX := Lib.hid (show RetBool (edB ⟨op, tab, key, cols, cells⟩) w (.returned (.bool false)) w2 from ⟨by simp [edB, h2], HK.out.then0 HK2.out⟩)
    clear h2
    go_wp2
    go_ret
    exact HX.out
  | true =>
  have H2 := Lib.hid h2
  clear h2
  go_wp2_with fail
  refine (within_any (key.length : Int) 1 8 w2).mono ?_
  rintro e w3 ⟨rfl, hk3⟩
  have HG3 := Lib.hid (HG2.out.kept hk3 (fun h => h))
  have HK3 := Lib.hid (HK2.out.then0 hk3)
  have d3 : w3.cell? ⟨Z, 2, none⟩ = some (.slice kA key.length kc) := HG3.out.cell 2
  clear hk3 d2
  cases h3 : wB (key.length : Int) 1 8 with
  | false =>
    have HX := Lib.hid (show RetBool (edB ⟨op, tab, key, cols, cells⟩) w (.returned (.bool false)) w3 from ⟨by simp [edB, h3], HK.out.then0 HK3.out⟩)
    clear h3
    go_wp2
    go_ret
    exact HX.out
  | true =>
  have H3 := Lib.hid h3
  clear h3
  go_wp2_with fail
  refine (real_any _ key w3 (HR0.out.kept0 HK3.out)).mono ?_
  rintro e w4 ⟨rfl, hk4⟩
  have HG4 := Lib.hid (HG3.out.kept hk4 (fun h => h))
  have HK4 := Lib.hid (HK3.out.then0 hk4)
  have e0 : w4.cell? ⟨Z, 0, none⟩ = some (.int .i64 op) := HG4.out.cell 0
  have e3 : w4.cell? ⟨Z, 3, none⟩ = some (.slice cA cols.length cc) := HG4.out.cell 3
  have e4 : w4.cell? ⟨Z, 4, none⟩ = some (.slice vA cells.length vc) := HG4.out.cell 4
  clear hk4 d3
  cases h4 : realsB key with
  | false =>
    have HX := Lib.hid (show RetBool (edB ⟨op, tab, key, cols, cells⟩) w (.returned (.bool false)) w4 from ⟨by simp [edB, h4], HK.out.then0 HK4.out⟩)
    clear h4
    go_wp2
    go_ret
    exact HX.out
  | true =>
  have H4 := Lib.hid h4
  clear h4
  by_cases h5 : cols.length ≤ 8
  rotate_left
  · have h5I : (8 : Int) < (cols.length : Int) := by omega
    have HX := Lib.hid (show RetBool (edB ⟨op, tab, key, cols, cells⟩) w (.returned (.bool false)) w4 from ⟨by simp [edB, h5], HK.out.then0 HK4.out⟩)
    go_wp2
    go_ret
    exact HX.out
  have h5I : ¬ (8 : Int) < (cols.length : Int) := by omega
  obtain ⟨n, hn⟩ : ∃ n, cols.length = n := ⟨_, rfl⟩
  obtain ⟨m, hm⟩ : ∃ n, cells.length = n := ⟨_, rfl⟩
  have HN := Lib.hid hn
  have HM := Lib.hid hm
  rw [hn] at e3 h5I hccap HC0 h5
  rw [hm] at e4 hvcap HV0
  clear hn hm
  by_cases h6 : m = n
  rotate_left
  · have h6I : ((m : Int) != (n : Int)) = true := by rw [bne_iff_ne]; omega
    have HX := Lib.hid (show RetBool (edB ⟨op, tab, key, cols, cells⟩) w (.returned (.bool false)) w4 from ⟨by simp [edB, HN.out, HM.out, h6], HK.out.then0 HK4.out⟩)
    clear h6
    go_wp2
    go_ret
    exact HX.out
  subst h6
  have HED := Lib.hid (show edB ⟨op, tab, key, cols, cells⟩ = (edLoopB op (-1) (cols.zip cells) && edEndB op m) by simp [edB, H1.out, H2.out, H3.out, H4.out, HN.out, HM.out, h5])
  have HX : Hid (∀ b w', (edLoopB op (-1) (cols.zip cells) && edEndB op m) = b → Kept Kno w0 w' → RetBool (edB ⟨op, tab, key, cols, cells⟩) w (.returned (.bool b)) w') := Lib.hid (fun b w' hb hk => ⟨by rw [HED.out, hb], HK.out.then0 hk⟩)
  clear HED H1 H2 H3 H4
  go_upto_region 5 with (fail)
  go_loopw [3, 47] (fun l i wr => EdRel op cols cells w4 l i wr) (fun _ i _ => m - (intOf i).toNat)
  case atStart => exact ⟨0, -1, Nat.zero_le _, rfl, rfl, rfl, Kept.refl _ _⟩
  case round =>
    obtain ⟨k, last, hk, rfl, rfl, hed, hkr⟩ := hrel
    rw [HN.out] at hk
    have HE := Lib.hid hed
    have HKR := Lib.hid hkr
    have hk0 : (0 : Int) ≤ (k : Int) := by omega
    have r0 : wr.cell? ⟨Z, 0, none⟩ = some (.int .i64 op) := (HG4.out.kept hkr (fun h => h)).cell 0
    have r3 : wr.cell? ⟨Z, 3, none⟩ = some (.slice cA m cc) := by have := (HG4.out.kept hkr (fun h => h)).cell 3; rw [this]; simp [HN.out]
    have r4 : wr.cell? ⟨Z, 4, none⟩ = some (.slice vA m vc) := by have := (HG4.out.kept hkr (fun h => h)).cell 4; rw [this]; simp [HM.out]
    clear hed hkr
    by_cases hlt : k < m
    · have hltI : (k : Int) < (m : Int) := by omega
      obtain ⟨cx, hcx⟩ : ∃ x, cols[k]? = some x := ⟨_, List.getElem?_eq_getElem (by rw [HN.out]; exact hlt)⟩
      obtain ⟨vx, hvx⟩ : ∃ x, cells[k]? = some x := ⟨_, List.getElem?_eq_getElem (by rw [HM.out]; exact hlt)⟩
      obtain ⟨gc, oc, rfl, -, -, -, hgc, hcc⟩ := HC0.out.get hcx
      obtain ⟨gv, ov, rfl, -, -, -, hgv, hcv⟩ := HV0.out.get hvx
      have hkw := HK4.out.then0 HKR.out
      have q0 : wr.cell? ⟨gc, oc + k, none⟩ = some (.int .i64 cx) := hkw.cell_some hcc (fun h => h)
      have hcv' := hcv.old hgv (hkw.old hBZ (fun _ _ h => h))
      obtain ⟨vk, vn, vs⟩ := vx
      have v0 : wr.cell? ⟨gv, ov + k * 3, none⟩ = some (.int .i64 vk) := hcv' 0 _ rfl
      have v1 : wr.cell? ⟨gv, ov + k * 3 + 1, none⟩ = some (.int .i64 vn) := hcv' 1 _ rfl
      have v2 : wr.cell? ⟨gv, ov + k * 3 + 1 + 1, none⟩ = some (.string vs) := hcv' 2 _ rfl
      have HCX := Lib.hid hcx
      have HVX := Lib.hid hvx
      have HAT := Lib.hid (edLoop_at (op := op) (last := last) hcx hvx)
      clear hcx hvx hcc hcv hcv' hgc hgv hkw
      by_cases h7 : cx ≤ last
      · have HXX := Lib.hid (HX.out false wr (by rw [HE.out, HAT.out, decide_eq_true h7]; rfl) (HK4.out.then0 HKR.out))
        go_wp2
        go_ret
        exact HXX.out
      by_cases h8 : 8 ≤ cx
      · have HXX := Lib.hid (HX.out false wr (by rw [HE.out, HAT.out, decide_eq_true h8]; simp) (HK4.out.then0 HKR.out))
        go_wp2
        go_ret
        exact HXX.out
      go_wp2_with fail
      refine (valid_any vk vn vs wr).mono ?_
      rintro e wv ⟨rfl, hkv⟩
      have HKV := Lib.hid (HKR.out.then0 hkv)
      have s0 : wv.cell? ⟨Z, 0, none⟩ = some (.int .i64 op) := (HG4.out.kept HKV.out (fun h => h)).cell 0
      have s4 : wv.cell? ⟨Z, 4, none⟩ = some (.slice (some ⟨gv, ov, none⟩) m vc) := hkv.cell_some r4 (fun h => h)
      have t0 : wv.cell? ⟨gv, ov + k * 3, none⟩ = some (.int .i64 vk) := hkv.cell_some v0 (fun h => h)
      clear r0 r3 r4 q0 v0 v1 v2 hkv
      cases h9 : validB vk vn vs with
      | false =>
        have HXX := Lib.hid (HX.out false wv (by rw [HE.out, HAT.out]; simp [h9]) (HK4.out.then0 HKV.out))
        clear h9
        go_wp2
        go_ret
        exact HXX.out
      | true =>
      have H9 := Lib.hid h9
      clear h9
      by_cases h10 : op = 1
      · have h10b : (op == 1) = true := by rw [h10]; rfl
        by_cases h11 : vk = 1
        · have h11b : (vk == 1) = true := by rw [h11]; rfl
          have HXX := Lib.hid (HX.out false wv (by rw [HE.out, HAT.out]; simp [h10b, h11b]) (HK4.out.then0 HKV.out))
          clear h10 h11
          go_wp2
          go_ret
          exact HXX.out
        · have h11b : (vk == 1) = false := by simpa using h11
          have HREL := Lib.hid (show EdRel op cols cells w4 (.int .i64 cx) (.int .i64 ((k + 1 : Nat) : Int)) wv from ⟨k + 1, cx, by rw [HN.out]; omega, rfl, rfl, by rw [HE.out, HAT.out]; simp [h7, h8, H9.out, h11b], HKV.out⟩)
          clear h10 h11 h7 h8
          go_wp2
          go_roundw
          case rel => exact HREL.out
          case measure => simp [intOf]; omega
      · have h10b : (op == 1) = false := by simpa using h10
        have HREL := Lib.hid (show EdRel op cols cells w4 (.int .i64 cx) (.int .i64 ((k + 1 : Nat) : Int)) wv from ⟨k + 1, cx, by rw [HN.out]; omega, rfl, rfl, by rw [HE.out, HAT.out]; simp [h7, h8, H9.out, h10b], HKV.out⟩)
        clear h10 h7 h8
        go_wp2
        go_roundw
        case rel => exact HREL.out
        case measure => simp [intOf]; omega
    · have hltI : ¬ (k : Int) < (m : Int) := by omega
      have hkm : k = m := by omega
      have HL := Lib.hid (show edLoopB op (-1) (cols.zip cells) = true by rw [HE.out, List.drop_of_length_le (by rw [HN.out]; omega)]; simp [edLoopB])
      clear hkm
      by_cases h2 : op = 2
      · have h2b : (op == 2) = true := by rw [h2]; rfl
        by_cases hm0 : 0 < m
        · have hmI : (0 : Int) < (m : Int) := by omega
          have HXX := Lib.hid (HX.out true wr (by rw [HL.out]; simp [edEndB, h2, hm0]) (HK4.out.then0 HKR.out))
          clear h2
          go_wp2
          go_ret
          exact HXX.out
        · have hmI : ¬ (0 : Int) < (m : Int) := by omega
          have HXX := Lib.hid (HX.out false wr (by rw [HL.out]; simp [edEndB, h2, hm0]) (HK4.out.then0 HKR.out))
          clear h2
          go_wp2
          go_ret
          exact HXX.out
      have h2b : (op == 2) = false := by simpa using h2
      by_cases h3 : op = 3
      · have h3b : (op == 3) = true := by rw [h3]; rfl
        by_cases hm0 : m = 0
        · have hmI : ((m : Int) == 0) = true := by rw [hm0]; rfl
          have HXX := Lib.hid (HX.out true wr (by rw [HL.out]; simp [edEndB, h3, hm0]) (HK4.out.then0 HKR.out))
          clear h2 h3 hm0
          go_wp2
          go_ret
          exact HXX.out
        · have hmI : ((m : Int) == 0) = false := by rw [beq_eq_false_iff_ne]; omega
          have HXX := Lib.hid (HX.out false wr (by rw [HL.out]; simp [edEndB, h3, hm0]) (HK4.out.then0 HKR.out))
          clear h2 h3 hm0
          go_wp2
          go_ret
          exact HXX.out
      have h3b : (op == 3) = false := by simpa using h3
      have HXX := Lib.hid (HX.out true wr (by rw [HL.out]; simp [edEndB, h2, h3]) (HK4.out.then0 HKR.out))
      clear h2 h3
      go_wp2
      go_ret
      exact HXX.out

end Go.Proofs.YtffdaohmalmkfaaGreat
