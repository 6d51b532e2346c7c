/-
  Packet: a collector's Add at the next part of its delta. (Printed by gen_pakmi.py.)
-/
import Derived.Test.YtffdaohmalmkfaaGreatW47
set_option linter.unusedSimpArgs false
set_option linter.unusedVariables false
namespace Go.Proofs.YtffdaohmalmkfaaGreat
open Go.RowKit
set_option linter.unusedVariables false

theorem wpList_build_clt {ops : Array Oper} {rest : List Oper} {o : Oper} {a : Act} {w : World} {Q : Exit → Act → World → Prop} {x : Dl} {k : Value} {b : Nat} (hg : o.guard = none) (y z : Operand) (ho : o.op = .build 142 #[(0, .const (.bool true)), (1, y), (2, z)])
    (hx : x.part = 0) (hy : a.eval y = .agg (dltC x k (.slice none 0 0))) (hz : a.eval z = .map (some b))
    (h : wpList Tryz.prog ops Q rest (a.put o.dst (.agg (cltC x k (.map (some b)) false))) w) : wpList Tryz.prog ops Q (o :: rest) a w :=
  wpList_build_is hg 142 _ ho [(0, .bool true), (1, .agg (dltC x k (.slice none 0 0))), (2, .map (some b))] (by rw [Array.toList_map]; show [(0, Value.bool true), (1, a.eval y), (2, a.eval z)] = _; rw [hy, hz]) _ (built_clt x k b hx) h
theorem Kept.trans' {S : Nat → Prop} {a b c : World} (h : Kept Kno a b) (k : Kept S b c) : Kept S a c := (h.mono (fun _ _ h => h.elim)).trans k (fun _ _ h => h)
def AddOk (S : Nat → Bool) (C b : Nat) (dev rnd frm too : Int) (kept : List Int) (dec : Int) (n i : Nat) (es : List (List Ed)) (pe : List Ed) (w : World) (e : Ending) (w' : World) : Prop :=
  ∃ (S' : Nat → Bool) (b' : Nat), (∀ k, k < w.heap.size → S' k = S k) ∧ (∀ k, S' k = true → k < w'.heap.size) ∧ Kept (fun k => k = C ∨ (0 < i ∧ k = b)) w w' ∧ (0 < i → b' = b) ∧ (i = 0 → w.heap.size ≤ b') ∧
    ((i + 1 < n ∧ e = .returned (.tuple #[.agg dltZ, .bool false]) ∧ ColIs S' w' C b' ⟨dev, rnd, frm, too, kept, dec, 0, (n : Int), []⟩ (es ++ [pe])) ∨
     (i + 1 = n ∧ ∃ kv ev, kv.oneCell' = true ∧ e = .returned (.tuple #[.agg (dltC ⟨dev, rnd, frm, too, kept, dec, 0, 1, []⟩ kv ev), .bool true]) ∧ EdsIn (erase S' w') w'.heap.size ev (es ++ [pe]).flatten))
def GatRel (S : Nat → Bool) (es : List (List Ed)) (w : World) (x i : Value) (wr : World) : Prop :=
  ∃ (j : Nat) (A : Option Addr) (cap : Nat) (qs : List (Ed × List Value)), j ≤ es.length ∧ i = .int .i64 j ∧ x = .slice A qs.length cap ∧ qs.map (·.1) = (es.take j).flatten ∧ LOut EdQ 73 5 S w.heap.size wr A cap qs ∧ Kept Kno w wr

set_option maxRecDepth 100000 in
set_option maxHeartbeats 1000000 in
theorem add_any (S T : Nat → Bool) (C b : Nat) (dev rnd frm too : Int) (kept : List Int) (dec : Int) (n i : Nat) (es : List (List Ed)) (pe : List Ed) (k e : Value) (w : World)
    (hpre : (i = 0 ∧ Blk w C 142 cltZ) ∨ (0 < i ∧ ColIs S w C b ⟨dev, rnd, frm, too, kept, dec, 0, (n : Int), []⟩ es)) (hes : es.length = i) (hi : i < n) (hn : n ≤ 100) (hok : DlOk ⟨dev, rnd, frm, too, kept, dec, (i : Int), (n : Int), pe⟩) (hpl : pe.length ≤ 32)
    (hk : IIn (erase T w) w.heap.size k kept) (he : EdsIn (erase T w) w.heap.size e pe) (hTC : T C = true) (hTb : 0 < i → T b = true) (hSC : S C = true) (hlt : ∀ k, S k = true → k < w.heap.size) (hsum : es.flatten.length ≤ 10000) :
    Calls Tryz.prog 22 #[.pointer (some ⟨C, 0, none⟩), .agg (dltC ⟨dev, rnd, frm, too, kept, dec, (i : Int), (n : Int), pe⟩ k e)] w (AddOk S C b dev rnd frm too kept dec n i es pe w) := by
  obtain ⟨i0, hi0, z00, z01, z02⟩ := info_parts info_edit
  have hmm := @run_makeMap Tryz.prog
  obtain ⟨kA, kc, rfl⟩ := IIn.form hk
  obtain ⟨eA, ec, rfl⟩ := EdsIn.form he
  have HIK := Lib.hid hk
  have HIE := Lib.hid he
  have HOK := Lib.hid hok
  have HPRE := Lib.hid hpre
  have HDLT := Lib.hid (show dltB ⟨dev, rnd, frm, too, kept, dec, (i : Int), (n : Int), pe⟩ = true from hok.dlt hpl)
  have HKL := Lib.hid (show kept.length ≤ 1000 from Nat.le_trans hok.kept.2 (by decide))
  have HSH : Hid (∀ y ∈ pe, EdShort y) := Lib.hid (fun y hy => (hok.eds y hy).short)
  have hCw : C < w.heap.size := hlt C hSC
  have HLT := Lib.hid hlt
  have HES := Lib.hid hes
  have HSC := Lib.hid hSC
  have HTC := Lib.hid hTC
  have HTB := Lib.hid hTb
  have HSUM := Lib.hid hsum
  clear hk he hok hpre hlt hes hSC hTC hTb hsum
  go_enter Tryz.func22, Tryz.ntmps22
  go_upto_region 1 with (fail)
  obtain ⟨w0, h0⟩ : ∃ w0, (w.alloc (.cells (dltC ⟨dev, rnd, frm, too, kept, dec, (i : Int), (n : Int), pe⟩ (.slice kA kept.length kc) (.slice eA pe.length ec)) 36)).alloc (.cells dltZ 36) = w0 := ⟨_, rfl⟩
  have HK := Lib.hid (show Kept Kno w w0 by rw [← h0]; exact ((Kept.refl _ _).alloc _).alloc _)
  have HG := Lib.hid (show Blk w0 w.heap.size 36 (dltC ⟨dev, rnd, frm, too, kept, dec, (i : Int), (n : Int), pe⟩ (.slice kA kept.length kc) (.slice eA pe.length ec)) by rw [← h0]; exact (Blk.new _ _ _).alloc _)
  have HH := Lib.hid (show Blk w0 (w.heap.size + 1) 36 dltZ by rw [← h0]; have := Blk.new (w.alloc (.cells (dltC ⟨dev, rnd, frm, too, kept, dec, (i : Int), (n : Int), pe⟩ (.slice kA kept.length kc) (.slice eA pe.length ec)) 36)) 36 dltZ; simpa using this)
  have h0' := h0
  unfold dltZ at h0'
  rw [h0']
  have hz0 : w0.heap.size = w.heap.size + 2 := by rw [← h0]; simp
  clear h0 h0'
  obtain ⟨Z, hZ⟩ : ∃ n, w.heap.size = n := ⟨_, rfl⟩
  obtain ⟨Y, hY⟩ : ∃ n, Z + 1 = n := ⟨_, rfl⟩
  have HZ := Lib.hid hZ
  rw [hZ] at HG HH hCw hz0 ⊢
  rw [hY] at HH ⊢
  have hYw : Y < w0.heap.size := by omega
  have hZY : Z < Y := by omega
  have HZ0 := Lib.hid hz0
  clear hZ hY hz0
  have HIK0 := Lib.hid (IIn.keep2 (S' := T) HIK.out HK.out (fun _ h => h.elim) (fun _ _ => rfl))
  have HIE0 := Lib.hid (EdsIn.keep2 (S' := T) HIE.out HK.out (fun _ h => h.elim) (fun _ _ => rfl))
  clear HIK HIE
  have c0 : w0.cell? ⟨Z, 0, none⟩ = some (.int .i64 2) := HG.out.cell 0
  go_wp2_with (first | (refine wpList_load_rowW rfl 36 (.tmp 3) rfl Z rfl 36 (dltC ⟨dev, rnd, frm, too, kept, dec, (i : Int), (n : Int), pe⟩ (.slice kA kept.length kc) (.slice eA pe.length ec)) (0, 0) _ HG.out Tryz.underlying36 rfl (size_dlt _ _ _) ?_))
  refine (valid_delta ⟨dev, rnd, frm, too, kept, dec, (i : Int), (n : Int), pe⟩ w0.heap.size _ _ w0 HIK0.out.plain HIE0.out.plain (Nat.le_refl _) HOK.out.i).mono ?_
  rintro e w1 ⟨rfl, hk1⟩
  rw [HDLT.out]
  have HK1 := Lib.hid hk1
  have HG1 := Lib.hid (HG.out.kept hk1 (fun h => h))
  have HH1 := Lib.hid (HH.out.kept hk1 (fun h => h))
  have HIK1 := Lib.hid (IIn.keep2 (S' := T) HIK0.out hk1 (fun _ h => h.elim) (fun _ _ => rfl))
  have HIE1 := Lib.hid (EdsIn.keep2 (S' := T) HIE0.out hk1 (fun _ h => h.elim) (fun _ _ => rfl))
  have hz1 : w0.heap.size ≤ w1.heap.size := hk1.size
  have HKW1 := Lib.hid (HK.out.then0 hk1)
  clear hk1 c0 HIK0 HIE0
  have hS5 : ∃ S1 : Nat → Bool, S1 = more S Y := ⟨_, rfl⟩
  obtain ⟨S1, hS1⟩ := hS5
  have HS1A : Hid (∀ k, k < w.heap.size → S1 k = S k) := Lib.hid (fun k hk => by rw [hS1]; exact more_old (by have := HZ.out; omega))
  have HS1L : Hid (∀ k, S1 k = true → k < w0.heap.size) := Lib.hid (fun k hk => by
    rw [hS1] at hk
    cases hs : S k with
    | true => have := HLT.out k hs; have := HZ.out; omega
    | false =>
      have : k = Y := by simpa [more, hs] using hk
      omega)
  have HS1Y : Hid (S1 Y = true) := Lib.hid (by rw [hS1]; exact more_self _ _)
  clear hS1
  rcases HPRE.out with ⟨hi0', hCZ⟩ | ⟨hi1, hcol⟩
  · have HI0 := Lib.hid hi0'
    have HCZ := Lib.hid (hCZ.kept HKW1.out (fun h => h))
    have y0 : w1.cell? ⟨C, 0, none⟩ = some (.bool false) := HCZ.out.cell 0
    have z13 : w1.cell? ⟨Z, 13, none⟩ = some (.int .i64 (n : Int)) := HG1.out.cell 13
    clear hi0' hCZ HPRE
    go_wp2_with (first | (refine wpList_load_row rfl 36 (.tmp 3) rfl Z rfl 36 (dltC ⟨dev, rnd, frm, too, kept, dec, (i : Int), (n : Int), pe⟩ (.slice kA kept.length kc) (.slice eA pe.length ec)) (0, 0) _ HG1.out Tryz.underlying36 rfl (size_dlt _ _ _) ?_))
    refine (head_any ⟨dev, rnd, frm, too, kept, dec, (i : Int), (n : Int), pe⟩ w1.heap.size _ _ none 0 0 0 (n : Int) w1 HIK1.out.plain (Nat.le_refl _) HKL.out).mono ?_
    rintro e w2 ⟨A2, c2, rfl, ho2, hk2⟩
    simp only at ho2 ⊢
    have HO2 := Lib.hid ho2
    have HK2 := Lib.hid hk2
    have HCZ2 := Lib.hid (HCZ.out.kept hk2 (fun h => h))
    have hz2 : w1.heap.size ≤ w2.heap.size := hk2.size
    clear ho2 hk2 y0 z13
    go_upto_region 7 with (first
      | (refine wpList_build_clt (x := ⟨dev, rnd, frm, too, kept, dec, 0, (n : Int), []⟩) (k := .slice A2 kept.length c2) (b := w2.heap.size) rfl (.tmp 33) (.tmp 34) rfl (by rfl) (by rfl) (by rfl) ?_)
      | (refine wpList_store_row rfl 142 (.tmp 36) (.tmp 35) rfl C (cltC ⟨dev, rnd, frm, too, kept, dec, 0, (n : Int), []⟩ (.slice A2 kept.length c2) (.map (some w2.heap.size)) false) rfl rfl 142 cltZ (HCZ2.out.alloc _) (size_clt _ _ _ _) rfl (clt_one _ _ _ _ rfl rfl) ?_))
    simp only [Act.put]
    obtain ⟨w5, hw5⟩ : ∃ x, (w2.alloc (.map #[] 0)).setRow C (cltC ⟨dev, rnd, frm, too, kept, dec, 0, (n : Int), []⟩ (.slice A2 kept.length c2) (.map (some w2.heap.size)) false) = x := ⟨_, rfl⟩
    have hka : Kept Kno w2 (w2.alloc (.map #[] 0)) := (Kept.refl _ _).alloc _
    have hkb : Kept (Kone C) (w2.alloc (.map #[] 0)) w5 := by rw [← hw5]; exact (Kept.refl _ _).setRow (fun _ => by unfold Kone; rfl) _
    have hk5 : Kept (Kone C) w2 w5 := (hka.mono (fun _ _ h => h.elim)).trans hkb (fun _ _ h => h)
    have hcb : Blk w5 C 142 (cltC ⟨dev, rnd, frm, too, kept, dec, 0, (n : Int), []⟩ (.slice A2 kept.length c2) (.map (some w2.heap.size)) false) := by rw [← hw5]; exact (HCZ2.out.alloc _).setRow _
    have hsz5 : w2.heap.size < w5.heap.size := by have := hkb.size; simp at this; omega
    obtain ⟨b5, hb5⟩ : ∃ x, w2.heap.size = x := ⟨_, rfl⟩
    have hm5 : MapIs w5 b5 [] := by rw [← hb5]; exact (MapIs.new w2).kept hkb (fun e => by unfold Kone at e; have := HZ.out; omega)
    have hag : ∀ k, k < w2.heap.size → more S1 b5 k = S1 k := fun k hk => more_old (by omega)
    have hkd : IIn (erase (more S1 b5) w5) w5.heap.size (.slice A2 kept.length c2) kept := IIn.keep2 (S := S1) (own_slin HO2.out (fun k hk => by
      cases hx : S1 k with
      | false => rfl
      | true => have := HS1L.out k hx; omega)) hk5 (fun k hk => by unfold Kone at hk; subst hk; rw [HS1A.out k (by have := HZ.out; omega)]; exact HSC.out) hag
    have HK5 := Lib.hid (show Kept (Kone C) w w5 from (HKW1.out.then0 HK2.out).trans' hk5)
    obtain ⟨kd5, hkd5⟩ : ∃ x, Value.slice A2 kept.length c2 = x := ⟨_, rfl⟩
    have HVS : Hid (∃ (S5 : Nat → Bool) (kd5 : Value) (vs5 : List Value), Kept (Kone C) w w5 ∧ Blk w5 C 142 (cltC ⟨dev, rnd, frm, too, kept, dec, 0, (n : Int), []⟩ kd5 (.map (some b5)) false) ∧ kd5.oneCell' = true ∧ IIn (erase S5 w5) w5.heap.size kd5 kept ∧ MapIs w5 b5 vs5 ∧ vs5.length = i ∧ (∀ (j : Nat) (v : Value) (e : List Ed), vs5[j]? = some v → es[j]? = some e → EdsIn (erase S5 w5) w5.heap.size v e) ∧ Blk w5 Z 36 (dltC ⟨dev, rnd, frm, too, kept, dec, (i : Int), (n : Int), pe⟩ (.slice kA kept.length kc) (.slice eA pe.length ec)) ∧ Blk w5 Y 36 dltZ ∧ EdsIn (erase T w5) w5.heap.size (.slice eA pe.length ec) pe ∧ (∀ k, k < w.heap.size → S5 k = S k) ∧ (∀ k, S5 k = true → k < w5.heap.size) ∧ S5 C = true ∧ S5 b5 = true ∧ S5 Y = true ∧ C ≠ b5 ∧ Z ≠ b5 ∧ Y ≠ b5 ∧ (0 < i → b5 = b) ∧ (i = 0 → w.heap.size ≤ b5)) := Lib.hid (by
      have hzw := HZ.out
      have hi0 := HI0.out
      have hz0 := HZ0.out
      refine ⟨more S1 b5, .slice A2 kept.length c2, [], HK5.out, by rw [← hb5]; exact hcb, rfl, hkd, hm5, by rw [hi0]; rfl, fun j v e h => by simp at h, ?_, ?_, ?_, ?_, ?_, ?_, more_self _ _, more_le HS1Y.out, by omega, by omega, by omega, by omega, by omega⟩
      · exact ((HG1.out.kept HK2.out (fun h => h)).kept hk5 (fun e => by unfold Kone at e; omega))
      · exact ((HH1.out.kept HK2.out (fun h => h)).kept hk5 (fun e => by unfold Kone at e; omega))
      · exact EdsIn.keep2 (S' := T) (EdsIn.keep2 (S' := T) HIE1.out HK2.out (fun _ h => h.elim) (fun _ _ => rfl)) hk5 (fun k hk => by unfold Kone at hk; subst hk; exact HTC.out) (fun _ _ => rfl)
      · exact fun k hk => by rw [hag k (by omega)]; exact HS1A.out k hk
      · exact fun k hk => by
          cases hs : S1 k with
          | true => have := HS1L.out k hs; omega
          | false =>
            have : k = b5 := by simpa [more, hs] using hk
            omega
      · rw [hag C (by omega), HS1A.out C (by omega)]; exact HSC.out)
    rw [hw5]
    clear hw5 hka hkb hk5 hcb hsz5 hb5 hm5 hag hkd HK5 hkd5 kd5 HO2 HK2 HCZ2 HCZ HI0 hz2
    obtain ⟨S5, kd5, vs5, hK5, hCB5, hkd1, hKD5, hM5, hVL, hVE, hGZ, hHY, hED5, hS5A, hS5L, hS5C, hS5b, hS5Y, hCN, hZN, hYN, hB1, hB2⟩ := HVS.out
    have HK5 := Lib.hid hK5
    have HCB5 := Lib.hid hCB5
    have HKD1 := Lib.hid hkd1
    have HKD5 := Lib.hid hKD5
    have HM5 := Lib.hid hM5
    have HVL := Lib.hid hVL
    have HVE := Lib.hid hVE
    have HGZ := Lib.hid hGZ
    have HHY := Lib.hid hHY
    have HED5 := Lib.hid hED5
    have HS5A := Lib.hid hS5A
    have HS5C := Lib.hid hS5C
    have HS5b := Lib.hid hS5b
    have HS5Y := Lib.hid hS5Y
    have HCN := Lib.hid hCN
    have HZN := Lib.hid hZN
    have HYN := Lib.hid hYN
    have HB1 := Lib.hid hB1
    have HB2 := Lib.hid hB2
    have HS5L0 := Lib.hid hS5L
    clear hK5 hCB5 hkd1 hKD5 hM5 hVL hVE hGZ hHY hED5 hS5A hS5L hS5C hS5b hS5Y hCN hZN hYN hB1 hB2 HVS HG1 HH1 HIK1 HIE1 HS1A HS1L HS1Y HKW1 HK1 HDLT
    go_upto_region 7 with (fail)
    refine wp_region_held_drew (S := fun w' => Blk w' C 142 (cltC ⟨dev, rnd, frm, too, kept, dec, 0, (n : Int), []⟩ kd5 (.map (some b5)) false) ∧ Blk w' Z 36 (dltC ⟨dev, rnd, frm, too, kept, dec, (i : Int), (n : Int), pe⟩ (.slice kA kept.length kc) (.slice eA pe.length ec)) ∧ MapIs w' b5 vs5) (by kernel_rfl) ⟨HCB5.out.drew, HGZ.out.drew, HM5.out.kept ((Kept.refl Kno _).drew) (fun h => h)⟩ (fun hHeld => ?_)
    refine wpAnyH_takeE (i := 0) (v := .pointer (some ⟨C, 0, none⟩)) rfl rfl (by kernel_rfl) (by kernel_rfl) (by kernel_rfl) (fun _ _ _ h => h) (Or.inl ⟨by rfl, fun w1 hw => by go_simp⟩) (by assumption) ?_
    (try simp only [Act.put, List.setIfInBounds_toArray, List.set_cons_zero, List.set_cons_succ])
    refine wpAnyH_takeE (i := 1) (v := .pointer (some ⟨C, 0, none⟩)) rfl rfl (by kernel_rfl) (by kernel_rfl) (by kernel_rfl) (fun _ _ _ h => h) (Or.inl ⟨by rfl, fun w1 hw => by go_simp⟩) (by assumption) ?_
    (try simp only [Act.put, List.setIfInBounds_toArray, List.set_cons_zero, List.set_cons_succ])
    refine wpAnyH_takeE (i := 2) (v := .pointer (some ⟨C, 32, none⟩)) rfl rfl (by kernel_rfl) (by kernel_rfl) (by kernel_rfl) (fun _ _ _ h => h) (Or.inl ⟨by rfl, fun w1 hw => by go_simp⟩) (by assumption) ?_
    (try simp only [Act.put, List.setIfInBounds_toArray, List.set_cons_zero, List.set_cons_succ])
    refine wpAnyH_takeE (i := 3) (v := .map (some b5)) rfl rfl (by kernel_rfl) (by kernel_rfl) (by kernel_rfl) (fun _ _ _ h => h) (Or.inl ⟨by rfl, fun w1 hw => by have c1 : w1.cell? ⟨C, 32, none⟩ = some (.map (some b5)) := hw.1.cell 32; clear hw; go_simp⟩) (by assumption) ?_
    (try simp only [Act.put, List.setIfInBounds_toArray, List.set_cons_zero, List.set_cons_succ])
    refine wpAnyH_takeE (i := 4) (v := .pointer (some ⟨Z, 12, none⟩)) rfl rfl (by kernel_rfl) (by kernel_rfl) (by kernel_rfl) (fun _ _ _ h => h) (Or.inl ⟨by rfl, fun w1 hw => by go_simp⟩) (by assumption) ?_
    (try simp only [Act.put, List.setIfInBounds_toArray, List.set_cons_zero, List.set_cons_succ])
    refine wpAnyH_takeE (i := 5) (v := .int .i64 (i : Int)) rfl rfl (by kernel_rfl) (by kernel_rfl) (by kernel_rfl) (fun _ _ _ h => h) (Or.inl ⟨by rfl, fun w1 hw => by have c1 : w1.cell? ⟨Z, 12, none⟩ = some (.int .i64 (i : Int)) := hw.2.1.cell 12; clear hw; go_simp⟩) (by assumption) ?_
    (try simp only [Act.put, List.setIfInBounds_toArray, List.set_cons_zero, List.set_cons_succ])
    refine wpAnyH_takeE (i := 6) (v := .tuple #[.slice none 0 0, .bool false]) rfl rfl (by kernel_rfl) (by kernel_rfl) (by kernel_rfl) (fun _ _ _ h => h) (yieldsIf_lookup (by rfl) 140 _ _ true rfl (.map (some b5)) (.int .i64 (i : Int)) (.tuple #[.slice none 0 0, .bool false]) rfl rfl (fun w1 hw => by have h := MapIs.miss hw.2.2 true (Nat.le_of_eq HVL.out) (show i ≤ 1000000 by omega); rw [if_pos rfl] at h; exact h)) (by assumption) ?_
    (try simp only [Act.put, List.setIfInBounds_toArray, List.set_cons_zero, List.set_cons_succ])
    refine wpAnyH_takeE (i := 7) (v := .tuple #[.slice none 0 0, .bool false]) rfl rfl (by kernel_rfl) (by kernel_rfl) (by kernel_rfl) (fun _ _ _ h => h) (Or.inl ⟨by rfl, fun w1 hw => by go_simp⟩) (by assumption) ?_
    (try simp only [Act.put, List.setIfInBounds_toArray, List.set_cons_zero, List.set_cons_succ])
    refine wpAnyH_takeE (i := 8) (v := .slice none 0 0) rfl rfl (by kernel_rfl) (by kernel_rfl) (by kernel_rfl) (fun _ _ _ h => h) (Or.inl ⟨by rfl, fun w1 hw => by go_simp⟩) (by assumption) ?_
    (try simp only [Act.put, List.setIfInBounds_toArray, List.set_cons_zero, List.set_cons_succ])
    refine wpAnyH_takeE (i := 9) (v := .bool false) rfl rfl (by kernel_rfl) (by kernel_rfl) (by kernel_rfl) (fun _ _ _ h => h) (Or.inl ⟨by rfl, fun w1 hw => by go_simp⟩) (by assumption) ?_
    (try simp only [Act.put, List.setIfInBounds_toArray, List.set_cons_zero, List.set_cons_succ])
    refine wpAnyH_ready (rs := [10]) (by kernel_rfl) (by simp) ?_
    refine AllReadyH.cons rfl (fun K' hK => ?_) (AllReadyH.nil)
    go_simp
    refine hK.out _ _ ?_ (fun hHeld => ?_)
    · exact ⟨HCB5.out.drew, HGZ.out.drew, HM5.out.kept ((Kept.refl Kno _).drew) (fun h => h)⟩
    clear hK K'
    (try simp only [Act.put, List.setIfInBounds_toArray, List.set_cons_zero, List.set_cons_succ])
    refine wpAnyH_ready (rs := [11]) (by kernel_rfl) (by simp) ?_
    refine AllReadyH.cons rfl (fun K' hK => ?_) (AllReadyH.nil)
    go_simp
    refine hK.out _ _ ?_ (fun hHeld => ?_)
    · exact ⟨HCB5.out.drew, HGZ.out.drew, HM5.out.kept ((Kept.refl Kno _).drew) (fun h => h)⟩
    clear hK K'
    refine wpAnyH_done (by kernel_rfl) ?_ _
    clear hHeld
    have y33 : w5.drew.cell? ⟨C, 33, none⟩ = some (.bool false) := HCB5.out.drew.cell 33
    go_upto_region 10 with (fail)
    obtain ⟨w6, hw6⟩ : ∃ x, w5.drew = x := ⟨_, rfl⟩
    have HK6 := Lib.hid (show Kept Kno w5 w6 by rw [← hw6]; exact (Kept.refl _ _).drew)
    rw [hw6]
    clear hw6 y33
    have HCB6 := Lib.hid (HCB5.out.kept HK6.out (fun h => h))
    have HGZ6 := Lib.hid (HGZ.out.kept HK6.out (fun h => h))
    have HHY6 := Lib.hid (HHY.out.kept HK6.out (fun h => h))
    have HM6 := Lib.hid (HM5.out.kept HK6.out (fun h => h))
    have HED6 := Lib.hid (EdsIn.keep2 (S' := T) HED5.out HK6.out (fun _ h => h.elim) (fun _ _ => rfl))
    have HS5L : Hid (∀ k, S5 k = true → k < w6.drew.heap.size) := Lib.hid (fun k hk => Nat.lt_of_lt_of_le (HS5L0.out k hk) HK6.out.size)
    have hsz65 : w5.heap.size ≤ w6.heap.size := HK6.out.size
    refine wp_region_held_drew (S := fun w' => Blk w' C 142 (cltC ⟨dev, rnd, frm, too, kept, dec, 0, (n : Int), []⟩ kd5 (.map (some b5)) false) ∧ Blk w' Z 36 (dltC ⟨dev, rnd, frm, too, kept, dec, (i : Int), (n : Int), pe⟩ (.slice kA kept.length kc) (.slice eA pe.length ec))) (by kernel_rfl) ⟨HCB6.out.drew, HGZ6.out.drew⟩ (fun hHeld => ?_)
    refine wpAnyH_takeE (i := 0) (v := .pointer (some ⟨C, 0, none⟩)) rfl rfl (by kernel_rfl) (by kernel_rfl) (by kernel_rfl) (fun _ _ _ h => h) (Or.inl ⟨by rfl, fun w1 hw => by go_simp⟩) (by assumption) ?_
    (try simp only [Act.put, List.setIfInBounds_toArray, List.set_cons_zero, List.set_cons_succ])
    refine wpAnyH_takeE (i := 1) (v := .pointer (some ⟨C, 0, none⟩)) rfl rfl (by kernel_rfl) (by kernel_rfl) (by kernel_rfl) (fun _ _ _ h => h) (Or.inl ⟨by rfl, fun w1 hw => by go_simp⟩) (by assumption) ?_
    (try simp only [Act.put, List.setIfInBounds_toArray, List.set_cons_zero, List.set_cons_succ])
    refine wpAnyH_takeE (i := 2) (v := .pointer (some ⟨C, 32, none⟩)) rfl rfl (by kernel_rfl) (by kernel_rfl) (by kernel_rfl) (fun _ _ _ h => h) (Or.inl ⟨by rfl, fun w1 hw => by go_simp⟩) (by assumption) ?_
    (try simp only [Act.put, List.setIfInBounds_toArray, List.set_cons_zero, List.set_cons_succ])
    refine wpAnyH_takeE (i := 3) (v := .map (some b5)) rfl rfl (by kernel_rfl) (by kernel_rfl) (by kernel_rfl) (fun _ _ _ h => h) (Or.inl ⟨by rfl, fun w1 hw => by have c1 : w1.cell? ⟨C, 32, none⟩ = some (.map (some b5)) := hw.1.cell 32; clear hw; go_simp⟩) (by assumption) ?_
    (try simp only [Act.put, List.setIfInBounds_toArray, List.set_cons_zero, List.set_cons_succ])
    refine wpAnyH_takeE (i := 4) (v := .pointer (some ⟨Z, 12, none⟩)) rfl rfl (by kernel_rfl) (by kernel_rfl) (by kernel_rfl) (fun _ _ _ h => h) (Or.inl ⟨by rfl, fun w1 hw => by go_simp⟩) (by assumption) ?_
    (try simp only [Act.put, List.setIfInBounds_toArray, List.set_cons_zero, List.set_cons_succ])
    refine wpAnyH_takeE (i := 5) (v := .int .i64 (i : Int)) rfl rfl (by kernel_rfl) (by kernel_rfl) (by kernel_rfl) (fun _ _ _ h => h) (Or.inl ⟨by rfl, fun w1 hw => by have c1 : w1.cell? ⟨Z, 12, none⟩ = some (.int .i64 (i : Int)) := hw.2.cell 12; clear hw; go_simp⟩) (by assumption) ?_
    (try simp only [Act.put, List.setIfInBounds_toArray, List.set_cons_zero, List.set_cons_succ])
    refine wpAnyH_takeE (i := 6) (v := .pointer (some ⟨Z, 14, none⟩)) rfl rfl (by kernel_rfl) (by kernel_rfl) (by kernel_rfl) (fun _ _ _ h => h) (Or.inl ⟨by rfl, fun w1 hw => by go_simp⟩) (by assumption) ?_
    (try simp only [Act.put, List.setIfInBounds_toArray, List.set_cons_zero, List.set_cons_succ])
    refine wpAnyH_takeE (i := 7) (v := .slice eA pe.length ec) rfl rfl (by kernel_rfl) (by kernel_rfl) (by kernel_rfl) (fun _ _ _ h => h) (Or.inl ⟨by rfl, fun w1 hw => by have c1 : w1.cell? ⟨Z, 14, none⟩ = some (.slice eA pe.length ec) := hw.2.cell 14; clear hw; go_simp⟩) (by assumption) ?_
    (try simp only [Act.put, List.setIfInBounds_toArray, List.set_cons_zero, List.set_cons_succ])
    refine wpAnyH_ready (rs := [8]) (by kernel_rfl) (by simp) ?_
    refine AllReadyH.cons rfl (fun K' hK => ?_) (AllReadyH.nil)
    go_simp
    go_at_call 55
    refine (clone_any S5 pe w6.heap.size _ w6.drew HED6.out.plain (Nat.le_refl _) (by omega) HSH.out HS5L.out).mono ?_
    rintro e w7 ⟨A7, c7, rfl, he7, hk7⟩
    have HE7 := Lib.hid he7
    have HK7 := Lib.hid (show Kept Kno w6 w7 from ((Kept.refl _ w6).drew).then0 hk7)
    clear he7 hk7
    go_wp2_with fail
    refine hK.out _ _ ?_ (fun hHeld => ?_)
    · exact ⟨HCB6.out.kept HK7.out (fun h => h), HGZ6.out.kept HK7.out (fun h => h)⟩
    clear hK K'
    (try simp only [Act.put, List.setIfInBounds_toArray, List.set_cons_zero, List.set_cons_succ])
    refine wpAnyH_ready (rs := [9]) (by kernel_rfl) (by simp) ?_
    refine AllReadyH.cons rfl (fun K' hK => ?_) (AllReadyH.nil)
    rw [if_pos (by rfl)]
    obtain ⟨w8, hrun, hm8, hk8⟩ := MapIs.put (HM6.out.kept HK7.out (fun h => h)) (.slice A7 pe.length c7) (by rw [HVL.out]; omega)
    have HRUN := Lib.hid (show (Instr.mapUpdate 140 (.map (some b5)) (.int .i64 (i : Int)) (.slice A7 pe.length c7)).run Tryz.prog w7 = .ok () w8 by rw [← HVL.out]; exact hrun)
    have HM8 := Lib.hid hm8
    have HK8 := Lib.hid hk8
    clear hrun hm8 hk8
    refine wp_mapUpdate_run 140 _ _ _ rfl rfl (.map (some b5)) (.int .i64 (i : Int)) (.slice A7 pe.length c7) rfl rfl rfl HRUN.out ?_
    refine hK.out _ _ ?_ (fun hHeld => ?_)
    · exact ⟨(HCB6.out.kept HK7.out (fun h => h)).kept HK8.out (fun e => HCN.out e), (HGZ6.out.kept HK7.out (fun h => h)).kept HK8.out (fun e => HZN.out e)⟩
    clear hK K'
    refine wpAnyH_done (by kernel_rfl) ?_ _
    clear hHeld
    go_wp2_with fail
    have hk68 : Kept (Kone b5) w6 w8 := HK7.out.trans' HK8.out
    have hk58 : Kept (Kone b5) w5 w8 := HK6.out.trans' hk68
    have HK58 := Lib.hid hk58
    have hRb : ∀ k, Kone b5 k → S5 k = true := fun k e => by unfold Kone at e; subst e; exact HS5b.out
    have HCB8 := Lib.hid (HCB5.out.kept hk58 (fun e => HCN.out e))
    have HHY8 := Lib.hid (HHY.out.kept hk58 (fun e => HYN.out e))
    have HKD8 := Lib.hid (IIn.keep2 (S' := S5) HKD5.out hk58 hRb (fun _ _ => rfl))
    have HE8 := Lib.hid (EdsIn.keep2 (S' := S5) HE7.out HK8.out hRb (fun _ _ => rfl))
    have HVE8 : Hid (∀ (j : Nat) (v : Value) (e : List Ed), (vs5 ++ [.slice A7 pe.length c7])[j]? = some v → (es ++ [pe])[j]? = some e → EdsIn (erase S5 w8) w8.heap.size v e) := Lib.hid (fun j v e h1 h2 => by
      by_cases hj : j < i
      · rw [List.getElem?_append_left (by rw [HVL.out]; exact hj)] at h1
        rw [List.getElem?_append_left (by rw [HES.out]; exact hj)] at h2
        exact EdsIn.keep2 (S' := S5) (HVE.out j v e h1 h2) HK58.out hRb (fun _ _ => rfl)
      · rw [List.getElem?_append_right (by rw [HVL.out]; omega), HVL.out] at h1
        rw [List.getElem?_append_right (by rw [HES.out]; omega), HES.out] at h2
        obtain ⟨hj2, -⟩ := List.getElem?_eq_some_iff.1 h1
        have : j - i = 0 := by simp at hj2; omega
        rw [this] at h1 h2
        simp only [List.getElem?_cons_zero, Option.some.injEq] at h1 h2
        subst h1 h2
        exact HE8.out)
    have HS5L8 : Hid (∀ k, S5 k = true → k < w8.heap.size) := Lib.hid (fun k hk => Nat.lt_of_lt_of_le (HS5L0.out k hk) HK58.out.size)
    have HKW8 : Hid (Kept (fun k => k = C ∨ (0 < i ∧ k = b)) w w8) := Lib.hid ((HK5.out.mono (fun k _ e => Or.inl (show k = C from e))).trans HK58.out (fun k hk e => by
      unfold Kone at e
      rcases Nat.eq_zero_or_pos i with h0 | h0
      · have := HB2.out h0; omega
      · exact Or.inr ⟨h0, by rw [e, HB1.out h0]⟩))
    have hYz : Y < w8.heap.size := HHY8.out.lt
    have HYnew : Hid (¬ (Y = C ∨ (0 < i ∧ Y = b))) := Lib.hid (fun h => by
      rcases h with h | ⟨h0, h⟩
      · omega
      · have := HB1.out h0; exact HYN.out (by omega))
    clear hk68 hk58 hRb HE7 HK7 HE8 HVE HED6 HCB6 HGZ6 HHY6 HM6 HED5 HM5 HGZ HHY HCB5 HKD5 HK5 HK8 HK6 HS5L HS5L0
    by_cases hin : i + 1 < n
    · have hdI : (i : Int) + 1 < (n : Int) := by omega
      have HDI := Lib.hid hdI
      clear hdI
      refine wp_region_held_drew (S := fun w' => Blk w' C 142 (cltC ⟨dev, rnd, frm, too, kept, dec, 0, (n : Int), []⟩ kd5 (.map (some b5)) false) ∧ MapIs w' b5 (vs5 ++ [.slice A7 pe.length c7])) (by kernel_rfl) ⟨HCB8.out.drew, HM8.out.kept ((Kept.refl Kno _).drew) (fun h => h)⟩ (fun hHeld => ?_)
      refine wpAnyH_takeE (i := 0) (v := .pointer (some ⟨C, 0, none⟩)) rfl rfl (by kernel_rfl) (by kernel_rfl) (by kernel_rfl) (fun _ _ _ h => h) (Or.inl ⟨by rfl, fun w1 hw => by go_simp⟩) (by assumption) ?_
      (try simp only [Act.put, List.setIfInBounds_toArray, List.set_cons_zero, List.set_cons_succ])
      refine wpAnyH_takeE (i := 1) (v := .pointer (some ⟨C, 0, none⟩)) rfl rfl (by kernel_rfl) (by kernel_rfl) (by kernel_rfl) (fun _ _ _ h => h) (Or.inl ⟨by rfl, fun w1 hw => by go_simp⟩) (by assumption) ?_
      (try simp only [Act.put, List.setIfInBounds_toArray, List.set_cons_zero, List.set_cons_succ])
      refine wpAnyH_takeE (i := 2) (v := .pointer (some ⟨C, 32, none⟩)) rfl rfl (by kernel_rfl) (by kernel_rfl) (by kernel_rfl) (fun _ _ _ h => h) (Or.inl ⟨by rfl, fun w1 hw => by go_simp⟩) (by assumption) ?_
      (try simp only [Act.put, List.setIfInBounds_toArray, List.set_cons_zero, List.set_cons_succ])
      refine wpAnyH_takeE (i := 3) (v := .map (some b5)) rfl rfl (by kernel_rfl) (by kernel_rfl) (by kernel_rfl) (fun _ _ _ h => h) (Or.inl ⟨by rfl, fun w1 hw => by have c1 : w1.cell? ⟨C, 32, none⟩ = some (.map (some b5)) := hw.1.cell 32; clear hw; go_simp⟩) (by assumption) ?_
      (try simp only [Act.put, List.setIfInBounds_toArray, List.set_cons_zero, List.set_cons_succ])
      refine wpAnyH_takeE (i := 4) (v := .int .i64 ((i + 1 : Nat) : Int)) rfl rfl (by kernel_rfl) (by kernel_rfl) (by kernel_rfl) (fun _ _ _ h => h) (yieldsIf_len (by rfl) 140 _ rfl (.map (some b5)) (.int .i64 ((i + 1 : Nat) : Int)) rfl (fun w1 hw => by have h := MapIs.len hw.2 3; rw [List.length_append, HVL.out] at h; exact h)) (by assumption) ?_
      (try simp only [Act.put, List.setIfInBounds_toArray, List.set_cons_zero, List.set_cons_succ])
      refine wpAnyH_takeE (i := 5) (v := .pointer (some ⟨C, 0, none⟩)) rfl rfl (by kernel_rfl) (by kernel_rfl) (by kernel_rfl) (fun _ _ _ h => h) (Or.inl ⟨by rfl, fun w1 hw => by go_simp⟩) (by assumption) ?_
      (try simp only [Act.put, List.setIfInBounds_toArray, List.set_cons_zero, List.set_cons_succ])
      refine wpAnyH_takeE (i := 6) (v := .pointer (some ⟨C, 0, none⟩)) rfl rfl (by kernel_rfl) (by kernel_rfl) (by kernel_rfl) (fun _ _ _ h => h) (Or.inl ⟨by rfl, fun w1 hw => by go_simp⟩) (by assumption) ?_
      (try simp only [Act.put, List.setIfInBounds_toArray, List.set_cons_zero, List.set_cons_succ])
      refine wpAnyH_takeE (i := 7) (v := .pointer (some ⟨C, 1, none⟩)) rfl rfl (by kernel_rfl) (by kernel_rfl) (by kernel_rfl) (fun _ _ _ h => h) (Or.inl ⟨by rfl, fun w1 hw => by go_simp⟩) (by assumption) ?_
      (try simp only [Act.put, List.setIfInBounds_toArray, List.set_cons_zero, List.set_cons_succ])
      refine wpAnyH_takeE (i := 8) (v := .pointer (some ⟨C, 14, none⟩)) rfl rfl (by kernel_rfl) (by kernel_rfl) (by kernel_rfl) (fun _ _ _ h => h) (Or.inl ⟨by rfl, fun w1 hw => by go_simp⟩) (by assumption) ?_
      (try simp only [Act.put, List.setIfInBounds_toArray, List.set_cons_zero, List.set_cons_succ])
      refine wpAnyH_takeE (i := 9) (v := .int .i64 (n : Int)) rfl rfl (by kernel_rfl) (by kernel_rfl) (by kernel_rfl) (fun _ _ _ h => h) (Or.inl ⟨by rfl, fun w1 hw => by have c1 : w1.cell? ⟨C, 14, none⟩ = some (.int .i64 (n : Int)) := hw.1.cell 14; clear hw; go_simp⟩) (by assumption) ?_
      (try simp only [Act.put, List.setIfInBounds_toArray, List.set_cons_zero, List.set_cons_succ])
      refine wpAnyH_takeE (i := 10) (v := .bool true) rfl rfl (by kernel_rfl) (by kernel_rfl) (by kernel_rfl) (fun _ _ _ h => h) (Or.inl ⟨by rfl, fun w1 hw => by have h1 := HDI.out; go_simp⟩) (by assumption) ?_
      refine wpAnyH_done (by kernel_rfl) ?_ _
      clear hHeld
      obtain ⟨w9, hw9⟩ : ∃ x, w8.drew = x := ⟨_, rfl⟩
      have HK9 := Lib.hid (show Kept Kno w8 w9 by rw [← hw9]; exact (Kept.refl _ _).drew)
      rw [hw9]
      clear hw9
      have HHY9 := Lib.hid (HHY8.out.kept HK9.out (fun h => h))
      go_wp2_with (first
        | (refine wpList_build_is rfl 36 #[] rfl [] (by rfl) dltZ built_msg ?_)
        | (refine wpList_store_row rfl 36 (.tmp 4) (.tmp 80) rfl Y dltZ rfl rfl 36 dltZ HHY9.out size_dlt' rfl (by kernel_rfl) ?_))
      have hkf : Kept (Kone Y) w9 (w9.setRow Y dltZ) := (Kept.refl _ _).setRow (fun _ => by unfold Kone; rfl) _
      have hcol8 : ColIs S5 w8 C b5 ⟨dev, rnd, frm, too, kept, dec, 0, (n : Int), []⟩ (es ++ [pe]) := ⟨⟨kd5, HCB8.out, HKD8.out⟩, ⟨vs5 ++ [.slice A7 pe.length c7], HM8.out, by simp [HVL.out, HES.out], HVE8.out⟩, HS5C.out, HS5b.out, HCN.out, HS5L8.out⟩
      refine bodyPost_ret (v := .tuple #[.agg dltZ, .bool false]) ?_ rfl ⟨S5, b5, HS5A.out, ?_, ?_, HB1.out, HB2.out, Or.inl ⟨hin, rfl, ?_⟩⟩
      · exact results_row_tmp rfl _ _ Y 36 _ (0, 0) _ rfl rfl (HHY9.out.setRow _) Tryz.underlying36 rfl size_dlt'
      · exact fun k hk => Nat.lt_of_lt_of_le (HS5L8.out k hk) (Nat.le_trans HK9.out.size hkf.size)
      · exact (HKW8.out.then0 HK9.out).trans hkf (fun k hk e => by unfold Kone at e; have := HZ.out; omega)
      · exact (hcol8.keep0 HK9.out).keep hkf (fun k e => by unfold Kone at e; subst e; exact HS5Y.out) (fun e => by unfold Kone at e; omega) (fun e => by unfold Kone at e; exact HYN.out e.symm)
    · have hdI : ¬ (i : Int) + 1 < (n : Int) := by omega
      have HDI := Lib.hid hdI
      have hin1 : i + 1 = n := by omega
      have HIN1 := Lib.hid hin1
      clear hdI hin hin1
      refine wp_region_held_drew (S := fun w' => Blk w' C 142 (cltC ⟨dev, rnd, frm, too, kept, dec, 0, (n : Int), []⟩ kd5 (.map (some b5)) false) ∧ MapIs w' b5 (vs5 ++ [.slice A7 pe.length c7])) (by kernel_rfl) ⟨HCB8.out.drew, HM8.out.kept ((Kept.refl Kno _).drew) (fun h => h)⟩ (fun hHeld => ?_)
      refine wpAnyH_takeE (i := 0) (v := .pointer (some ⟨C, 0, none⟩)) rfl rfl (by kernel_rfl) (by kernel_rfl) (by kernel_rfl) (fun _ _ _ h => h) (Or.inl ⟨by rfl, fun w1 hw => by go_simp⟩) (by assumption) ?_
      (try simp only [Act.put, List.setIfInBounds_toArray, List.set_cons_zero, List.set_cons_succ])
      refine wpAnyH_takeE (i := 1) (v := .pointer (some ⟨C, 0, none⟩)) rfl rfl (by kernel_rfl) (by kernel_rfl) (by kernel_rfl) (fun _ _ _ h => h) (Or.inl ⟨by rfl, fun w1 hw => by go_simp⟩) (by assumption) ?_
      (try simp only [Act.put, List.setIfInBounds_toArray, List.set_cons_zero, List.set_cons_succ])
      refine wpAnyH_takeE (i := 2) (v := .pointer (some ⟨C, 32, none⟩)) rfl rfl (by kernel_rfl) (by kernel_rfl) (by kernel_rfl) (fun _ _ _ h => h) (Or.inl ⟨by rfl, fun w1 hw => by go_simp⟩) (by assumption) ?_
      (try simp only [Act.put, List.setIfInBounds_toArray, List.set_cons_zero, List.set_cons_succ])
      refine wpAnyH_takeE (i := 3) (v := .map (some b5)) rfl rfl (by kernel_rfl) (by kernel_rfl) (by kernel_rfl) (fun _ _ _ h => h) (Or.inl ⟨by rfl, fun w1 hw => by have c1 : w1.cell? ⟨C, 32, none⟩ = some (.map (some b5)) := hw.1.cell 32; clear hw; go_simp⟩) (by assumption) ?_
      (try simp only [Act.put, List.setIfInBounds_toArray, List.set_cons_zero, List.set_cons_succ])
      refine wpAnyH_takeE (i := 4) (v := .int .i64 ((i + 1 : Nat) : Int)) rfl rfl (by kernel_rfl) (by kernel_rfl) (by kernel_rfl) (fun _ _ _ h => h) (yieldsIf_len (by rfl) 140 _ rfl (.map (some b5)) (.int .i64 ((i + 1 : Nat) : Int)) rfl (fun w1 hw => by have h := MapIs.len hw.2 3; rw [List.length_append, HVL.out] at h; exact h)) (by assumption) ?_
      (try simp only [Act.put, List.setIfInBounds_toArray, List.set_cons_zero, List.set_cons_succ])
      refine wpAnyH_takeE (i := 5) (v := .pointer (some ⟨C, 0, none⟩)) rfl rfl (by kernel_rfl) (by kernel_rfl) (by kernel_rfl) (fun _ _ _ h => h) (Or.inl ⟨by rfl, fun w1 hw => by go_simp⟩) (by assumption) ?_
      (try simp only [Act.put, List.setIfInBounds_toArray, List.set_cons_zero, List.set_cons_succ])
      refine wpAnyH_takeE (i := 6) (v := .pointer (some ⟨C, 0, none⟩)) rfl rfl (by kernel_rfl) (by kernel_rfl) (by kernel_rfl) (fun _ _ _ h => h) (Or.inl ⟨by rfl, fun w1 hw => by go_simp⟩) (by assumption) ?_
      (try simp only [Act.put, List.setIfInBounds_toArray, List.set_cons_zero, List.set_cons_succ])
      refine wpAnyH_takeE (i := 7) (v := .pointer (some ⟨C, 1, none⟩)) rfl rfl (by kernel_rfl) (by kernel_rfl) (by kernel_rfl) (fun _ _ _ h => h) (Or.inl ⟨by rfl, fun w1 hw => by go_simp⟩) (by assumption) ?_
      (try simp only [Act.put, List.setIfInBounds_toArray, List.set_cons_zero, List.set_cons_succ])
      refine wpAnyH_takeE (i := 8) (v := .pointer (some ⟨C, 14, none⟩)) rfl rfl (by kernel_rfl) (by kernel_rfl) (by kernel_rfl) (fun _ _ _ h => h) (Or.inl ⟨by rfl, fun w1 hw => by go_simp⟩) (by assumption) ?_
      (try simp only [Act.put, List.setIfInBounds_toArray, List.set_cons_zero, List.set_cons_succ])
      refine wpAnyH_takeE (i := 9) (v := .int .i64 (n : Int)) rfl rfl (by kernel_rfl) (by kernel_rfl) (by kernel_rfl) (fun _ _ _ h => h) (Or.inl ⟨by rfl, fun w1 hw => by have c1 : w1.cell? ⟨C, 14, none⟩ = some (.int .i64 (n : Int)) := hw.1.cell 14; clear hw; go_simp⟩) (by assumption) ?_
      (try simp only [Act.put, List.setIfInBounds_toArray, List.set_cons_zero, List.set_cons_succ])
      refine wpAnyH_takeE (i := 10) (v := .bool false) rfl rfl (by kernel_rfl) (by kernel_rfl) (by kernel_rfl) (fun _ _ _ h => h) (Or.inl ⟨by rfl, fun w1 hw => by have h1 := HDI.out; go_simp⟩) (by assumption) ?_
      refine wpAnyH_done (by kernel_rfl) ?_ _
      clear hHeld
      obtain ⟨w9, hw9⟩ : ∃ x, w8.drew = x := ⟨_, rfl⟩
      have HK9 := Lib.hid (show Kept Kno w8 w9 by rw [← hw9]; exact (Kept.refl _ _).drew)
      rw [hw9]
      clear hw9
      have HHY9 := Lib.hid (HHY8.out.kept HK9.out (fun h => h))
      have HCB9 := Lib.hid (HCB8.out.kept HK9.out (fun h => h))
      have HM9 := Lib.hid (HM8.out.kept HK9.out (fun h => h))
      have HKD9 := Lib.hid (IIn.keep2 (S' := S5) HKD8.out HK9.out (fun _ h => h.elim) (fun _ _ => rfl))
      have HVE9 : Hid (∀ (j : Nat) (v : Value) (e : List Ed), (vs5 ++ [.slice A7 pe.length c7])[j]? = some v → (es ++ [pe])[j]? = some e → EdsIn (erase S5 w9) w9.heap.size v e) := Lib.hid (fun j v e h1 h2 => EdsIn.keep2 (S' := S5) (HVE8.out j v e h1 h2) HK9.out (fun _ h => h.elim) (fun _ _ => rfl))
      have HKW9 := Lib.hid (HKW8.out.then0 HK9.out)
      have HS5L9 : Hid (∀ k, S5 k = true → k < w9.heap.size) := Lib.hid (fun k hk => Nat.lt_of_lt_of_le (HS5L8.out k hk) HK9.out.size)
      have HLE : Hid ((es ++ [pe]).length = n) := Lib.hid (by rw [List.length_append, HES.out]; exact HIN1.out)
      have HLV : Hid ((vs5 ++ [Value.slice A7 pe.length c7]).length = n) := Lib.hid (by rw [List.length_append, HVL.out]; exact HIN1.out)
      have HTOT : Hid ((es ++ [pe]).flatten.length ≤ 10032) := Lib.hid (by have := HSUM.out; rw [List.flatten_append, List.length_append, List.flatten_cons, List.flatten_nil, List.append_nil]; omega)
      have hYz9 : Y < w9.heap.size := HHY9.out.lt
      have y14 : w9.cell? ⟨C, 14, none⟩ = some (.int .i64 (n : Int)) := HCB9.out.cell 14
      clear HK9 HHY8 HCB8 HM8 HKD8 HVE8 HKW8 HS5L8
      go_upto_region 15 with (fail)
      clear y14
      go_loopw [8, 86] (fun x i wr => GatRel S5 (es ++ [pe]) w9 x i wr) (fun _ i _ => n - (intOf i).toNat)
      case atStart => exact ⟨0, none, 0, [], Nat.zero_le _, rfl, rfl, by simp, LOut.nil, Kept.refl _ _⟩
      case round =>
        obtain ⟨j, A, cap, qs, hj, rfl, rfl, hqs, hlo, hkr⟩ := hrel
        rw [HLE.out] at hj
        have HQS := Lib.hid hqs
        have HLO := Lib.hid hlo
        have HKR := Lib.hid hkr
        have HCBR := Lib.hid (HCB9.out.kept hkr (fun h => h))
        have hj0 : (0 : Int) ≤ (j : Int) := by omega
        clear hqs hlo hkr
        by_cases hlt : j < n
        · have hltI : (j : Int) < (n : Int) := by omega
          obtain ⟨vj, hvj⟩ : ∃ x, (vs5 ++ [.slice A7 pe.length c7])[j]? = some x := ⟨_, List.getElem?_eq_getElem (by rw [HLV.out]; exact hlt)⟩
          obtain ⟨ej, hej⟩ : ∃ x, (es ++ [pe])[j]? = some x := ⟨_, List.getElem?_eq_getElem (by rw [HLE.out]; exact hlt)⟩
          have hvs := HVE9.out j vj ej hvj hej
          obtain ⟨vA, vc, rfl⟩ := EdsIn.form hvs
          obtain ⟨ps, hps, hpq, hrd⟩ := LyIn.rd (show LyIn w9.heap.size (.slice vA ej.length vc) ej.length (AtL (erase S5 w9) 5 (EdQ (erase S5 w9) w9.heap.size) ej) from hvs) rfl (by decide)
          have hnext : ((es ++ [pe]).take (j + 1)).flatten = ((es ++ [pe]).take j).flatten ++ ej := by rw [List.take_add_one, hej, List.flatten_append]; show _ ++ [ej].flatten = _; rw [List.flatten_cons, List.flatten_nil, List.append_nil]
          have htl : ((es ++ [pe]).take (j + 1)).flatten.length ≤ 10032 := by
            have h1 := HTOT.out
            have h2 : (es ++ [pe]).flatten.length = ((es ++ [pe]).take (j + 1)).flatten.length + ((es ++ [pe]).drop (j + 1)).flatten.length := by
              rw [← List.length_append, ← List.flatten_append, List.take_append_drop]
            omega
          have hql : qs.length + ps.length ≤ 10032 := by
            rw [hnext, List.length_append, ← HQS.out, ← hps, List.length_map, List.length_map] at htl
            exact htl
          have HNEXT := Lib.hid hnext
          have HPS := Lib.hid hps
          have hpe : ej.length = ps.length := by rw [← hps, List.length_map]
          rw [hpe] at hvj hrd
          have HRD : Hid (Rd wr 5 (.slice vA ps.length vc) ps.length (ps.map (·.2)).flatten) := Lib.hid (hrd.keep (fun p u _ hc => HKR.out.cell_some (erase_cell hc) (fun h => h)))
          have HPQ := Lib.hid hpq
          have HONE := Lib.hid (flat_one hpq (fun x cs h => ed_one h))
          have HIT := Lib.hid (show (Instr.lookup 140 (.map (some b5)) (.int .i64 (j : Int)) false).run Tryz.prog wr = .ok (.slice vA ps.length vc) wr by
            have h := MapIs.hit (HM9.out.kept HKR.out (fun h => h)) false hvj
            rw [if_neg (by decide)] at h
            exact h)
          have yC : wr.cell? ⟨C, 32, none⟩ = some (.map (some b5)) := HCBR.out.cell 32
          have m1 : qs.length + ps.length ≤ maxLen := by simp only [maxLen]; omega
          clear hvj hej hvs hps hpq hrd hnext htl hpe
          go_wp2_with (first
            | (refine wpList_lookup_run rfl 140 _ _ false rfl (.map (some b5)) (.int .i64 (j : Int)) (.slice vA ps.length vc) rfl rfl HIT.out ?_)
            | (at_builtin; go_must (refine wpList_append_rd _ rfl _ _ 25 rfl w9.heap.size 73 i0 _ 5 88 Tryz.underlying25 hi0 z00 z01 z02 rfl (by decide) (.slice A qs.length cap) qs.length (qs.map (·.2)).flatten rfl HLO.out.own.1 (.slice vA ps.length vc) ps.length (ps.map (·.2)).flatten rfl HRD.out HONE.out m1 (by omega) HKR.out.size ?_); intro A9 c9 wa hown9 hg9 hat9))
          have hl9 := LOut.pushAll clo_ed HLO.out (fun p hp => ⟨(HPQ.out p hp).1, HLO.out.was clo_ed (HPQ.out p hp).2 (Nat.le_refl _) (Nat.le_refl _) HKR.out (fun _ h => h.elim)⟩) hg9 hown9 hat9
          refine ⟨⟨j + 1, A9, c9, qs ++ ps, by rw [HLE.out]; omega, by go_num, by rw [List.length_append], ?_, hl9, HKR.out.grown hg9 (fun k hk e => by have := HLO.out.ge e; omega)⟩, ?_⟩
          · rw [List.map_append, HQS.out, HPS.out, HNEXT.out]
          · simp [intOf]
            omega
        · have hltI : ¬ (j : Int) < (n : Int) := by omega
          have hqt : qs.map (·.1) = (es ++ [pe]).flatten := by rw [HQS.out, List.take_of_length_le (by rw [HLE.out]; omega)]
          have hqn : qs.length = (es ++ [pe]).flatten.length := by rw [← hqt, List.length_map]
          have hly := HLO.out.ly clo_ed HS5L9.out
          rw [hqt] at hly
          have HEV : Hid (EdsIn (erase S5 wr) wr.heap.size (.slice A qs.length cap) (es ++ [pe]).flatten) := Lib.hid (by unfold EdsIn; rw [← hqn]; exact hly)
          have y32 : wr.cell? ⟨C, 32, none⟩ = some (.map (some b5)) := HCBR.out.cell 32
          have g32 := HCBR.out.frozen 32
          have y33 : wr.cell? ⟨C, 33, none⟩ = some (.bool false) := HCBR.out.cell 33
          have g33 := HCBR.out.frozen 33
          have HHYR := Lib.hid (HHY9.out.kept HKR.out (fun h => h))
          have HKDR := Lib.hid (IIn.keep2 (S' := S5) HKD9.out HKR.out (fun _ h => h.elim) (fun _ _ => rfl))
          clear hqt hqn hly
          go_upto_region 20 with (fail)
          obtain ⟨w10, hw10⟩ : ∃ x, (wr.setCell ⟨C, 32, none⟩ (.map none)).setCell ⟨C, 33, none⟩ (.bool true) = x := ⟨_, rfl⟩
          have hkc : Kept (Kone C) wr w10 := by rw [← hw10]; exact ((Kept.refl _ _).setIn (p := ⟨C, 32, none⟩) (by unfold Kone; rfl) _).setIn (p := ⟨C, 33, none⟩) (by unfold Kone; rfl) _
          have HCB10 := Lib.hid (show Blk w10 C 142 (((cltC ⟨dev, rnd, frm, too, kept, dec, 0, (n : Int), []⟩ kd5 (.map (some b5)) false).setIfInBounds 32 (.map none)).setIfInBounds 33 (.bool true)) by rw [← hw10]; exact (HCBR.out.set_ 32 _).set_ 33 _)
          have hRC : ∀ k, Kone C k → S5 k = true := fun k e => by unfold Kone at e; subst e; exact HS5C.out
          have HHY10 := Lib.hid (HHYR.out.kept hkc (fun e => by unfold Kone at e; omega))
          have HEV10 := Lib.hid (EdsIn.keep2 (S' := S5) HEV.out hkc hRC (fun _ _ => rfl))
          have HKD10 := Lib.hid (IIn.keep2 (S' := S5) HKDR.out hkc hRC (fun _ _ => rfl))
          have HKC := Lib.hid hkc
          rw [hw10]
          clear hw10 hkc hRC y32 g32 y33 g33
          go_wp2_with (first | (refine wpList_load_at rfl 36 (.tmp 106) rfl C 1 (dltC ⟨dev, rnd, frm, too, kept, dec, 0, (n : Int), []⟩ kd5 (.slice none 0 0)).toList _ rfl (CellsAt.sub HCB10.out 1 rfl) Tryz.underlying36 rfl size_dlt' ?_))
          refine (head_any ⟨dev, rnd, frm, too, kept, dec, 0, (n : Int), []⟩ w10.heap.size kd5 _ A qs.length cap 0 1 w10 HKD10.out.plain (Nat.le_refl _) HKL.out).mono ?_
          rintro e w11 ⟨A11, c11, rfl, ho11, hk11⟩
          have HK11 := Lib.hid hk11
          have HHY11 := Lib.hid (HHY10.out.kept hk11 (fun h => h))
          have HEV11 := Lib.hid (EdsIn.keep2 (S' := S5) HEV10.out hk11 (fun _ h => h.elim) (fun _ _ => rfl))
          clear ho11 hk11
          go_wp2_with (first | (refine wpList_store_row rfl 36 (.tmp 4) (.tmp 109) rfl Y (dltC ⟨dev, rnd, frm, too, kept, dec, 0, 1, []⟩ (.slice A11 kept.length c11) (.slice A qs.length cap)) rfl rfl 36 dltZ HHY11.out (size_dlt _ _ _) rfl (dlt_one _ _ _ rfl rfl) ?_))
          have hkf : Kept (Kone Y) w11 (w11.setRow Y (dltC ⟨dev, rnd, frm, too, kept, dec, 0, 1, []⟩ (.slice A11 kept.length c11) (.slice A qs.length cap))) := (Kept.refl _ _).setRow (fun _ => by unfold Kone; rfl) _
          refine bodyPost_ret (v := .tuple #[.agg (dltC ⟨dev, rnd, frm, too, kept, dec, 0, 1, []⟩ (.slice A11 kept.length c11) (.slice A qs.length cap)), .bool true]) ?_ rfl ⟨S5, b5, HS5A.out, ?_, ?_, HB1.out, HB2.out, Or.inr ⟨HIN1.out, _, _, rfl, rfl, ?_⟩⟩
          · exact results_row_tmp rfl _ _ Y 36 _ (0, 0) _ rfl rfl (HHY11.out.setRow _) Tryz.underlying36 rfl (size_dlt _ _ _)
          · exact fun k hk => Nat.lt_of_lt_of_le (HS5L9.out k hk) (Nat.le_trans HKR.out.size (Nat.le_trans HKC.out.size (Nat.le_trans HK11.out.size hkf.size)))
          · exact ((((HKW9.out.then0 HKR.out).trans HKC.out (fun k hk e => Or.inl (show k = C from e))).then0 HK11.out).trans hkf (fun k hk e => by unfold Kone at e; have := HZ.out; omega))
          · exact EdsIn.keep2 (S' := S5) HEV11.out hkf (fun k e => by unfold Kone at e; subst e; exact HS5Y.out) (fun _ _ => rfl)
  · have HI1 := Lib.hid hi1
    have HCOL := Lib.hid hcol
    obtain ⟨kd, hcb, hkd⟩ := hcol.blk
    have HCB := Lib.hid (hcb.kept HKW1.out (fun h => h))
    have HKD := Lib.hid (IIn.keep2 (S' := S1) hkd HKW1.out (fun _ h => h.elim) (fun k hk => HS1A.out k hk))
    have y0 : w1.cell? ⟨C, 0, none⟩ = some (.bool true) := HCB.out.cell 0
    clear hi1 hcol hcb hkd HPRE
    go_wp2_with (first | (refine wpList_load_rowW rfl 36 (.tmp 3) rfl Z rfl 36 (dltC ⟨dev, rnd, frm, too, kept, dec, (i : Int), (n : Int), pe⟩ (.slice kA kept.length kc) (.slice eA pe.length ec)) (0, 0) _ HG1.out Tryz.underlying36 rfl (size_dlt _ _ _) ?_))
    refine (later_same dev rnd frm too kept dec (i : Int) (n : Int) pe [] kd _ false _ _ C w1 HCB.out).mono ?_
    rintro e w2 ⟨rfl, hk2⟩
    have HK2 := Lib.hid hk2
    have HG2 := Lib.hid (HG1.out.kept hk2 (fun h => h))
    have HCB2 := Lib.hid (HCB.out.kept hk2 (fun h => h))
    clear hk2 y0
    go_wp2_with (first | (refine wpList_load_row rfl 36 (.tmp 3) rfl Z rfl 36 (dltC ⟨dev, rnd, frm, too, kept, dec, (i : Int), (n : Int), pe⟩ (.slice kA kept.length kc) (.slice eA pe.length ec)) (0, 0) _ HG2.out Tryz.underlying36 rfl (size_dlt _ _ _) ?_))
    refine (belongs_same dev rnd frm too kept dec (i : Int) (n : Int) pe [] _ false kd _ _ w2.heap.size C w2 HCB2.out (IIn.keep2 (S' := S1) HKD.out HK2.out (fun _ h => h.elim) (fun _ _ => rfl)).plain (IIn.keep2 (S' := T) HIK1.out HK2.out (fun _ h => h.elim) (fun _ _ => rfl)).plain (Nat.le_refl _)).mono ?_
    rintro e w5 ⟨rfl, hk3⟩
    obtain ⟨b5, hb5⟩ : ∃ x, b = x := ⟨_, rfl⟩
    have HVS : Hid (∃ (S5 : Nat → Bool) (kd5 : Value) (vs5 : List Value), Kept (Kone C) w w5 ∧ Blk w5 C 142 (cltC ⟨dev, rnd, frm, too, kept, dec, 0, (n : Int), []⟩ kd5 (.map (some b5)) false) ∧ kd5.oneCell' = true ∧ IIn (erase S5 w5) w5.heap.size kd5 kept ∧ MapIs w5 b5 vs5 ∧ vs5.length = i ∧ (∀ (j : Nat) (v : Value) (e : List Ed), vs5[j]? = some v → es[j]? = some e → EdsIn (erase S5 w5) w5.heap.size v e) ∧ Blk w5 Z 36 (dltC ⟨dev, rnd, frm, too, kept, dec, (i : Int), (n : Int), pe⟩ (.slice kA kept.length kc) (.slice eA pe.length ec)) ∧ Blk w5 Y 36 dltZ ∧ EdsIn (erase T w5) w5.heap.size (.slice eA pe.length ec) pe ∧ (∀ k, k < w.heap.size → S5 k = S k) ∧ (∀ k, S5 k = true → k < w5.heap.size) ∧ S5 C = true ∧ S5 b5 = true ∧ S5 Y = true ∧ C ≠ b5 ∧ Z ≠ b5 ∧ Y ≠ b5 ∧ (0 < i → b5 = b) ∧ (i = 0 → w.heap.size ≤ b5)) := Lib.hid (by
      subst hb5
      have hzw := HZ.out
      have hi1 := HI1.out
      have hz0 := HZ0.out
      have hk05 : Kept Kno w1 w5 := HK2.out.then0 hk3
      have hc2 := HCOL.out.at2 (S' := S1) (HKW1.out.then0 hk05) (fun _ h => h.elim) (fun h => h) (fun h => h) (fun k hk => HS1A.out k hk) (fun k hk => Nat.lt_of_lt_of_le (HS1L.out k hk) (Nat.le_trans hz1 hk05.size))
      obtain ⟨kd', h1, h2⟩ := hc2.blk
      obtain ⟨vs, h3, h4, h5⟩ := hc2.map
      have hbl : b < w.heap.size := by obtain ⟨vs', h3', -⟩ := HCOL.out.map; exact h3'.lt
      obtain ⟨A', cap', hf⟩ := IIn.form h2
      refine ⟨S1, kd', vs, (HKW1.out.then0 hk05).mono (fun _ _ h => h.elim), h1, by rw [hf]; rfl, h2, h3, by rw [h4]; exact HES.out, h5, ?_, ?_, ?_, fun k hk => HS1A.out k hk, fun k hk => Nat.lt_of_lt_of_le (HS1L.out k hk) (Nat.le_trans hz1 hk05.size), hc2.SC, hc2.Sb, HS1Y.out, hc2.ne, by omega, by omega, fun _ => rfl, fun h => by omega⟩
      · exact HG1.out.kept hk05 (fun h => h)
      · exact HH1.out.kept hk05 (fun h => h)
      · exact EdsIn.keep2 (S' := T) HIE1.out hk05 (fun _ h => h.elim) (fun _ _ => rfl))
    clear hk3 hb5 HK2 HG2 HCB2 HCB HKD HCOL HI1
    obtain ⟨S5, kd5, vs5, hK5, hCB5, hkd1, hKD5, hM5, hVL, hVE, hGZ, hHY, hED5, hS5A, hS5L, hS5C, hS5b, hS5Y, hCN, hZN, hYN, hB1, hB2⟩ := HVS.out
    have HK5 := Lib.hid hK5
    have HCB5 := Lib.hid hCB5
    have HKD1 := Lib.hid hkd1
    have HKD5 := Lib.hid hKD5
    have HM5 := Lib.hid hM5
    have HVL := Lib.hid hVL
    have HVE := Lib.hid hVE
    have HGZ := Lib.hid hGZ
    have HHY := Lib.hid hHY
    have HED5 := Lib.hid hED5
    have HS5A := Lib.hid hS5A
    have HS5C := Lib.hid hS5C
    have HS5b := Lib.hid hS5b
    have HS5Y := Lib.hid hS5Y
    have HCN := Lib.hid hCN
    have HZN := Lib.hid hZN
    have HYN := Lib.hid hYN
    have HB1 := Lib.hid hB1
    have HB2 := Lib.hid hB2
    have HS5L0 := Lib.hid hS5L
    clear hK5 hCB5 hkd1 hKD5 hM5 hVL hVE hGZ hHY hED5 hS5A hS5L hS5C hS5b hS5Y hCN hZN hYN hB1 hB2 HVS HG1 HH1 HIK1 HIE1 HS1A HS1L HS1Y HKW1 HK1 HDLT
    go_upto_region 7 with (fail)
    refine wp_region_held_drew (S := fun w' => Blk w' C 142 (cltC ⟨dev, rnd, frm, too, kept, dec, 0, (n : Int), []⟩ kd5 (.map (some b5)) false) ∧ Blk w' Z 36 (dltC ⟨dev, rnd, frm, too, kept, dec, (i : Int), (n : Int), pe⟩ (.slice kA kept.length kc) (.slice eA pe.length ec)) ∧ MapIs w' b5 vs5) (by kernel_rfl) ⟨HCB5.out.drew, HGZ.out.drew, HM5.out.kept ((Kept.refl Kno _).drew) (fun h => h)⟩ (fun hHeld => ?_)
    refine wpAnyH_takeE (i := 0) (v := .pointer (some ⟨C, 0, none⟩)) rfl rfl (by kernel_rfl) (by kernel_rfl) (by kernel_rfl) (fun _ _ _ h => h) (Or.inl ⟨by rfl, fun w1 hw => by go_simp⟩) (by assumption) ?_
    (try simp only [Act.put, List.setIfInBounds_toArray, List.set_cons_zero, List.set_cons_succ])
    refine wpAnyH_takeE (i := 1) (v := .pointer (some ⟨C, 0, none⟩)) rfl rfl (by kernel_rfl) (by kernel_rfl) (by kernel_rfl) (fun _ _ _ h => h) (Or.inl ⟨by rfl, fun w1 hw => by go_simp⟩) (by assumption) ?_
    (try simp only [Act.put, List.setIfInBounds_toArray, List.set_cons_zero, List.set_cons_succ])
    refine wpAnyH_takeE (i := 2) (v := .pointer (some ⟨C, 32, none⟩)) rfl rfl (by kernel_rfl) (by kernel_rfl) (by kernel_rfl) (fun _ _ _ h => h) (Or.inl ⟨by rfl, fun w1 hw => by go_simp⟩) (by assumption) ?_
    (try simp only [Act.put, List.setIfInBounds_toArray, List.set_cons_zero, List.set_cons_succ])
    refine wpAnyH_takeE (i := 3) (v := .map (some b5)) rfl rfl (by kernel_rfl) (by kernel_rfl) (by kernel_rfl) (fun _ _ _ h => h) (Or.inl ⟨by rfl, fun w1 hw => by have c1 : w1.cell? ⟨C, 32, none⟩ = some (.map (some b5)) := hw.1.cell 32; clear hw; go_simp⟩) (by assumption) ?_
    (try simp only [Act.put, List.setIfInBounds_toArray, List.set_cons_zero, List.set_cons_succ])
    refine wpAnyH_takeE (i := 4) (v := .pointer (some ⟨Z, 12, none⟩)) rfl rfl (by kernel_rfl) (by kernel_rfl) (by kernel_rfl) (fun _ _ _ h => h) (Or.inl ⟨by rfl, fun w1 hw => by go_simp⟩) (by assumption) ?_
    (try simp only [Act.put, List.setIfInBounds_toArray, List.set_cons_zero, List.set_cons_succ])
    refine wpAnyH_takeE (i := 5) (v := .int .i64 (i : Int)) rfl rfl (by kernel_rfl) (by kernel_rfl) (by kernel_rfl) (fun _ _ _ h => h) (Or.inl ⟨by rfl, fun w1 hw => by have c1 : w1.cell? ⟨Z, 12, none⟩ = some (.int .i64 (i : Int)) := hw.2.1.cell 12; clear hw; go_simp⟩) (by assumption) ?_
    (try simp only [Act.put, List.setIfInBounds_toArray, List.set_cons_zero, List.set_cons_succ])
    refine wpAnyH_takeE (i := 6) (v := .tuple #[.slice none 0 0, .bool false]) rfl rfl (by kernel_rfl) (by kernel_rfl) (by kernel_rfl) (fun _ _ _ h => h) (yieldsIf_lookup (by rfl) 140 _ _ true rfl (.map (some b5)) (.int .i64 (i : Int)) (.tuple #[.slice none 0 0, .bool false]) rfl rfl (fun w1 hw => by have h := MapIs.miss hw.2.2 true (Nat.le_of_eq HVL.out) (show i ≤ 1000000 by omega); rw [if_pos rfl] at h; exact h)) (by assumption) ?_
    (try simp only [Act.put, List.setIfInBounds_toArray, List.set_cons_zero, List.set_cons_succ])
    refine wpAnyH_takeE (i := 7) (v := .tuple #[.slice none 0 0, .bool false]) rfl rfl (by kernel_rfl) (by kernel_rfl) (by kernel_rfl) (fun _ _ _ h => h) (Or.inl ⟨by rfl, fun w1 hw => by go_simp⟩) (by assumption) ?_
    (try simp only [Act.put, List.setIfInBounds_toArray, List.set_cons_zero, List.set_cons_succ])
    refine wpAnyH_takeE (i := 8) (v := .slice none 0 0) rfl rfl (by kernel_rfl) (by kernel_rfl) (by kernel_rfl) (fun _ _ _ h => h) (Or.inl ⟨by rfl, fun w1 hw => by go_simp⟩) (by assumption) ?_
    (try simp only [Act.put, List.setIfInBounds_toArray, List.set_cons_zero, List.set_cons_succ])
    refine wpAnyH_takeE (i := 9) (v := .bool false) rfl rfl (by kernel_rfl) (by kernel_rfl) (by kernel_rfl) (fun _ _ _ h => h) (Or.inl ⟨by rfl, fun w1 hw => by go_simp⟩) (by assumption) ?_
    (try simp only [Act.put, List.setIfInBounds_toArray, List.set_cons_zero, List.set_cons_succ])
    refine wpAnyH_ready (rs := [10]) (by kernel_rfl) (by simp) ?_
    refine AllReadyH.cons rfl (fun K' hK => ?_) (AllReadyH.nil)
    go_simp
    refine hK.out _ _ ?_ (fun hHeld => ?_)
    · exact ⟨HCB5.out.drew, HGZ.out.drew, HM5.out.kept ((Kept.refl Kno _).drew) (fun h => h)⟩
    clear hK K'
    (try simp only [Act.put, List.setIfInBounds_toArray, List.set_cons_zero, List.set_cons_succ])
    refine wpAnyH_ready (rs := [11]) (by kernel_rfl) (by simp) ?_
    refine AllReadyH.cons rfl (fun K' hK => ?_) (AllReadyH.nil)
    go_simp
    refine hK.out _ _ ?_ (fun hHeld => ?_)
    · exact ⟨HCB5.out.drew, HGZ.out.drew, HM5.out.kept ((Kept.refl Kno _).drew) (fun h => h)⟩
    clear hK K'
    refine wpAnyH_done (by kernel_rfl) ?_ _
    clear hHeld
    have y33 : w5.drew.cell? ⟨C, 33, none⟩ = some (.bool false) := HCB5.out.drew.cell 33
    go_upto_region 10 with (fail)
    obtain ⟨w6, hw6⟩ : ∃ x, w5.drew = x := ⟨_, rfl⟩
    have HK6 := Lib.hid (show Kept Kno w5 w6 by rw [← hw6]; exact (Kept.refl _ _).drew)
    rw [hw6]
    clear hw6 y33
    have HCB6 := Lib.hid (HCB5.out.kept HK6.out (fun h => h))
    have HGZ6 := Lib.hid (HGZ.out.kept HK6.out (fun h => h))
    have HHY6 := Lib.hid (HHY.out.kept HK6.out (fun h => h))
    have HM6 := Lib.hid (HM5.out.kept HK6.out (fun h => h))
    have HED6 := Lib.hid (EdsIn.keep2 (S' := T) HED5.out HK6.out (fun _ h => h.elim) (fun _ _ => rfl))
    have HS5L : Hid (∀ k, S5 k = true → k < w6.drew.heap.size) := Lib.hid (fun k hk => Nat.lt_of_lt_of_le (HS5L0.out k hk) HK6.out.size)
    have hsz65 : w5.heap.size ≤ w6.heap.size := HK6.out.size
    refine wp_region_held_drew (S := fun w' => Blk w' C 142 (cltC ⟨dev, rnd, frm, too, kept, dec, 0, (n : Int), []⟩ kd5 (.map (some b5)) false) ∧ Blk w' Z 36 (dltC ⟨dev, rnd, frm, too, kept, dec, (i : Int), (n : Int), pe⟩ (.slice kA kept.length kc) (.slice eA pe.length ec))) (by kernel_rfl) ⟨HCB6.out.drew, HGZ6.out.drew⟩ (fun hHeld => ?_)
    refine wpAnyH_takeE (i := 0) (v := .pointer (some ⟨C, 0, none⟩)) rfl rfl (by kernel_rfl) (by kernel_rfl) (by kernel_rfl) (fun _ _ _ h => h) (Or.inl ⟨by rfl, fun w1 hw => by go_simp⟩) (by assumption) ?_
    (try simp only [Act.put, List.setIfInBounds_toArray, List.set_cons_zero, List.set_cons_succ])
    refine wpAnyH_takeE (i := 1) (v := .pointer (some ⟨C, 0, none⟩)) rfl rfl (by kernel_rfl) (by kernel_rfl) (by kernel_rfl) (fun _ _ _ h => h) (Or.inl ⟨by rfl, fun w1 hw => by go_simp⟩) (by assumption) ?_
    (try simp only [Act.put, List.setIfInBounds_toArray, List.set_cons_zero, List.set_cons_succ])
    refine wpAnyH_takeE (i := 2) (v := .pointer (some ⟨C, 32, none⟩)) rfl rfl (by kernel_rfl) (by kernel_rfl) (by kernel_rfl) (fun _ _ _ h => h) (Or.inl ⟨by rfl, fun w1 hw => by go_simp⟩) (by assumption) ?_
    (try simp only [Act.put, List.setIfInBounds_toArray, List.set_cons_zero, List.set_cons_succ])
    refine wpAnyH_takeE (i := 3) (v := .map (some b5)) rfl rfl (by kernel_rfl) (by kernel_rfl) (by kernel_rfl) (fun _ _ _ h => h) (Or.inl ⟨by rfl, fun w1 hw => by have c1 : w1.cell? ⟨C, 32, none⟩ = some (.map (some b5)) := hw.1.cell 32; clear hw; go_simp⟩) (by assumption) ?_
    (try simp only [Act.put, List.setIfInBounds_toArray, List.set_cons_zero, List.set_cons_succ])
    refine wpAnyH_takeE (i := 4) (v := .pointer (some ⟨Z, 12, none⟩)) rfl rfl (by kernel_rfl) (by kernel_rfl) (by kernel_rfl) (fun _ _ _ h => h) (Or.inl ⟨by rfl, fun w1 hw => by go_simp⟩) (by assumption) ?_
    (try simp only [Act.put, List.setIfInBounds_toArray, List.set_cons_zero, List.set_cons_succ])
    refine wpAnyH_takeE (i := 5) (v := .int .i64 (i : Int)) rfl rfl (by kernel_rfl) (by kernel_rfl) (by kernel_rfl) (fun _ _ _ h => h) (Or.inl ⟨by rfl, fun w1 hw => by have c1 : w1.cell? ⟨Z, 12, none⟩ = some (.int .i64 (i : Int)) := hw.2.cell 12; clear hw; go_simp⟩) (by assumption) ?_
    (try simp only [Act.put, List.setIfInBounds_toArray, List.set_cons_zero, List.set_cons_succ])
    refine wpAnyH_takeE (i := 6) (v := .pointer (some ⟨Z, 14, none⟩)) rfl rfl (by kernel_rfl) (by kernel_rfl) (by kernel_rfl) (fun _ _ _ h => h) (Or.inl ⟨by rfl, fun w1 hw => by go_simp⟩) (by assumption) ?_
    (try simp only [Act.put, List.setIfInBounds_toArray, List.set_cons_zero, List.set_cons_succ])
    refine wpAnyH_takeE (i := 7) (v := .slice eA pe.length ec) rfl rfl (by kernel_rfl) (by kernel_rfl) (by kernel_rfl) (fun _ _ _ h => h) (Or.inl ⟨by rfl, fun w1 hw => by have c1 : w1.cell? ⟨Z, 14, none⟩ = some (.slice eA pe.length ec) := hw.2.cell 14; clear hw; go_simp⟩) (by assumption) ?_
    (try simp only [Act.put, List.setIfInBounds_toArray, List.set_cons_zero, List.set_cons_succ])
    refine wpAnyH_ready (rs := [8]) (by kernel_rfl) (by simp) ?_
    refine AllReadyH.cons rfl (fun K' hK => ?_) (AllReadyH.nil)
    go_simp
    go_at_call 55
    refine (clone_any S5 pe w6.heap.size _ w6.drew HED6.out.plain (Nat.le_refl _) (by omega) HSH.out HS5L.out).mono ?_
    rintro e w7 ⟨A7, c7, rfl, he7, hk7⟩
    have HE7 := Lib.hid he7
    have HK7 := Lib.hid (show Kept Kno w6 w7 from ((Kept.refl _ w6).drew).then0 hk7)
    clear he7 hk7
    go_wp2_with fail
    refine hK.out _ _ ?_ (fun hHeld => ?_)
    · exact ⟨HCB6.out.kept HK7.out (fun h => h), HGZ6.out.kept HK7.out (fun h => h)⟩
    clear hK K'
    (try simp only [Act.put, List.setIfInBounds_toArray, List.set_cons_zero, List.set_cons_succ])
    refine wpAnyH_ready (rs := [9]) (by kernel_rfl) (by simp) ?_
    refine AllReadyH.cons rfl (fun K' hK => ?_) (AllReadyH.nil)
    rw [if_pos (by rfl)]
    obtain ⟨w8, hrun, hm8, hk8⟩ := MapIs.put (HM6.out.kept HK7.out (fun h => h)) (.slice A7 pe.length c7) (by rw [HVL.out]; omega)
    have HRUN := Lib.hid (show (Instr.mapUpdate 140 (.map (some b5)) (.int .i64 (i : Int)) (.slice A7 pe.length c7)).run Tryz.prog w7 = .ok () w8 by rw [← HVL.out]; exact hrun)
    have HM8 := Lib.hid hm8
    have HK8 := Lib.hid hk8
    clear hrun hm8 hk8
    refine wp_mapUpdate_run 140 _ _ _ rfl rfl (.map (some b5)) (.int .i64 (i : Int)) (.slice A7 pe.length c7) rfl rfl rfl HRUN.out ?_
    refine hK.out _ _ ?_ (fun hHeld => ?_)
    · exact ⟨(HCB6.out.kept HK7.out (fun h => h)).kept HK8.out (fun e => HCN.out e), (HGZ6.out.kept HK7.out (fun h => h)).kept HK8.out (fun e => HZN.out e)⟩
    clear hK K'
    refine wpAnyH_done (by kernel_rfl) ?_ _
    clear hHeld
    go_wp2_with fail
    have hk68 : Kept (Kone b5) w6 w8 := HK7.out.trans' HK8.out
    have hk58 : Kept (Kone b5) w5 w8 := HK6.out.trans' hk68
    have HK58 := Lib.hid hk58
    have hRb : ∀ k, Kone b5 k → S5 k = true := fun k e => by unfold Kone at e; subst e; exact HS5b.out
    have HCB8 := Lib.hid (HCB5.out.kept hk58 (fun e => HCN.out e))
    have HHY8 := Lib.hid (HHY.out.kept hk58 (fun e => HYN.out e))
    have HKD8 := Lib.hid (IIn.keep2 (S' := S5) HKD5.out hk58 hRb (fun _ _ => rfl))
    have HE8 := Lib.hid (EdsIn.keep2 (S' := S5) HE7.out HK8.out hRb (fun _ _ => rfl))
    have HVE8 : Hid (∀ (j : Nat) (v : Value) (e : List Ed), (vs5 ++ [.slice A7 pe.length c7])[j]? = some v → (es ++ [pe])[j]? = some e → EdsIn (erase S5 w8) w8.heap.size v e) := Lib.hid (fun j v e h1 h2 => by
      by_cases hj : j < i
      · rw [List.getElem?_append_left (by rw [HVL.out]; exact hj)] at h1
        rw [List.getElem?_append_left (by rw [HES.out]; exact hj)] at h2
        exact EdsIn.keep2 (S' := S5) (HVE.out j v e h1 h2) HK58.out hRb (fun _ _ => rfl)
      · rw [List.getElem?_append_right (by rw [HVL.out]; omega), HVL.out] at h1
        rw [List.getElem?_append_right (by rw [HES.out]; omega), HES.out] at h2
        obtain ⟨hj2, -⟩ := List.getElem?_eq_some_iff.1 h1
        have : j - i = 0 := by simp at hj2; omega
        rw [this] at h1 h2
        simp only [List.getElem?_cons_zero, Option.some.injEq] at h1 h2
        subst h1 h2
        exact HE8.out)
    have HS5L8 : Hid (∀ k, S5 k = true → k < w8.heap.size) := Lib.hid (fun k hk => Nat.lt_of_lt_of_le (HS5L0.out k hk) HK58.out.size)
    have HKW8 : Hid (Kept (fun k => k = C ∨ (0 < i ∧ k = b)) w w8) := Lib.hid ((HK5.out.mono (fun k _ e => Or.inl (show k = C from e))).trans HK58.out (fun k hk e => by
      unfold Kone at e
      rcases Nat.eq_zero_or_pos i with h0 | h0
      · have := HB2.out h0; omega
      · exact Or.inr ⟨h0, by rw [e, HB1.out h0]⟩))
    have hYz : Y < w8.heap.size := HHY8.out.lt
    have HYnew : Hid (¬ (Y = C ∨ (0 < i ∧ Y = b))) := Lib.hid (fun h => by
      rcases h with h | ⟨h0, h⟩
      · omega
      · have := HB1.out h0; exact HYN.out (by omega))
    clear hk68 hk58 hRb HE7 HK7 HE8 HVE HED6 HCB6 HGZ6 HHY6 HM6 HED5 HM5 HGZ HHY HCB5 HKD5 HK5 HK8 HK6 HS5L HS5L0
    by_cases hin : i + 1 < n
    · have hdI : (i : Int) + 1 < (n : Int) := by omega
      have HDI := Lib.hid hdI
      clear hdI
      refine wp_region_held_drew (S := fun w' => Blk w' C 142 (cltC ⟨dev, rnd, frm, too, kept, dec, 0, (n : Int), []⟩ kd5 (.map (some b5)) false) ∧ MapIs w' b5 (vs5 ++ [.slice A7 pe.length c7])) (by kernel_rfl) ⟨HCB8.out.drew, HM8.out.kept ((Kept.refl Kno _).drew) (fun h => h)⟩ (fun hHeld => ?_)
      refine wpAnyH_takeE (i := 0) (v := .pointer (some ⟨C, 0, none⟩)) rfl rfl (by kernel_rfl) (by kernel_rfl) (by kernel_rfl) (fun _ _ _ h => h) (Or.inl ⟨by rfl, fun w1 hw => by go_simp⟩) (by assumption) ?_
      (try simp only [Act.put, List.setIfInBounds_toArray, List.set_cons_zero, List.set_cons_succ])
      refine wpAnyH_takeE (i := 1) (v := .pointer (some ⟨C, 0, none⟩)) rfl rfl (by kernel_rfl) (by kernel_rfl) (by kernel_rfl) (fun _ _ _ h => h) (Or.inl ⟨by rfl, fun w1 hw => by go_simp⟩) (by assumption) ?_
      (try simp only [Act.put, List.setIfInBounds_toArray, List.set_cons_zero, List.set_cons_succ])
      refine wpAnyH_takeE (i := 2) (v := .pointer (some ⟨C, 32, none⟩)) rfl rfl (by kernel_rfl) (by kernel_rfl) (by kernel_rfl) (fun _ _ _ h => h) (Or.inl ⟨by rfl, fun w1 hw => by go_simp⟩) (by assumption) ?_
      (try simp only [Act.put, List.setIfInBounds_toArray, List.set_cons_zero, List.set_cons_succ])
      refine wpAnyH_takeE (i := 3) (v := .map (some b5)) rfl rfl (by kernel_rfl) (by kernel_rfl) (by kernel_rfl) (fun _ _ _ h => h) (Or.inl ⟨by rfl, fun w1 hw => by have c1 : w1.cell? ⟨C, 32, none⟩ = some (.map (some b5)) := hw.1.cell 32; clear hw; go_simp⟩) (by assumption) ?_
      (try simp only [Act.put, List.setIfInBounds_toArray, List.set_cons_zero, List.set_cons_succ])
      refine wpAnyH_takeE (i := 4) (v := .int .i64 ((i + 1 : Nat) : Int)) rfl rfl (by kernel_rfl) (by kernel_rfl) (by kernel_rfl) (fun _ _ _ h => h) (yieldsIf_len (by rfl) 140 _ rfl (.map (some b5)) (.int .i64 ((i + 1 : Nat) : Int)) rfl (fun w1 hw => by have h := MapIs.len hw.2 3; rw [List.length_append, HVL.out] at h; exact h)) (by assumption) ?_
      (try simp only [Act.put, List.setIfInBounds_toArray, List.set_cons_zero, List.set_cons_succ])
      refine wpAnyH_takeE (i := 5) (v := .pointer (some ⟨C, 0, none⟩)) rfl rfl (by kernel_rfl) (by kernel_rfl) (by kernel_rfl) (fun _ _ _ h => h) (Or.inl ⟨by rfl, fun w1 hw => by go_simp⟩) (by assumption) ?_
      (try simp only [Act.put, List.setIfInBounds_toArray, List.set_cons_zero, List.set_cons_succ])
      refine wpAnyH_takeE (i := 6) (v := .pointer (some ⟨C, 0, none⟩)) rfl rfl (by kernel_rfl) (by kernel_rfl) (by kernel_rfl) (fun _ _ _ h => h) (Or.inl ⟨by rfl, fun w1 hw => by go_simp⟩) (by assumption) ?_
      (try simp only [Act.put, List.setIfInBounds_toArray, List.set_cons_zero, List.set_cons_succ])
      refine wpAnyH_takeE (i := 7) (v := .pointer (some ⟨C, 1, none⟩)) rfl rfl (by kernel_rfl) (by kernel_rfl) (by kernel_rfl) (fun _ _ _ h => h) (Or.inl ⟨by rfl, fun w1 hw => by go_simp⟩) (by assumption) ?_
      (try simp only [Act.put, List.setIfInBounds_toArray, List.set_cons_zero, List.set_cons_succ])
      refine wpAnyH_takeE (i := 8) (v := .pointer (some ⟨C, 14, none⟩)) rfl rfl (by kernel_rfl) (by kernel_rfl) (by kernel_rfl) (fun _ _ _ h => h) (Or.inl ⟨by rfl, fun w1 hw => by go_simp⟩) (by assumption) ?_
      (try simp only [Act.put, List.setIfInBounds_toArray, List.set_cons_zero, List.set_cons_succ])
      refine wpAnyH_takeE (i := 9) (v := .int .i64 (n : Int)) rfl rfl (by kernel_rfl) (by kernel_rfl) (by kernel_rfl) (fun _ _ _ h => h) (Or.inl ⟨by rfl, fun w1 hw => by have c1 : w1.cell? ⟨C, 14, none⟩ = some (.int .i64 (n : Int)) := hw.1.cell 14; clear hw; go_simp⟩) (by assumption) ?_
      (try simp only [Act.put, List.setIfInBounds_toArray, List.set_cons_zero, List.set_cons_succ])
      refine wpAnyH_takeE (i := 10) (v := .bool true) rfl rfl (by kernel_rfl) (by kernel_rfl) (by kernel_rfl) (fun _ _ _ h => h) (Or.inl ⟨by rfl, fun w1 hw => by have h1 := HDI.out; go_simp⟩) (by assumption) ?_
      refine wpAnyH_done (by kernel_rfl) ?_ _
      clear hHeld
      obtain ⟨w9, hw9⟩ : ∃ x, w8.drew = x := ⟨_, rfl⟩
      have HK9 := Lib.hid (show Kept Kno w8 w9 by rw [← hw9]; exact (Kept.refl _ _).drew)
      rw [hw9]
      clear hw9
      have HHY9 := Lib.hid (HHY8.out.kept HK9.out (fun h => h))
      go_wp2_with (first
        | (refine wpList_build_is rfl 36 #[] rfl [] (by rfl) dltZ built_msg ?_)
        | (refine wpList_store_row rfl 36 (.tmp 4) (.tmp 80) rfl Y dltZ rfl rfl 36 dltZ HHY9.out size_dlt' rfl (by kernel_rfl) ?_))
      have hkf : Kept (Kone Y) w9 (w9.setRow Y dltZ) := (Kept.refl _ _).setRow (fun _ => by unfold Kone; rfl) _
      have hcol8 : ColIs S5 w8 C b5 ⟨dev, rnd, frm, too, kept, dec, 0, (n : Int), []⟩ (es ++ [pe]) := ⟨⟨kd5, HCB8.out, HKD8.out⟩, ⟨vs5 ++ [.slice A7 pe.length c7], HM8.out, by simp [HVL.out, HES.out], HVE8.out⟩, HS5C.out, HS5b.out, HCN.out, HS5L8.out⟩
      refine bodyPost_ret (v := .tuple #[.agg dltZ, .bool false]) ?_ rfl ⟨S5, b5, HS5A.out, ?_, ?_, HB1.out, HB2.out, Or.inl ⟨hin, rfl, ?_⟩⟩
      · exact results_row_tmp rfl _ _ Y 36 _ (0, 0) _ rfl rfl (HHY9.out.setRow _) Tryz.underlying36 rfl size_dlt'
      · exact fun k hk => Nat.lt_of_lt_of_le (HS5L8.out k hk) (Nat.le_trans HK9.out.size hkf.size)
      · exact (HKW8.out.then0 HK9.out).trans hkf (fun k hk e => by unfold Kone at e; have := HZ.out; omega)
      · exact (hcol8.keep0 HK9.out).keep hkf (fun k e => by unfold Kone at e; subst e; exact HS5Y.out) (fun e => by unfold Kone at e; omega) (fun e => by unfold Kone at e; exact HYN.out e.symm)
    · have hdI : ¬ (i : Int) + 1 < (n : Int) := by omega
      have HDI := Lib.hid hdI
      have hin1 : i + 1 = n := by omega
      have HIN1 := Lib.hid hin1
      clear hdI hin hin1
      refine wp_region_held_drew (S := fun w' => Blk w' C 142 (cltC ⟨dev, rnd, frm, too, kept, dec, 0, (n : Int), []⟩ kd5 (.map (some b5)) false) ∧ MapIs w' b5 (vs5 ++ [.slice A7 pe.length c7])) (by kernel_rfl) ⟨HCB8.out.drew, HM8.out.kept ((Kept.refl Kno _).drew) (fun h => h)⟩ (fun hHeld => ?_)
      refine wpAnyH_takeE (i := 0) (v := .pointer (some ⟨C, 0, none⟩)) rfl rfl (by kernel_rfl) (by kernel_rfl) (by kernel_rfl) (fun _ _ _ h => h) (Or.inl ⟨by rfl, fun w1 hw => by go_simp⟩) (by assumption) ?_
      (try simp only [Act.put, List.setIfInBounds_toArray, List.set_cons_zero, List.set_cons_succ])
      refine wpAnyH_takeE (i := 1) (v := .pointer (some ⟨C, 0, none⟩)) rfl rfl (by kernel_rfl) (by kernel_rfl) (by kernel_rfl) (fun _ _ _ h => h) (Or.inl ⟨by rfl, fun w1 hw => by go_simp⟩) (by assumption) ?_
      (try simp only [Act.put, List.setIfInBounds_toArray, List.set_cons_zero, List.set_cons_succ])
      refine wpAnyH_takeE (i := 2) (v := .pointer (some ⟨C, 32, none⟩)) rfl rfl (by kernel_rfl) (by kernel_rfl) (by kernel_rfl) (fun _ _ _ h => h) (Or.inl ⟨by rfl, fun w1 hw => by go_simp⟩) (by assumption) ?_
      (try simp only [Act.put, List.setIfInBounds_toArray, List.set_cons_zero, List.set_cons_succ])
      refine wpAnyH_takeE (i := 3) (v := .map (some b5)) rfl rfl (by kernel_rfl) (by kernel_rfl) (by kernel_rfl) (fun _ _ _ h => h) (Or.inl ⟨by rfl, fun w1 hw => by have c1 : w1.cell? ⟨C, 32, none⟩ = some (.map (some b5)) := hw.1.cell 32; clear hw; go_simp⟩) (by assumption) ?_
      (try simp only [Act.put, List.setIfInBounds_toArray, List.set_cons_zero, List.set_cons_succ])
      refine wpAnyH_takeE (i := 4) (v := .int .i64 ((i + 1 : Nat) : Int)) rfl rfl (by kernel_rfl) (by kernel_rfl) (by kernel_rfl) (fun _ _ _ h => h) (yieldsIf_len (by rfl) 140 _ rfl (.map (some b5)) (.int .i64 ((i + 1 : Nat) : Int)) rfl (fun w1 hw => by have h := MapIs.len hw.2 3; rw [List.length_append, HVL.out] at h; exact h)) (by assumption) ?_
      (try simp only [Act.put, List.setIfInBounds_toArray, List.set_cons_zero, List.set_cons_succ])
      refine wpAnyH_takeE (i := 5) (v := .pointer (some ⟨C, 0, none⟩)) rfl rfl (by kernel_rfl) (by kernel_rfl) (by kernel_rfl) (fun _ _ _ h => h) (Or.inl ⟨by rfl, fun w1 hw => by go_simp⟩) (by assumption) ?_
      (try simp only [Act.put, List.setIfInBounds_toArray, List.set_cons_zero, List.set_cons_succ])
      refine wpAnyH_takeE (i := 6) (v := .pointer (some ⟨C, 0, none⟩)) rfl rfl (by kernel_rfl) (by kernel_rfl) (by kernel_rfl) (fun _ _ _ h => h) (Or.inl ⟨by rfl, fun w1 hw => by go_simp⟩) (by assumption) ?_
      (try simp only [Act.put, List.setIfInBounds_toArray, List.set_cons_zero, List.set_cons_succ])
      refine wpAnyH_takeE (i := 7) (v := .pointer (some ⟨C, 1, none⟩)) rfl rfl (by kernel_rfl) (by kernel_rfl) (by kernel_rfl) (fun _ _ _ h => h) (Or.inl ⟨by rfl, fun w1 hw => by go_simp⟩) (by assumption) ?_
      (try simp only [Act.put, List.setIfInBounds_toArray, List.set_cons_zero, List.set_cons_succ])
      refine wpAnyH_takeE (i := 8) (v := .pointer (some ⟨C, 14, none⟩)) rfl rfl (by kernel_rfl) (by kernel_rfl) (by kernel_rfl) (fun _ _ _ h => h) (Or.inl ⟨by rfl, fun w1 hw => by go_simp⟩) (by assumption) ?_
      (try simp only [Act.put, List.setIfInBounds_toArray, List.set_cons_zero, List.set_cons_succ])
      refine wpAnyH_takeE (i := 9) (v := .int .i64 (n : Int)) rfl rfl (by kernel_rfl) (by kernel_rfl) (by kernel_rfl) (fun _ _ _ h => h) (Or.inl ⟨by rfl, fun w1 hw => by have c1 : w1.cell? ⟨C, 14, none⟩ = some (.int .i64 (n : Int)) := hw.1.cell 14; clear hw; go_simp⟩) (by assumption) ?_
      (try simp only [Act.put, List.setIfInBounds_toArray, List.set_cons_zero, List.set_cons_succ])
      refine wpAnyH_takeE (i := 10) (v := .bool false) rfl rfl (by kernel_rfl) (by kernel_rfl) (by kernel_rfl) (fun _ _ _ h => h) (Or.inl ⟨by rfl, fun w1 hw => by have h1 := HDI.out; go_simp⟩) (by assumption) ?_
      refine wpAnyH_done (by kernel_rfl) ?_ _
      clear hHeld
      obtain ⟨w9, hw9⟩ : ∃ x, w8.drew = x := ⟨_, rfl⟩
      have HK9 := Lib.hid (show Kept Kno w8 w9 by rw [← hw9]; exact (Kept.refl _ _).drew)
      rw [hw9]
      clear hw9
      have HHY9 := Lib.hid (HHY8.out.kept HK9.out (fun h => h))
      have HCB9 := Lib.hid (HCB8.out.kept HK9.out (fun h => h))
      have HM9 := Lib.hid (HM8.out.kept HK9.out (fun h => h))
      have HKD9 := Lib.hid (IIn.keep2 (S' := S5) HKD8.out HK9.out (fun _ h => h.elim) (fun _ _ => rfl))
      have HVE9 : Hid (∀ (j : Nat) (v : Value) (e : List Ed), (vs5 ++ [.slice A7 pe.length c7])[j]? = some v → (es ++ [pe])[j]? = some e → EdsIn (erase S5 w9) w9.heap.size v e) := Lib.hid (fun j v e h1 h2 => EdsIn.keep2 (S' := S5) (HVE8.out j v e h1 h2) HK9.out (fun _ h => h.elim) (fun _ _ => rfl))
      have HKW9 := Lib.hid (HKW8.out.then0 HK9.out)
      have HS5L9 : Hid (∀ k, S5 k = true → k < w9.heap.size) := Lib.hid (fun k hk => Nat.lt_of_lt_of_le (HS5L8.out k hk) HK9.out.size)
      have HLE : Hid ((es ++ [pe]).length = n) := Lib.hid (by rw [List.length_append, HES.out]; exact HIN1.out)
      have HLV : Hid ((vs5 ++ [Value.slice A7 pe.length c7]).length = n) := Lib.hid (by rw [List.length_append, HVL.out]; exact HIN1.out)
      have HTOT : Hid ((es ++ [pe]).flatten.length ≤ 10032) := Lib.hid (by have := HSUM.out; rw [List.flatten_append, List.length_append, List.flatten_cons, List.flatten_nil, List.append_nil]; omega)
      have hYz9 : Y < w9.heap.size := HHY9.out.lt
      have y14 : w9.cell? ⟨C, 14, none⟩ = some (.int .i64 (n : Int)) := HCB9.out.cell 14
      clear HK9 HHY8 HCB8 HM8 HKD8 HVE8 HKW8 HS5L8
      go_upto_region 15 with (fail)
      clear y14
      go_loopw [8, 86] (fun x i wr => GatRel S5 (es ++ [pe]) w9 x i wr) (fun _ i _ => n - (intOf i).toNat)
      case atStart => exact ⟨0, none, 0, [], Nat.zero_le _, rfl, rfl, by simp, LOut.nil, Kept.refl _ _⟩
      case round =>
        obtain ⟨j, A, cap, qs, hj, rfl, rfl, hqs, hlo, hkr⟩ := hrel
        rw [HLE.out] at hj
        have HQS := Lib.hid hqs
        have HLO := Lib.hid hlo
        have HKR := Lib.hid hkr
        have HCBR := Lib.hid (HCB9.out.kept hkr (fun h => h))
        have hj0 : (0 : Int) ≤ (j : Int) := by omega
        clear hqs hlo hkr
        by_cases hlt : j < n
        · have hltI : (j : Int) < (n : Int) := by omega
          obtain ⟨vj, hvj⟩ : ∃ x, (vs5 ++ [.slice A7 pe.length c7])[j]? = some x := ⟨_, List.getElem?_eq_getElem (by rw [HLV.out]; exact hlt)⟩
          obtain ⟨ej, hej⟩ : ∃ x, (es ++ [pe])[j]? = some x := ⟨_, List.getElem?_eq_getElem (by rw [HLE.out]; exact hlt)⟩
          have hvs := HVE9.out j vj ej hvj hej
          obtain ⟨vA, vc, rfl⟩ := EdsIn.form hvs
          obtain ⟨ps, hps, hpq, hrd⟩ := LyIn.rd (show LyIn w9.heap.size (.slice vA ej.length vc) ej.length (AtL (erase S5 w9) 5 (EdQ (erase S5 w9) w9.heap.size) ej) from hvs) rfl (by decide)
          have hnext : ((es ++ [pe]).take (j + 1)).flatten = ((es ++ [pe]).take j).flatten ++ ej := by rw [List.take_add_one, hej, List.flatten_append]; show _ ++ [ej].flatten = _; rw [List.flatten_cons, List.flatten_nil, List.append_nil]
          have htl : ((es ++ [pe]).take (j + 1)).flatten.length ≤ 10032 := by
            have h1 := HTOT.out
            have h2 : (es ++ [pe]).flatten.length = ((es ++ [pe]).take (j + 1)).flatten.length + ((es ++ [pe]).drop (j + 1)).flatten.length := by
              rw [← List.length_append, ← List.flatten_append, List.take_append_drop]
            omega
          have hql : qs.length + ps.length ≤ 10032 := by
            rw [hnext, List.length_append, ← HQS.out, ← hps, List.length_map, List.length_map] at htl
            exact htl
          have HNEXT := Lib.hid hnext
          have HPS := Lib.hid hps
          have hpe : ej.length = ps.length := by rw [← hps, List.length_map]
          rw [hpe] at hvj hrd
          have HRD : Hid (Rd wr 5 (.slice vA ps.length vc) ps.length (ps.map (·.2)).flatten) := Lib.hid (hrd.keep (fun p u _ hc => HKR.out.cell_some (erase_cell hc) (fun h => h)))
          have HPQ := Lib.hid hpq
          have HONE := Lib.hid (flat_one hpq (fun x cs h => ed_one h))
          have HIT := Lib.hid (show (Instr.lookup 140 (.map (some b5)) (.int .i64 (j : Int)) false).run Tryz.prog wr = .ok (.slice vA ps.length vc) wr by
            have h := MapIs.hit (HM9.out.kept HKR.out (fun h => h)) false hvj
            rw [if_neg (by decide)] at h
            exact h)
          have yC : wr.cell? ⟨C, 32, none⟩ = some (.map (some b5)) := HCBR.out.cell 32
          have m1 : qs.length + ps.length ≤ maxLen := by simp only [maxLen]; omega
          clear hvj hej hvs hps hpq hrd hnext htl hpe
          go_wp2_with (first
            | (refine wpList_lookup_run rfl 140 _ _ false rfl (.map (some b5)) (.int .i64 (j : Int)) (.slice vA ps.length vc) rfl rfl HIT.out ?_)
            | (at_builtin; go_must (refine wpList_append_rd _ rfl _ _ 25 rfl w9.heap.size 73 i0 _ 5 88 Tryz.underlying25 hi0 z00 z01 z02 rfl (by decide) (.slice A qs.length cap) qs.length (qs.map (·.2)).flatten rfl HLO.out.own.1 (.slice vA ps.length vc) ps.length (ps.map (·.2)).flatten rfl HRD.out HONE.out m1 (by omega) HKR.out.size ?_); intro A9 c9 wa hown9 hg9 hat9))
          have hl9 := LOut.pushAll clo_ed HLO.out (fun p hp => ⟨(HPQ.out p hp).1, HLO.out.was clo_ed (HPQ.out p hp).2 (Nat.le_refl _) (Nat.le_refl _) HKR.out (fun _ h => h.elim)⟩) hg9 hown9 hat9
          refine ⟨⟨j + 1, A9, c9, qs ++ ps, by rw [HLE.out]; omega, by go_num, by rw [List.length_append], ?_, hl9, HKR.out.grown hg9 (fun k hk e => by have := HLO.out.ge e; omega)⟩, ?_⟩
          · rw [List.map_append, HQS.out, HPS.out, HNEXT.out]
          · simp [intOf]
            omega
        · have hltI : ¬ (j : Int) < (n : Int) := by omega
          have hqt : qs.map (·.1) = (es ++ [pe]).flatten := by rw [HQS.out, List.take_of_length_le (by rw [HLE.out]; omega)]
          have hqn : qs.length = (es ++ [pe]).flatten.length := by rw [← hqt, List.length_map]
          have hly := HLO.out.ly clo_ed HS5L9.out
          rw [hqt] at hly
          have HEV : Hid (EdsIn (erase S5 wr) wr.heap.size (.slice A qs.length cap) (es ++ [pe]).flatten) := Lib.hid (by unfold EdsIn; rw [← hqn]; exact hly)
          have y32 : wr.cell? ⟨C, 32, none⟩ = some (.map (some b5)) := HCBR.out.cell 32
          have g32 := HCBR.out.frozen 32
          have y33 : wr.cell? ⟨C, 33, none⟩ = some (.bool false) := HCBR.out.cell 33
          have g33 := HCBR.out.frozen 33
          have HHYR := Lib.hid (HHY9.out.kept HKR.out (fun h => h))
          have HKDR := Lib.hid (IIn.keep2 (S' := S5) HKD9.out HKR.out (fun _ h => h.elim) (fun _ _ => rfl))
          clear hqt hqn hly
          go_upto_region 20 with (fail)
          obtain ⟨w10, hw10⟩ : ∃ x, (wr.setCell ⟨C, 32, none⟩ (.map none)).setCell ⟨C, 33, none⟩ (.bool true) = x := ⟨_, rfl⟩
          have hkc : Kept (Kone C) wr w10 := by rw [← hw10]; exact ((Kept.refl _ _).setIn (p := ⟨C, 32, none⟩) (by unfold Kone; rfl) _).setIn (p := ⟨C, 33, none⟩) (by unfold Kone; rfl) _
          have HCB10 := Lib.hid (show Blk w10 C 142 (((cltC ⟨dev, rnd, frm, too, kept, dec, 0, (n : Int), []⟩ kd5 (.map (some b5)) false).setIfInBounds 32 (.map none)).setIfInBounds 33 (.bool true)) by rw [← hw10]; exact (HCBR.out.set_ 32 _).set_ 33 _)
          have hRC : ∀ k, Kone C k → S5 k = true := fun k e => by unfold Kone at e; subst e; exact HS5C.out
          have HHY10 := Lib.hid (HHYR.out.kept hkc (fun e => by unfold Kone at e; omega))
          have HEV10 := Lib.hid (EdsIn.keep2 (S' := S5) HEV.out hkc hRC (fun _ _ => rfl))
          have HKD10 := Lib.hid (IIn.keep2 (S' := S5) HKDR.out hkc hRC (fun _ _ => rfl))
          have HKC := Lib.hid hkc
          rw [hw10]
          clear hw10 hkc hRC y32 g32 y33 g33
          go_wp2_with (first | (refine wpList_load_at rfl 36 (.tmp 106) rfl C 1 (dltC ⟨dev, rnd, frm, too, kept, dec, 0, (n : Int), []⟩ kd5 (.slice none 0 0)).toList _ rfl (CellsAt.sub HCB10.out 1 rfl) Tryz.underlying36 rfl size_dlt' ?_))
          refine (head_any ⟨dev, rnd, frm, too, kept, dec, 0, (n : Int), []⟩ w10.heap.size kd5 _ A qs.length cap 0 1 w10 HKD10.out.plain (Nat.le_refl _) HKL.out).mono ?_
          rintro e w11 ⟨A11, c11, rfl, ho11, hk11⟩
          have HK11 := Lib.hid hk11
          have HHY11 := Lib.hid (HHY10.out.kept hk11 (fun h => h))
          have HEV11 := Lib.hid (EdsIn.keep2 (S' := S5) HEV10.out hk11 (fun _ h => h.elim) (fun _ _ => rfl))
          clear ho11 hk11
          go_wp2_with (first | (refine wpList_store_row rfl 36 (.tmp 4) (.tmp 109) rfl Y (dltC ⟨dev, rnd, frm, too, kept, dec, 0, 1, []⟩ (.slice A11 kept.length c11) (.slice A qs.length cap)) rfl rfl 36 dltZ HHY11.out (size_dlt _ _ _) rfl (dlt_one _ _ _ rfl rfl) ?_))
          have hkf : Kept (Kone Y) w11 (w11.setRow Y (dltC ⟨dev, rnd, frm, too, kept, dec, 0, 1, []⟩ (.slice A11 kept.length c11) (.slice A qs.length cap))) := (Kept.refl _ _).setRow (fun _ => by unfold Kone; rfl) _
          refine bodyPost_ret (v := .tuple #[.agg (dltC ⟨dev, rnd, frm, too, kept, dec, 0, 1, []⟩ (.slice A11 kept.length c11) (.slice A qs.length cap)), .bool true]) ?_ rfl ⟨S5, b5, HS5A.out, ?_, ?_, HB1.out, HB2.out, Or.inr ⟨HIN1.out, _, _, rfl, rfl, ?_⟩⟩
          · exact results_row_tmp rfl _ _ Y 36 _ (0, 0) _ rfl rfl (HHY11.out.setRow _) Tryz.underlying36 rfl (size_dlt _ _ _)
          · exact fun k hk => Nat.lt_of_lt_of_le (HS5L9.out k hk) (Nat.le_trans HKR.out.size (Nat.le_trans HKC.out.size (Nat.le_trans HK11.out.size hkf.size)))
          · exact ((((HKW9.out.then0 HKR.out).trans HKC.out (fun k hk e => Or.inl (show k = C from e))).then0 HK11.out).trans hkf (fun k hk e => by unfold Kone at e; have := HZ.out; omega))
          · exact EdsIn.keep2 (S' := S5) HEV11.out hkf (fun k e => by unfold Kone at e; subst e; exact HS5Y.out) (fun _ _ => rfl)

end Go.Proofs.YtffdaohmalmkfaaGreat
