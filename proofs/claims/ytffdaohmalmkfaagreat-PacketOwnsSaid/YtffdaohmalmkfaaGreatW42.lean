/-
  Packet: cloneEdits. (Printed by gen_pakmd.py.)
-/
import Derived.Test.YtffdaohmalmkfaaGreatW41
set_option linter.unusedSimpArgs false
set_option linter.unusedVariables false
namespace Go.Proofs.YtffdaohmalmkfaaGreat
open Go.RowKit
set_option linter.unusedVariables false

theorem own_out {base X n sz : Nat} {t : TypeId} {v : Value} {xs : List Value} {w w' : World} (ho : w.ownsRow base t sz v n xs) (hX : X < base) (hk : Kept (Kone X) w w') : w'.ownsRow base t sz v n xs :=
  own_kept ho hk (fun k e h => by unfold Kone at h; have := (own_base ho e).1; omega)
theorem ints_one (xs : List Int) : ∀ u ∈ xs.map iv, u.oneCell' = true := by
  intro u hu
  obtain ⟨x, -, rfl⟩ := List.mem_map.1 hu
  rfl
/-- A list of edits that can be copied. -/
def EdShort (y : Ed) : Prop := y.key.length ≤ 1000 ∧ y.cols.length ≤ 1000 ∧ y.cells.length ≤ 1000
theorem EdOk.short {x : Ed} (h : EdOk x) : EdShort x := by
  have hl := h.klen
  obtain ⟨h1, -⟩ := h
  rcases h1 with ⟨-, h2, h3⟩ | ⟨-, h2, s, h3, -⟩
  · exact ⟨by omega, by rw [h2]; simp, by rw [h3]; simp⟩
  · exact ⟨by omega, by rw [h2]; simp, by rw [h3]; simp⟩
theorem SlIn.lt {w : World} {B sz n : Nat} {v : Value} {xs : List Value} (h : SlIn w B sz v n xs) {k : Nat} (e : v.ownBlock = some k) : k < B := by
  obtain ⟨A', cap', he, h2, h3, h4, h5, h6, -⟩ := h
  exact h6 k e
theorem rd_far {v : Value} {X : Nat} (h : ∀ k, v.ownBlock = some k → k < X) : ∀ k, v.ownBlock = some k → ¬ Kone X k := fun k e hk => by
  unfold Kone at hk
  have := h k e
  omega
def CloneOk (S : Nat → Bool) (xs : List Ed) (w : World) (e : Ending) (w' : World) : Prop :=
  ∃ A cap, e = .returned (.slice A xs.length cap) ∧ EdsIn (erase S w') w'.heap.size (.slice A xs.length cap) xs ∧ Kept Kno w w'
def CloneRel (S : Nat → Bool) (xs : List Ed) (w : World) (c i : Value) (wr : World) : Prop :=
  ∃ (k : Nat) (A : Option Addr) (cap : Nat) (qs : List (Ed × List Value)), k ≤ xs.length ∧ i = .int .i64 k ∧ c = .slice A qs.length cap ∧ qs.map (·.1) = xs.take k ∧ LOut EdQ 73 5 S w.heap.size wr A cap qs ∧ Kept Kno w wr

set_option maxRecDepth 100000 in
set_option maxHeartbeats 4000000 in
theorem clone_any (S : Nat → Bool) (xs : List Ed) (B : Nat) (v : Value) (w : World) (h : EdsIn w B v xs) (hB : B ≤ w.heap.size) (hl : xs.length ≤ 100000) (hs : ∀ y ∈ xs, EdShort y) (hS : ∀ k, S k = true → k < w.heap.size) :
    Calls Tryz.prog 55 #[v] w (CloneOk S xs w) := by
  obtain ⟨i0, hi0, z00, z01, z02⟩ := info_parts info_edit
  obtain ⟨i1, hi1, z10, z11, z12⟩ := info_parts info_val
  obtain ⟨i2, hi2, z20, z21, z22⟩ := info_parts info_into
  obtain ⟨eA, ec, rfl⟩ := EdsIn.form h
  obtain ⟨-, hecap, hecm⟩ := h.cap
  have H := Lib.hid h
  have HSH := Lib.hid hs
  have HSL := Lib.hid hS
  obtain ⟨q, hq⟩ : ∃ n, xs.length = n := ⟨_, rfl⟩
  have HQ := Lib.hid hq
  rw [hq] at hecap H hl ⊢
  clear h hs hS hq
  go_enter Tryz.func55, Tryz.ntmps55
  go_upto_region 3 with (fail)
  go_loopw [3, 8] (fun c i wr => CloneRel S xs w c i wr) (fun _ i _ => q - (intOf i).toNat)
  case atStart => exact ⟨0, none, 0, [], Nat.zero_le _, rfl, rfl, by simp, LOut.nil, Kept.refl _ _⟩
  case round =>
    obtain ⟨k, A, cap, qs, hk, rfl, rfl, hqs, hlo, hkr⟩ := hrel
    rw [HQ.out] at hk
    have HQS := Lib.hid hqs
    have HLO := Lib.hid hlo
    have HKR := Lib.hid hkr
    have hk0 : (0 : Int) ≤ (k : Int) := by omega
    have hql : qs.length ≤ 100000 := by have := congrArg List.length hqs; rw [List.length_map, List.length_take, HQ.out] at this; omega
    clear hqs hlo hkr
    by_cases hlt : k < q
    · have hltI : (k : Int) < (q : Int) := by omega
      obtain ⟨y, hy⟩ : ∃ x, xs[k]? = some x := ⟨_, List.getElem?_eq_getElem (by rw [HQ.out]; exact hlt)⟩
      obtain ⟨ge, oe, kv, cv, vv, rfl, -, hge, hce, hkv, hcv, hvv⟩ := H.out.at_ hy
      have HCE := Lib.hid (hce.old hge (HKR.out.old hB (fun _ _ h => h)))
      obtain ⟨hsk, hsc, hsv⟩ := HSH.out y (List.mem_of_getElem? hy)
      have HTK := Lib.hid (show xs.take (k + 1) = xs.take k ++ [y] by rw [List.take_add_one, hy]; rfl)
      obtain ⟨kA, kc, rfl⟩ : ∃ A c, kv = .slice A y.key.length c := SlIn.form hkv
      obtain ⟨cA, cc, rfl⟩ : ∃ A c', cv = .slice A y.cols.length c' := SlIn.form hcv
      obtain ⟨vA, vc, rfl⟩ : ∃ A c', vv = .slice A y.cells.length c' := SlIn.form hvv
      have HRK := Lib.hid (SlIn.rd hkv)
      have HCL : Hid (∀ k, (Value.slice cA y.cols.length cc).ownBlock = some k → k < wr.heap.size) := Lib.hid (fun k e => Nat.lt_of_lt_of_le (SlIn.lt hcv e) (Nat.le_trans hB HKR.out.size))
      have HVL : Hid (∀ k, (Value.slice vA y.cells.length vc).ownBlock = some k → k < wr.heap.size) := Lib.hid (fun k e => Nat.lt_of_lt_of_le (SlIn.lt hvv e) (Nat.le_trans hB HKR.out.size))
      have HRC := Lib.hid (SlIn.rd hcv)
      have HRV := Lib.hid (SlIn.rd hvv)
      have hBR : B ≤ wr.heap.size := Nat.le_trans hB HKR.out.size
      clear hy hce hge hkv hcv hvv
      go_upto_region 5 with (first
        | (refine wpList_load_at rfl 73 (.tmp 10) rfl ge (oe + k * 5) [.int .i64 y.op, .int .i64 y.tab, .slice kA y.key.length kc, .slice cA y.cols.length cc, .slice vA y.cells.length vc] _ rfl HCE.out Tryz.underlying73 rfl (by kernel_rfl) ?_)
        | (refine wpList_store_new rfl 73 (.tmp 5) (.tmp 11) rfl _ #[.int .i64 y.op, .int .i64 y.tab, .slice kA y.key.length kc, .slice cA y.cols.length cc, .slice vA y.cells.length vc] rfl rfl (by kernel_rfl) rfl (by simp [Value.oneCell']) ?_))
      obtain ⟨wy, hwy⟩ : ∃ wy, wr.alloc (.cells #[.int .i64 y.op, .int .i64 y.tab, .slice kA y.key.length kc, .slice cA y.cols.length cc, .slice vA y.cells.length vc] 73) = wy := ⟨_, rfl⟩
      have HKY := Lib.hid (show Kept Kno wr wy by rw [← hwy]; exact (Kept.refl _ _).alloc _)
      have HYB := Lib.hid (show Blk wy wr.heap.size 73 #[.int .i64 y.op, .int .i64 y.tab, .slice kA y.key.length kc, .slice cA y.cols.length cc, .slice vA y.cells.length vc] by rw [← hwy]; exact Blk.new _ _ _)
      have hszy : wr.heap.size < wy.heap.size := HYB.out.lt
      have c4 : wy.cell? ⟨wr.heap.size, 2, none⟩ = some (.slice kA y.key.length kc) := HYB.out.cell 2
      rw [hwy]
      clear hwy HCE
      go_upto_region 6 with (at_builtin; go_must (refine wpList_append_rd _ rfl _ _ 30 rfl wy.heap.size 49 i1 _ 3 32 Tryz.underlying30 hi1 z10 z11 z12 rfl (by decide) (.slice none 0 0) 0 [] rfl (World.ownsRow_nil _ _ _ _) _ y.key.length (rowC y.key) rfl (HRK.out.kept0 (HKR.out.then0 HKY.out)) (rowC_one _) (by simp only [maxLen]; omega) (by omega) (by simp) ?_); intro A5 c5 v5 hown5 hg5 hat5; have hb5 : Blk v5 wr.heap.size 73 #[.int .i64 y.op, .int .i64 y.tab, .slice kA y.key.length kc, .slice cA y.cols.length cc, .slice vA y.cells.length vc] := HYB.out.grown hg5 (by simp [Value.ownBlock]); have b5 : v5.cell? ⟨wr.heap.size, 2, none⟩ = _ := hb5.cell 2; have f5 := hb5.frozen 2)
      rw [Nat.zero_add] at hown5
      simp only [Nat.zero_add, List.nil_append] at hown5 ⊢
      have hs5 := hb5.set_ 2 (.slice A5 (y.key.length) c5)
      have hks5 : Kept (Kone wr.heap.size) v5 (v5.setCell ⟨wr.heap.size, 2, none⟩ (.slice A5 (y.key.length) c5)) := (Kept.refl _ _).setIn (p := ⟨wr.heap.size, 2, none⟩) (by unfold Kone; rfl) _
      obtain ⟨wz, hw5⟩ : ∃ x, v5.setCell ⟨wr.heap.size, 2, none⟩ (.slice A5 (y.key.length) c5) = x := ⟨_, rfl⟩
      rw [hw5] at hs5 hks5 ⊢
      have hkg5 : Kept (Kone wr.heap.size) wy wz := ((Kept.refl _ _).grown hg5 (fun k hk e => by cases e)).trans hks5 (fun _ _ h => h)
      have hsz5 : wy.heap.size ≤ wz.heap.size := hkg5.size
      have HOWN5 := Lib.hid (own_out hown5 (by omega) hks5)
      have HB5 : Hid (Blk wz wr.heap.size 73 #[.int .i64 y.op, .int .i64 y.tab, .slice A5 y.key.length c5, .slice cA y.cols.length cc, .slice vA y.cells.length vc]) := Lib.hid (by simpa using hs5)
      have HKG5 := Lib.hid hkg5
      clear hown5 hg5 hat5 hs5 hks5 hw5 hkg5 hb5 b5 f5
      have c5_ : wz.cell? ⟨wr.heap.size, 3, none⟩ = some (.slice cA y.cols.length cc) := HB5.out.cell 3
      clear c4
      go_upto_region 7 with (at_builtin; go_must (refine wpList_append_rd _ rfl _ _ 24 rfl wz.heap.size 3 i2 _ 1 8 Tryz.underlying24 hi2 z20 z21 z22 rfl (by decide) (.slice none 0 0) 0 [] rfl (World.ownsRow_nil _ _ _ _) _ y.cols.length (y.cols.map iv) rfl ((HRC.out.kept0 (HKR.out.then0 HKY.out)).kept HKG5.out (rd_far HCL.out)) (ints_one _) (by simp only [maxLen]; omega) (by omega) (by simp) ?_); intro A6 c6 v6 hown6 hg6 hat6; have hb6 : Blk v6 wr.heap.size 73 #[.int .i64 y.op, .int .i64 y.tab, .slice A5 y.key.length c5, .slice cA y.cols.length cc, .slice vA y.cells.length vc] := HB5.out.grown hg6 (by simp [Value.ownBlock]); have b6 : v6.cell? ⟨wr.heap.size, 3, none⟩ = _ := hb6.cell 3; have f6 := hb6.frozen 3)
      rw [Nat.zero_add] at hown6
      simp only [Nat.zero_add, List.nil_append] at hown6 ⊢
      have hs6 := hb6.set_ 3 (.slice A6 (y.cols.length) c6)
      have hks6 : Kept (Kone wr.heap.size) v6 (v6.setCell ⟨wr.heap.size, 3, none⟩ (.slice A6 (y.cols.length) c6)) := (Kept.refl _ _).setIn (p := ⟨wr.heap.size, 3, none⟩) (by unfold Kone; rfl) _
      obtain ⟨wz2, hw6⟩ : ∃ x, v6.setCell ⟨wr.heap.size, 3, none⟩ (.slice A6 (y.cols.length) c6) = x := ⟨_, rfl⟩
      rw [hw6] at hs6 hks6 ⊢
      have hkg6 : Kept (Kone wr.heap.size) wz wz2 := ((Kept.refl _ _).grown hg6 (fun k hk e => by cases e)).trans hks6 (fun _ _ h => h)
      have hsz6 : wz.heap.size ≤ wz2.heap.size := hkg6.size
      have HOWN6 := Lib.hid (own_out hown6 (by omega) hks6)
      have HB6 : Hid (Blk wz2 wr.heap.size 73 #[.int .i64 y.op, .int .i64 y.tab, .slice A5 y.key.length c5, .slice A6 y.cols.length c6, .slice vA y.cells.length vc]) := Lib.hid (by simpa using hs6)
      have HKG6 := Lib.hid hkg6
      clear hown6 hg6 hat6 hs6 hks6 hw6 hkg6 hb6 b6 f6
      have c6_ : wz2.cell? ⟨wr.heap.size, 4, none⟩ = some (.slice vA y.cells.length vc) := HB6.out.cell 4
      clear c5_
      go_upto_region 8 with (at_builtin; go_must (refine wpList_append_rd _ rfl _ _ 30 rfl wz2.heap.size 49 i1 _ 3 32 Tryz.underlying30 hi1 z10 z11 z12 rfl (by decide) (.slice none 0 0) 0 [] rfl (World.ownsRow_nil _ _ _ _) _ y.cells.length (rowC y.cells) rfl (((HRV.out.kept0 (HKR.out.then0 HKY.out)).kept HKG5.out (rd_far HVL.out)).kept HKG6.out (rd_far HVL.out)) (rowC_one _) (by simp only [maxLen]; omega) (by omega) (by simp) ?_); intro A7 c7 v7 hown7 hg7 hat7; have hb7 : Blk v7 wr.heap.size 73 #[.int .i64 y.op, .int .i64 y.tab, .slice A5 y.key.length c5, .slice A6 y.cols.length c6, .slice vA y.cells.length vc] := HB6.out.grown hg7 (by simp [Value.ownBlock]); have b7 : v7.cell? ⟨wr.heap.size, 4, none⟩ = _ := hb7.cell 4; have f7 := hb7.frozen 4)
      rw [Nat.zero_add] at hown7
      simp only [Nat.zero_add, List.nil_append] at hown7 ⊢
      have hs7 := hb7.set_ 4 (.slice A7 (y.cells.length) c7)
      have hks7 : Kept (Kone wr.heap.size) v7 (v7.setCell ⟨wr.heap.size, 4, none⟩ (.slice A7 (y.cells.length) c7)) := (Kept.refl _ _).setIn (p := ⟨wr.heap.size, 4, none⟩) (by unfold Kone; rfl) _
      obtain ⟨wz3, hw7⟩ : ∃ x, v7.setCell ⟨wr.heap.size, 4, none⟩ (.slice A7 (y.cells.length) c7) = x := ⟨_, rfl⟩
      rw [hw7] at hs7 hks7 ⊢
      have hkg7 : Kept (Kone wr.heap.size) wz2 wz3 := ((Kept.refl _ _).grown hg7 (fun k hk e => by cases e)).trans hks7 (fun _ _ h => h)
      have hsz7 : wz2.heap.size ≤ wz3.heap.size := hkg7.size
      have HOWN7 := Lib.hid (own_out hown7 (by omega) hks7)
      have HB7 : Hid (Blk wz3 wr.heap.size 73 #[.int .i64 y.op, .int .i64 y.tab, .slice A5 y.key.length c5, .slice A6 y.cols.length c6, .slice A7 y.cells.length c7]) := Lib.hid (by simpa using hs7)
      have HKG7 := Lib.hid hkg7
      clear hown7 hg7 hat7 hs7 hks7 hw7 hkg7 hb7 b7 f7
      clear c6_
      have HKW : Hid (Kept Kno wr wz3) := Lib.hid ((HKY.out.trans (S := Kno) (T := Kone wr.heap.size) (a := wr) ((HKG5.out.trans HKG6.out (fun _ _ h => h)).trans HKG7.out (fun _ _ h => h)) (fun i hi e => by unfold Kone at e; omega)))
      have HLO3 := Lib.hid (HLO.out.keep0 clo_ed HKW.out)
      have hoS : ∀ k, wy.heap.size ≤ k → orow S (.slice A qs.length cap) k = false := fun k hk => by
        cases hx : orow S (.slice A qs.length cap) k with
        | false => rfl
        | true =>
          have := HLO.out.orow_lt (fun k hk => Nat.lt_of_lt_of_le (HSL.out k hk) HKR.out.size) k hx
          omega
      have HX3 : Hid (EdQ (erase (orow S (.slice A qs.length cap)) wz3) wz3.heap.size y #[.int .i64 y.op, .int .i64 y.tab, .slice A5 y.key.length c5, .slice A6 y.cols.length c6, .slice A7 y.cells.length c7].toList) := Lib.hid ⟨.slice A5 y.key.length c5, .slice A6 y.cols.length c6, .slice A7 y.cells.length c7, rfl,
        own_slin (own_out (own_out HOWN5.out hszy HKG6.out) hszy HKG7.out) hoS,
        own_slin (own_out HOWN6.out (by omega) HKG7.out) (fun k hk => hoS k (by omega)),
        own_slin HOWN7.out (fun k hk => hoS k (by omega))⟩
      have m1 : qs.length + 1 ≤ maxLen := by simp only [maxLen]; omega
      have hwz : w.heap.size ≤ wz3.heap.size := Nat.le_trans HKR.out.size HKW.out.size
      clear hoS
      go_wp2_with (first
        | (refine wpList_load_row rfl 73 (.tmp 5) rfl wr.heap.size rfl 73 #[.int .i64 y.op, .int .i64 y.tab, .slice A5 y.key.length c5, .slice A6 y.cols.length c6, .slice A7 y.cells.length c7] (0, 0) _ HB7.out Tryz.underlying73 rfl (by kernel_rfl) ?_)
        | (at_builtin; go_must (refine wpList_append_rd _ rfl _ _ 25 rfl w.heap.size 73 i0 _ 5 88 Tryz.underlying25 hi0 z00 z01 z02 rfl (by decide) (.slice A qs.length cap) qs.length (qs.map (·.2)).flatten rfl (World.ownsRow.alloc HLO3.out.own.1 _) _ 1 #[.int .i64 y.op, .int .i64 y.tab, .slice A5 y.key.length c5, .slice A6 y.cols.length c6, .slice A7 y.cells.length c7].toList rfl (Rd.one' _ _ _ rfl (by simp)) (by simp [Value.oneCell']) m1 (by omega) (by simp; omega) ?_); intro A9 c9 w9 hown9 hg9 hat9))
      have hl9 := LOut.push clo_ed HLO3.out HX3.out rfl hg9 hown9 hat9
      refine ⟨⟨k + 1, A9, c9, _, by rw [HQ.out]; omega, by go_num, by simp, ?_, hl9, ((HKR.out.then0 HKW.out).alloc _).grown hg9 (fun k hk e => by have := HLO3.out.ge e; omega)⟩, ?_⟩
      · rw [List.map_append, HQS.out, HTK.out]
        rfl
      · simp [intOf]
        omega
    · have hltI : ¬ (k : Int) < (q : Int) := by omega
      have hqt : qs.map (·.1) = xs := by rw [HQS.out, List.take_of_length_le (by rw [HQ.out]; omega)]
      have hqn : qs.length = q := by rw [← HQ.out, ← hqt, List.length_map]
      have hly := HLO.out.ly clo_ed HSL.out
      rw [hqt, hqn] at hly
      have HXX := Lib.hid (show CloneOk S xs w (.returned (.slice A qs.length cap)) wr from ⟨A, cap, by rw [hqn, HQ.out], by unfold EdsIn; rw [HQ.out]; exact hly, HKR.out⟩)
      clear hqt hqn hly
      go_wp2
      go_ret
      exact HXX.out

end Go.Proofs.YtffdaohmalmkfaaGreat
