/-
  PacketOwns: the case's Delta. (Printed by gen_pakpu.py.)
-/
import Derived.Test.YtffdaohmalmkfaaGreatW45
import Derived.Test.YtffdaohmalmkfaaGreatW47
set_option linter.unusedSimpArgs false
set_option linter.unusedVariables false
namespace Go.Proofs.YtffdaohmalmkfaaGreat
open Go.RowKit
set_option linter.unusedVariables false

theorem Inc.snoc : ∀ {xs : List Int} {a z : Int}, Inc a xs → (∀ y ∈ xs, y < z) → a < z → Inc a (xs ++ [z])
  | [], _, _, _, _, h => ⟨h, trivial⟩
  | x :: xs, a, z, h, h1, h2 => ⟨h.1, Inc.snoc h.2 (fun y hy => h1 y (by simp [hy])) (h1 x (by simp))⟩
theorem built_dlt0 (dev rnd too dec : Int) : Tryz.prog.built 36 [(0, .int .i64 2), (1, .int .i64 dev), (2, .int .i64 rnd), (9, .int .i64 too), (11, .int .i64 dec), (13, .int .i64 1)] = some (dltC ⟨dev, rnd, 0, too, [], dec, 0, 1, []⟩ (.slice none 0 0) (.slice none 0 0)) := by kernel_rfl
theorem wpList_build_dlt0 {ops : Array Oper} {rest : List Oper} {o : Oper} {a : Act} {w : World} {Q : Exit → Act → World → Prop} {dev rnd too dec : Int} (hg : o.guard = none) (t1 t2 t3 t4 : Operand) (ho : o.op = .build 36 #[(0, .const (.int .i64 2)), (1, t1), (2, t2), (9, t3), (11, t4), (13, .const (.int .i64 1))])
    (h1 : a.eval t1 = .int .i64 dev) (h2 : a.eval t2 = .int .i64 rnd) (h3 : a.eval t3 = .int .i64 too) (h4 : a.eval t4 = .int .i64 dec)
    (h : wpList Tryz.prog ops Q rest (a.put o.dst (.agg (dltC ⟨dev, rnd, 0, too, [], dec, 0, 1, []⟩ (.slice none 0 0) (.slice none 0 0)))) w) : wpList Tryz.prog ops Q (o :: rest) a w :=
  wpList_build_is hg 36 _ ho [(0, .int .i64 2), (1, .int .i64 dev), (2, .int .i64 rnd), (9, .int .i64 too), (11, .int .i64 dec), (13, .int .i64 1)] (by rw [Array.toList_map]; show [(0, Value.int .i64 2), (1, a.eval t1), (2, a.eval t2), (9, a.eval t3), (11, a.eval t4), (13, Value.int .i64 1)] = _; rw [h1, h2, h3, h4]) _ (built_dlt0 dev rnd too dec) h
/-- What Delta returns: a delta that is valid but for its edits. -/
def DeltaOk (S : Nat → Bool) (K : Nat) (v : Value) (l : List UInt8) (w : World) (e : Ending) (w' : World) : Prop :=
  ∃ (x : Dl) (kd : Value) (A : Option Addr) (n c : Nat), e = .returned (.agg (dltC x kd (.slice A n c))) ∧ DlOk x ∧ x.edits = [] ∧ x.part = 0 ∧ x.parts = 1 ∧ IIn (erase S w') w'.heap.size kd x.kept ∧ Goes K v l w w'
/-- The loop over Kept. -/
def KpRel (K : Nat) (v : Value) (l : List UInt8) (M Y : Nat) (dev rnd frm too dec : Int) (base : Nat) (w0 w : World) (i : Value) (wr : World) : Prop :=
  ∃ (q : Nat) (ks : List Int) (A : Option Addr) (c : Nat), q ≤ 3 ∧ i = .int .i64 q ∧ ks.length + q ≤ 3 ∧ Inc 0 ks ∧ (∀ y ∈ ks, y < 4 - (q : Int)) ∧ wr.ownsRow base 3 1 (.slice A ks.length c) ks.length (ks.map iv) ∧
    Blk wr M 36 (dltC ⟨dev, rnd, frm, too, [], dec, 0, 1, []⟩ (.slice A ks.length c) (.slice none 0 0)) ∧ Blk wr Y 36 dltZ ∧ Goes K v l w0 wr ∧ Kept (fun k => k = K ∨ k = M) w wr

set_option maxRecDepth 100000 in
set_option maxHeartbeats 2000000 in
theorem delta_any (S : Nat → Bool) (K : Nat) (v : Value) (l : List UInt8) (sv : Value) (ver : Int) (ts : List Tbl) (B0 : Nat) (dev : Int) (w : World) (h : ScPre S K v l sv ver ts B0 w) (hts : 0 < ts.length) (hd1 : 1 ≤ dev) (hd8 : dev ≤ 8) :
    Calls Tryz.prog 28 #[.pointer (some ⟨K, 0, none⟩), sv, .int .i64 dev] w (DeltaOk S K v l w) := by
  obtain ⟨i2, hi2, z20, z21, z22⟩ := info_parts info_into
  obtain ⟨s0, hsv, -, h4, A0, tcap, rfl, htc, htm, -, -, hts'⟩ := id h.s
  subst hsv
  have H := Lib.hid h
  have hKw : K < w.heap.size := h.lt K h.SK
  have htm' : tcap ≤ 9223372036854775807 := by simpa only [maxLen] using htm
  clear h hts' htm
  go_enter Tryz.func28, Tryz.ntmps28
  go_upto_region 1 with (fail)
  obtain ⟨w0, h0⟩ : ∃ w0, (w.alloc (.cells #[.int .i64 ver, .slice A0 ts.length tcap] 82)).alloc (.cells dltZ 36) = w0 := ⟨_, rfl⟩
  have hk0 : Kept Kno w w0 := by rw [← h0]; exact ((Kept.refl _ _).alloc _).alloc _
  have HS0 := Lib.hid (show Blk w0 w.heap.size 82 #[.int .i64 ver, .slice A0 ts.length tcap] by rw [← h0]; exact (Blk.new _ _ _).alloc _)
  have HY0 := Lib.hid (show Blk w0 (w.heap.size + 1) 36 dltZ by rw [← h0]; have := Blk.new (w.alloc (.cells #[.int .i64 ver, .slice A0 ts.length tcap] 82)) 36 dltZ; simpa using this)
  have hz0 : w0.heap.size = w.heap.size + 2 := by rw [← h0]; simp
  have h0' := h0
  unfold dltZ at h0'
  rw [h0']
  clear h0 h0'
  have HK0 := Lib.hid hk0
  have HP0 := Lib.hid (H.out.step hk0 (fun _ h => h.elim) (Goes.of0 H.out.c hk0).1)
  obtain ⟨Z, hZ⟩ : ∃ n, w.heap.size = n := ⟨_, rfl⟩
  obtain ⟨Y, hY⟩ : ∃ n, Z + 1 = n := ⟨_, rfl⟩
  have HZ := Lib.hid hZ
  rw [hZ] at HS0 HY0 hKw hz0 ⊢
  rw [hY] at HY0 ⊢
  have hZY : Z < Y := by omega
  have hYw : Y < w0.heap.size := by omega
  clear hZ hY hz0 hk0
  obtain ⟨a0, ha0⟩ := HP0.out.c
  have HA0 := Lib.hid ha0
  clear ha0
  go_wp2_with fail
  refine (count_any K a0 1073741824 v l w0 HA0.out (by decide)).mono ?_
  rintro e w1 ⟨rnd, hrnd, rfl, hg1⟩
  have HG1 := Lib.hid hg1
  obtain ⟨a1, ha1⟩ := (HP0.out.goes hg1).c
  have HA1 := Lib.hid ha1
  clear ha1 hg1
  go_wp2_with fail
  refine (count_any K a1 1073741824 v l w1 HA1.out (by decide)).mono ?_
  rintro e w2 ⟨too, htoo, rfl, hg2⟩
  have HG2 := Lib.hid (HG1.out.then_ hg2)
  obtain ⟨a2, ha2⟩ := (HP0.out.goes HG2.out).c
  have HA2 := Lib.hid ha2
  clear ha2 hg2
  go_wp2_with fail
  refine (count_any K a2 1073741824 v l w2 HA2.out (by decide)).mono ?_
  rintro e w3 ⟨dec, hdec, rfl, hg3⟩
  have HG3 := Lib.hid (HG2.out.then_ hg3)
  clear hg3 HA0 HA1 HA2 HG1 HG2
  go_upto_region 2 with (first
    | (refine wpList_build_dlt0 (dev := dev) (rnd := (rnd : Int)) (too := (too : Int)) (dec := (dec : Int)) rfl (.tmp 12) (.tmp 14) (.tmp 16) (.tmp 18) rfl (by rfl) (by rfl) (by rfl) (by rfl) ?_)
    | (refine wpList_store_new rfl 36 (.tmp 7) (.tmp 19) rfl _ (dltC ⟨dev, (rnd : Int), 0, (too : Int), [], (dec : Int), 0, 1, []⟩ (.slice none 0 0) (.slice none 0 0)) rfl rfl (size_dlt _ _ _) rfl (dlt_one _ _ _ rfl rfl) ?_))
  simp only [Act.put]
  obtain ⟨w4, hw4⟩ : ∃ x, w3.alloc (.cells (dltC ⟨dev, (rnd : Int), 0, (too : Int), [], (dec : Int), 0, 1, []⟩ (.slice none 0 0) (.slice none 0 0)) 36) = x := ⟨_, rfl⟩
  have hk34 : Kept Kno w3 w4 := by rw [← hw4]; exact (Kept.refl _ _).alloc _
  obtain ⟨M, hM⟩ : ∃ n, w3.heap.size = n := ⟨_, rfl⟩
  have HM4 := Lib.hid (show Blk w4 M 36 (dltC ⟨dev, (rnd : Int), 0, (too : Int), [], (dec : Int), 0, 1, []⟩ (.slice none 0 0) (.slice none 0 0)) by rw [← hw4, ← hM]; exact Blk.new _ _ _)
  have HG4 := Lib.hid (HG3.out.then0 hk34)
  have hz43 : w4.heap.size = M + 1 := by rw [← hw4, ← hM]; simp
  have hYM : Y < M := by have := HG3.out.2.size; omega
  have hwM : w0.heap.size ≤ M := by have := HG3.out.2.size; omega
  have HP4 := Lib.hid (show ScPre (more S M) K v l (.agg #[.int .i64 ver, .slice A0 ts.length tcap]) ver ts B0 w4 from (HP0.out.goes HG3.out).at2 hk34 (fun _ h => h.elim) (Goes.of0 (HP0.out.goes HG3.out).c hk34).1 (fun k hk => more_old (by omega)) (fun k hk => by
    cases hs : S k with
    | true => have := (HP0.out.goes HG3.out).lt k hs; omega
    | false =>
      have : k = M := by simpa [more, hs] using hk
      omega))
  rw [hw4, hM]
  clear hw4 hk34 hM
  refine wp_region_held_drew (S := fun w' => w'.cell? ⟨M, 9, none⟩ = some (.int .i64 (too : Int))) (by kernel_rfl) (HM4.out.drew.cell 9) (fun hHeld => ?_)
  refine wpAnyH_takeE (i := 0) (v := .pointer (some ⟨M, 9, none⟩)) rfl rfl (by kernel_rfl) (by kernel_rfl) (by kernel_rfl) (fun _ _ _ h => h) (Or.inl ⟨by rfl, fun w1 hw => by go_simp⟩) (by assumption) ?_
  (try simp only [Act.put, List.setIfInBounds_toArray, List.set_cons_zero, List.set_cons_succ])
  refine wpAnyH_takeE (i := 1) (v := .int .i64 (too : Int)) rfl rfl (by kernel_rfl) (by kernel_rfl) (by kernel_rfl) (fun _ _ _ h => h) (Or.inl ⟨by rfl, fun w1 hw => by have c1 : w1.cell? ⟨M, 9, none⟩ = some (.int .i64 (too : Int)) := hw; clear hw; go_simp⟩) (by assumption) ?_
  (try simp only [Act.put, List.setIfInBounds_toArray, List.set_cons_zero, List.set_cons_succ])
  refine wpAnyH_takeE (i := 2) (v := .pointer (some ⟨K, 0, none⟩)) rfl rfl (by kernel_rfl) (by kernel_rfl) (by kernel_rfl) (fun _ _ _ h => h) (Or.inl ⟨by rfl, fun w1 hw => by go_simp⟩) (by assumption) ?_
  (try simp only [Act.put, List.setIfInBounds_toArray, List.set_cons_zero, List.set_cons_succ])
  refine wpAnyH_takeE (i := 5) (v := .pointer (some ⟨K, 0, none⟩)) rfl rfl (by kernel_rfl) (by kernel_rfl) (by kernel_rfl) (fun _ _ _ h => h) (Or.inl ⟨by rfl, fun w1 hw => by go_simp⟩) (by assumption) ?_
  (try simp only [Act.put, List.setIfInBounds_toArray, List.set_cons_zero, List.set_cons_succ])
  obtain ⟨a4, ha4⟩ := (HP4.out.c)
  have HA4 := Lib.hid (ha4.kept0 ((Kept.refl Kno w4).drew))
  clear ha4
  refine wpAnyH_ready (rs := [3]) (by kernel_rfl) (by simp) ?_
  refine AllReadyH.cons rfl (fun K' hK => ?_) (AllReadyH.nil)
  go_simp
  go_at_call 26
  refine (count_any K a4 1073741824 v l w4.drew HA4.out (by decide)).mono ?_
  rintro e w5 ⟨m2, hm2, rfl, hg5⟩
  have HG5 := Lib.hid (show Goes K v l w4 w5 from Goes.before0 hg5 ((Kept.refl Kno w4).drew))
  have HM5 := Lib.hid (HM4.out.kept HG5.out.2 (fun e => by unfold Kone at e; omega))
  have HP5 := Lib.hid (HP4.out.goes HG5.out)
  clear hg5
  go_wp2_with fail
  refine hK.out _ _ ?_ (fun hHeld => ?_)
  · exact HM5.out.cell 9
  clear hK K'
  (try simp only [Act.put, List.setIfInBounds_toArray, List.set_cons_zero, List.set_cons_succ])
  obtain ⟨mn, hmn⟩ : ∃ mn, min too m2 = mn := ⟨_, rfl⟩
  have hmn1 : mn ≤ too := by omega
  have HMIN := Lib.hid (show (if (m2 : Int) < (too : Int) then (m2 : Int) else (too : Int)) = (mn : Int) by split <;> omega)
  clear hmn
  refine wpAnyH_takeE (i := 4) (v := .int .i64 (mn : Int)) rfl rfl (by kernel_rfl) (by kernel_rfl) (by kernel_rfl) (fun _ _ _ h => h) (Or.inl ⟨by rfl, fun w1 hw => by rw [← HMIN.out]; go_simp⟩) (by assumption) ?_
  (try simp only [Act.put, List.setIfInBounds_toArray, List.set_cons_zero, List.set_cons_succ])
  obtain ⟨a5, ha5⟩ := HP5.out.c
  have HA5 := Lib.hid ha5
  clear ha5
  refine wpAnyH_ready (rs := [6]) (by kernel_rfl) (by simp) ?_
  refine AllReadyH.cons rfl (fun K' hK => ?_) (AllReadyH.nil)
  go_simp
  go_at_call 25
  refine (int_any K a5 2 v l w5 HA5.out (by decide) (by decide)).mono ?_
  rintro e w6 ⟨bt, hbt, rfl, hg6⟩
  have HG6 := Lib.hid (HG5.out.then_ hg6)
  have HM6 := Lib.hid (HM5.out.kept hg6.2 (fun e => by unfold Kone at e; omega))
  have HP6 := Lib.hid (HP5.out.goes hg6)
  clear hg6
  have HWR := Lib.hid (show IntKind.i64.wrap ((mn : Int) - (bt : Int)) = (mn : Int) - (bt : Int) from IntWalk.i64_in _ (by omega))
  go_wp2_with fail
  refine hK.out _ _ ?_ (fun hHeld => ?_)
  · exact HM6.out.cell 9
  clear hK K'
  (try simp only [Act.put, List.setIfInBounds_toArray, List.set_cons_zero, List.set_cons_succ])
  refine wpAnyH_takeE (i := 7) (v := .int .i64 ((mn : Int) - (bt : Int))) rfl rfl (by kernel_rfl) (by kernel_rfl) (by kernel_rfl) (fun _ _ _ h => h) (Or.inl ⟨by rfl, fun w1 hw => by have h := HWR.out; go_simp⟩) (by assumption) ?_
  (try simp only [Act.put, List.setIfInBounds_toArray, List.set_cons_zero, List.set_cons_succ])
  refine wpAnyH_takeE (i := 8) (v := .pointer (some ⟨M, 8, none⟩)) rfl rfl (by kernel_rfl) (by kernel_rfl) (by kernel_rfl) (fun _ _ _ h => h) (Or.inl ⟨by rfl, fun w1 hw => by go_simp⟩) (by assumption) ?_
  (try simp only [Act.put, List.setIfInBounds_toArray, List.set_cons_zero, List.set_cons_succ])
  refine wpAnyH_ready (rs := [9]) (by kernel_rfl) (by simp) ?_
  refine AllReadyH.cons rfl (fun K' hK => ?_) (AllReadyH.nil)
  have x8 : w6.cell? ⟨M, 8, none⟩ = some (.int .i64 0) := HM6.out.cell 8
  have f8 := HM6.out.frozen 8
  go_simp
  clear x8 f8
  obtain ⟨w7, hw7⟩ : ∃ y, w6.setCell ⟨M, 8, none⟩ (.int .i64 ((mn : Int) - (bt : Int))) = y := ⟨_, rfl⟩
  have hk7 : Kept (Kone M) w6 w7 := by rw [← hw7]; exact (Kept.refl _ _).setIn (p := ⟨M, 8, none⟩) (by unfold Kone; rfl) _
  have hm7 : Blk w7 M 36 (dltC ⟨dev, (rnd : Int), (mn : Int) - (bt : Int), (too : Int), [], (dec : Int), 0, 1, []⟩ (.slice none 0 0) (.slice none 0 0)) := by rw [← hw7]; exact HM6.out.set_ 8 _
  rw [hw7]
  clear hw7
  have HM7 := Lib.hid hm7
  have HG7 := Lib.hid (Goes.thenN HP0.out.c (HG4.out.then_ HG6.out) hk7 (fun k e => by unfold Kone at e; omega))
  have HP7 := Lib.hid (HP6.out.step hk7 (fun k e => by unfold Kone at e; subst e; exact more_self _ _) (Goes.thenN HP0.out.c (HG4.out.then_ HG6.out) hk7 (fun k e => by unfold Kone at e; omega)).1)
  have HKW7 := Lib.hid (show Kept (fun k => k = K ∨ k = M) w4 w7 from (HG6.out.2.mono (fun k _ e => Or.inl (show k = K from e))).trans hk7 (fun k _ e => Or.inr (show k = M from e)))
  clear hm7 hk7
  refine hK.out _ _ ?_ (fun hHeld => ?_)
  · exact HM7.out.cell 9
  clear hK K'
  refine wpAnyH_done (by kernel_rfl) ?_ _
  clear hHeld
  obtain ⟨frm, hfrm⟩ : ∃ z : Int, (mn : Int) - (bt : Int) = z := ⟨_, rfl⟩
  have HFRM := Lib.hid (show -1 ≤ frm ∧ frm ≤ (too : Int) by omega)
  rw [hfrm] at HM7
  have HY7 := Lib.hid (show Blk w7 Y 36 dltZ from (HY0.out.kept (HG4.out.2) (fun e => by unfold Kone at e; omega)).kept HKW7.out (fun e => by rcases e with e | e <;> omega))
  have HS7 := Lib.hid (show Blk w7 Z 82 #[.int .i64 ver, .slice A0 ts.length tcap] from (HS0.out.kept (HG4.out.2) (fun e => by unfold Kone at e; omega)).kept HKW7.out (fun e => by rcases e with e | e <;> omega))
  clear hfrm HWR HMIN HM4 HM5 HM6 HP4 HP5 HP6 HG5 HG6 HA4 HA5 hm2 hmn1 hbt
  obtain ⟨a7, ha7⟩ := HP7.out.c
  have HA7 := Lib.hid ha7
  clear ha7
  go_wp2_with fail
  refine (int_any K a7 4 v l w7 HA7.out (by decide) (by decide)).mono ?_
  rintro e w8 ⟨q0, hq0, rfl, hg8⟩
  have HM8 := Lib.hid (HM7.out.kept hg8.2 (fun e => by unfold Kone at e; omega))
  have HY8 := Lib.hid (HY7.out.kept hg8.2 (fun e => by unfold Kone at e; omega))
  have HS8 := Lib.hid (HS7.out.kept hg8.2 (fun e => by unfold Kone at e; omega))
  have HP8 := Lib.hid (HP7.out.goes hg8)
  have HG8 := Lib.hid (HG7.out.then_ hg8)
  have HKW8 := Lib.hid (show Kept (fun k => k = K ∨ k = M) w4 w8 from HKW7.out.trans hg8.2 (fun k _ e => Or.inl (show k = K from e)))
  have hM8 : M < w8.heap.size := HM8.out.lt
  clear hg8 HM7 HY7 HS7 HP7 HKW7 HA7
  go_upto_region 4 with (fail)
  go_loopw [8] (fun i wr => KpRel K v l M Y dev (rnd : Int) frm (too : Int) (dec : Int) w8.heap.size w0 w8 i wr) (fun i _ => (intOf i).toNat)
  case atStart => exact ⟨q0, [], none, 0, by omega, rfl, by simp; omega, trivial, by simp, World.ownsRow_nil _ _ _ _, HM8.out, HY8.out, HG8.out, Kept.refl _ _⟩
  case round =>
    obtain ⟨q, ks, A, c, hq, rfl, hkq, hinc, hlt4, hown, hbm, hby, hsp, hkr⟩ := hrel
    have HINC := Lib.hid hinc
    have HLT4 := Lib.hid hlt4
    have HOW := Lib.hid hown
    have HBM := Lib.hid hbm
    have HBY := Lib.hid hby
    have HSP := Lib.hid hsp
    have HKR := Lib.hid hkr
    have hq0' : (0 : Int) ≤ (q : Int) := by omega
    clear hinc hlt4 hown hbm hby hsp hkr
    by_cases hpos : 0 < q
    · have hposI : (0 : Int) < (q : Int) := by omega
      have hqI : (q : Int) ≤ 3 := by omega
      have m10 : wr.cell? ⟨M, 10, none⟩ = some (.slice A ks.length c) := HBM.out.cell 10
      have m1 : ks.length + 1 ≤ maxLen := by simp only [maxLen]; omega
      have hw8r : w8.heap.size ≤ wr.heap.size := HKR.out.size
      have hne : (Value.slice A ks.length c).ownBlock ≠ some M := own_blk_ne HOW.out HBM.out (by decide)
      have HNE := Lib.hid hne
      have hneY : (Value.slice A ks.length c).ownBlock ≠ some Y := own_blk_ne HOW.out HBY.out (by decide)
      have HNEY := Lib.hid hneY
      clear hne hneY
      go_wp2_with (at_builtin; go_must (refine wpList_append_rd _ rfl _ _ 24 rfl w8.heap.size 3 i2 _ 1 8 Tryz.underlying24 hi2 z20 z21 z22 rfl (by decide) (.slice A ks.length c) ks.length (ks.map iv) rfl (World.ownsRow.alloc HOW.out _) _ 1 [.int .i64 (4 - (q : Int))] rfl (Rd.one' _ _ _ rfl (by simp)) (by simp [Value.oneCell']) m1 (by omega) (by simp; omega) ?_); intro A9 c9 w9 hown9 hg9 hat9; have hb9 : Blk w9 M 36 (dltC ⟨dev, (rnd : Int), frm, (too : Int), [], (dec : Int), 0, 1, []⟩ (.slice A ks.length c) (.slice none 0 0)) := (HBM.out.alloc _).grown hg9 (fun e => HNE.out e.symm); have b9 : w9.cell? ⟨M, 10, none⟩ = some (.slice A ks.length c) := hb9.cell 10; have f9 := hb9.frozen 10)
      have hby9 : Blk w9 Y 36 dltZ := (HBY.out.alloc _).grown hg9 (fun e => HNEY.out e.symm)
      have hk9 : Kept (fun k => w8.heap.size ≤ k) wr w9 := ((Kept.refl _ _).alloc _).grown hg9 (fun k _ e => (own_base HOW.out e).1)
      have hks : Kept (Kone M) w9 (w9.setCell ⟨M, 10, none⟩ (.slice A9 (ks.length + 1) c9)) := (Kept.refl _ _).setIn (p := ⟨M, 10, none⟩) (by unfold Kone; rfl) _
      refine ⟨⟨q - 1, ks ++ [4 - (q : Int)], A9, c9, by omega, ?_, by simp; omega, Inc.snoc HINC.out HLT4.out (by omega), ?_, ?_, ?_, hby9.kept hks (fun e => by unfold Kone at e; omega), ?_, ?_⟩, ?_⟩
      · have : ((q - 1 : Nat) : Int) = (q : Int) - 1 := by omega
        rw [this]
      · intro y hy
        rcases List.mem_append.1 hy with hy | hy
        · have := HLT4.out y hy; omega
        · simp only [List.mem_singleton] at hy; omega
      · rw [List.length_append, List.map_append]
        exact own_out (X := M) hown9 hM8 hks
      · rw [List.length_append]
        exact hb9.set_ 10 _
      · exact Goes.thenN HP0.out.c (HSP.out) (R := fun k => w0.heap.size ≤ k) ((hk9.mono (fun k _ e => by show w0.heap.size ≤ k; have : w8.heap.size ≤ k := e; omega)).trans hks (fun k _ e => by unfold Kone at e; show w0.heap.size ≤ k; omega)) (fun k e => e)
      · exact (HKR.out.trans hk9 (fun k hk e => by omega)).trans hks (fun k _ e => Or.inr (show k = M from e))
      · simp only [intOf]; omega
    · have hposI : ¬ (0 : Int) < (q : Int) := by omega
      have hnI : (q : Int) ≤ 0 := by omega
      have HKL := Lib.hid (show ks.length ≤ 8 by omega)
      have HPR := Lib.hid (HP8.out.step HKR.out (fun k e => by
        rcases e with e | e
        · subst e; exact HP8.out.SK
        · subst e; exact more_self _ _) HSP.out.1)
      have HSR := Lib.hid (HS8.out.kept HKR.out (fun e => by rcases e with e | e <;> omega))
      have hw8r : w8.heap.size ≤ wr.heap.size := HKR.out.size
      have hw0r : w0.heap.size ≤ wr.heap.size := HSP.out.2.size
      have hSz : Z < wr.heap.size := HSR.out.lt
      go_upto_region 7 with (fail)
      go_wp2_with (first | (refine wpList_load_row rfl 82 (.tmp 4) rfl Z rfl 82 #[.int .i64 ver, .slice A0 ts.length tcap] (0, 0) _ HSR.out Tryz.underlying82 rfl (by kernel_rfl) ?_))
      refine (cstate_any (more S M) K v l _ ver ts B0 3 wr HPR.out hts).mono ?_
      rintro e wa ⟨T1, n1, cap1, ta, rfl, hT1, hst1, hta, hga⟩
      have HGA := Lib.hid hga
      have HST1 := Lib.hid hst1
      have HTA := Lib.hid hta
      have HPA := Lib.hid (HPR.out.goes hga)
      have HSA := Lib.hid (HSR.out.kept hga.2 (fun e => by unfold Kone at e; omega))
      clear hst1 hta hga
      go_upto_region 8 with (first
        | (refine wpList_store_new rfl 100 (.tmp 9) (.tmp 44) rfl _ #[.slice (some ⟨T1, 0, none⟩) n1 cap1] rfl rfl (by kernel_rfl) rfl (by simp [Value.oneCell']) ?_))
      simp only [Act.put]
      obtain ⟨wb, hwb⟩ : ∃ x, wa.alloc (.cells #[.slice (some ⟨T1, 0, none⟩) n1 cap1] 100) = x := ⟨_, rfl⟩
      have hkab : Kept Kno wa wb := by rw [← hwb]; exact (Kept.refl _ _).alloc _
      have HB9 := Lib.hid (show Blk wb wa.heap.size 100 #[.slice (some ⟨T1, 0, none⟩) n1 cap1] by rw [← hwb]; exact Blk.new _ _ _)
      have HPB := Lib.hid (HPA.out.step hkab (fun _ h => h.elim) (Goes.of0 HPA.out.c hkab).1)
      have HSB := Lib.hid (HSA.out.kept hkab (fun h => h))
      have HST2 := Lib.hid (HST1.out.kept hkab (fun _ h => h.elim) (fun h => h))
      have hT1K : T1 ≠ K := by omega
      obtain ⟨b9, hb9⟩ : ∃ n, wa.heap.size = n := ⟨_, rfl⟩
      rw [hb9] at HB9
      have hb9K : b9 ≠ K := by have := HPA.out.lt K HPA.out.SK; omega
      have hb9r : wr.heap.size ≤ b9 := by rw [← hb9]; exact HGA.out.2.size
      rw [hwb, hb9]
      have HGB := Lib.hid (HGA.out.then0 hkab)
      clear hwb hkab HST1 HSA HPA hb9
      go_wp2_with (first
        | (refine wpList_load_row rfl 82 (.tmp 4) rfl Z rfl 82 #[.int .i64 ver, .slice A0 ts.length tcap] (0, 0) _ HSB.out Tryz.underlying82 rfl (by kernel_rfl) ?_)
        | (refine wpList_load_row rfl 100 (.tmp 9) rfl b9 rfl 100 #[.slice (some ⟨T1, 0, none⟩) n1 cap1] (0, 0) _ HB9.out Tryz.underlying100 rfl (by kernel_rfl) ?_))
      refine (changes_any (more S M) K v l _ _ ver ts B0 wb.heap.size 16 6 ta 3 wb HPB.out hts HST2.out.read (Nat.le_refl _) HTA.out (by decide) (by decide)).mono ?_
      rintro e wc ⟨A3, m3, c3, T2, n2, cap2, tb, rfl, hT2, hst3, htb, hgc⟩
      have HGC := Lib.hid (HGB.out.then_ hgc)
      have HST3 := Lib.hid hst3
      have HTB := Lib.hid htb
      have HPC := Lib.hid (HPB.out.goes hgc)
      have HSC := Lib.hid (HSB.out.kept hgc.2 (fun e => by unfold Kone at e; omega))
      have HB9C := Lib.hid (HB9.out.kept hgc.2 (fun e => by unfold Kone at e; omega))
      have HST2C := Lib.hid (HST2.out.kept hgc.2 (fun k e => by unfold Kone at e; subst e; exact more_le HPB.out.SK) (fun e => by unfold Kone at e; omega))
      clear hst3 htb hgc HST2 HSB HB9 HPB HGB
      go_upto_region 9 with (first
        | (refine wpList_store_new rfl 100 (.tmp 11) (.tmp 51) rfl _ #[.slice (some ⟨T2, 0, none⟩) n2 cap2] rfl rfl (by kernel_rfl) rfl (by simp [Value.oneCell']) ?_))
      simp only [Act.put]
      obtain ⟨wd, hwd⟩ : ∃ x, wc.alloc (.cells #[.slice (some ⟨T2, 0, none⟩) n2 cap2] 100) = x := ⟨_, rfl⟩
      have hkcd : Kept Kno wc wd := by rw [← hwd]; exact (Kept.refl _ _).alloc _
      obtain ⟨b11, hb11⟩ : ∃ n, wc.heap.size = n := ⟨_, rfl⟩
      have HB11 := Lib.hid (show Blk wd b11 100 #[.slice (some ⟨T2, 0, none⟩) n2 cap2] by rw [← hwd, ← hb11]; exact Blk.new _ _ _)
      have HPD := Lib.hid (HPC.out.step hkcd (fun _ h => h.elim) (Goes.of0 HPC.out.c hkcd).1)
      have HSD := Lib.hid (HSC.out.kept hkcd (fun h => h))
      have HB9D := Lib.hid (HB9C.out.kept hkcd (fun h => h))
      have HSTA := Lib.hid (HST2C.out.kept hkcd (fun _ h => h.elim) (fun h => h))
      have HSTB := Lib.hid (HST3.out.kept hkcd (fun _ h => h.elim) (fun h => h))
      have HGD := Lib.hid (HGC.out.then0 hkcd)
      rw [hwd, hb11]
      clear hwd hkcd hb11 HPC HSC HB9C HST2C HST3 HGC
      go_wp2_with (first
        | (refine wpList_load_row rfl 82 (.tmp 4) rfl Z rfl 82 #[.int .i64 ver, .slice A0 ts.length tcap] (0, 0) _ HSD.out Tryz.underlying82 rfl (by kernel_rfl) ?_)
        | (refine wpList_load_row rfl 100 (.tmp 9) rfl b9 rfl 100 #[.slice (some ⟨T1, 0, none⟩) n1 cap1] (0, 0) _ HB9D.out Tryz.underlying100 rfl (by kernel_rfl) ?_)
        | (refine wpList_load_row rfl 100 (.tmp 11) rfl b11 rfl 100 #[.slice (some ⟨T2, 0, none⟩) n2 cap2] (0, 0) _ HB11.out Tryz.underlying100 rfl (by kernel_rfl) ?_))
      refine (of_any wd.heap.size _ _ _ ver ts ta tb 22 wd HPD.out.sch HSTA.out.read HSTB.out.read (Nat.le_refl _) hts (HTA.out.mono (by decide)) HTB.out (by decide)).mono ?_
      rintro e we ⟨A4, n4, c4, k4, rfl, hk4⟩
      have HK4 := Lib.hid hk4
      have HBMA := Lib.hid (show Blk we M 36 (dltC ⟨dev, (rnd : Int), frm, (too : Int), [], (dec : Int), 0, 1, []⟩ (.slice A ks.length c) (.slice none 0 0)) from (HBM.out.kept HGD.out.2 (fun e => by unfold Kone at e; omega)).kept hk4 (fun h => h))
      have HBYA := Lib.hid (show Blk we Y 36 dltZ from (HBY.out.kept HGD.out.2 (fun e => by unfold Kone at e; omega)).kept hk4 (fun h => h))
      have HOWA := Lib.hid (own_kept (own_kept HOW.out HGD.out.2 (fun k e h => by unfold Kone at h; have := (own_base HOW.out e).1; omega)) hk4 (fun _ _ h => h))
      have HGE := Lib.hid (HGD.out.then0 hk4)
      have e14 : we.cell? ⟨M, 14, none⟩ = some (.slice none 0 0) := HBMA.out.cell 14
      have f14 := HBMA.out.frozen 14
      clear hk4 HBM HBY HOW HGD HSD HB9D HB11 HSTA HSTB HPD
      go_upto_region 10 with (fail)
      have hsf : Kept (Kone M) we (we.setCell ⟨M, 14, none⟩ (.slice A4 n4 c4)) := (Kept.refl _ _).setIn (p := ⟨M, 14, none⟩) (by unfold Kone; rfl) _
      obtain ⟨wf, hwf⟩ : ∃ x, we.setCell ⟨M, 14, none⟩ (.slice A4 n4 c4) = x := ⟨_, rfl⟩
      have HBF := Lib.hid (show Blk wf M 36 (dltC ⟨dev, (rnd : Int), frm, (too : Int), ks, (dec : Int), 0, 1, []⟩ (.slice A ks.length c) (.slice A4 n4 c4)) by rw [← hwf]; exact HBMA.out.set_ 14 _)
      rw [hwf] at hsf ⊢
      have HYF := Lib.hid (HBYA.out.kept hsf (fun e => by unfold Kone at e; omega))
      have HOF := Lib.hid (own_out (X := M) HOWA.out hM8 hsf)
      have HGF := Lib.hid (show Goes K v l w0 wf from Goes.thenN HP0.out.c (HSP.out.then_ HGE.out) hsf (fun k e => by unfold Kone at e; omega))
      clear hwf hsf e14 f14 HBMA HBYA HOWA HGE HK4
      go_wp2_with (first
        | (refine wpList_load_row rfl 36 (.tmp 7) rfl M rfl 36 (dltC ⟨dev, (rnd : Int), frm, (too : Int), ks, (dec : Int), 0, 1, []⟩ (.slice A ks.length c) (.slice A4 n4 c4)) (0, 0) _ HBF.out Tryz.underlying36 rfl (size_dlt _ _ _) ?_)
        | (refine wpList_store_row rfl 36 (.tmp 6) (.tmp 60) rfl Y (dltC ⟨dev, (rnd : Int), frm, (too : Int), ks, (dec : Int), 0, 1, []⟩ (.slice A ks.length c) (.slice A4 n4 c4)) rfl rfl 36 dltZ HYF.out (size_dlt _ _ _) rfl (dlt_one _ _ _ rfl rfl) ?_))
      have hkz : Kept (Kone Y) wf (wf.setRow Y (dltC ⟨dev, (rnd : Int), frm, (too : Int), ks, (dec : Int), 0, 1, []⟩ (.slice A ks.length c) (.slice A4 n4 c4))) := (Kept.refl _ _).setRow (fun _ => by unfold Kone; rfl) _
      have hYw2 : w.heap.size ≤ Y := by have := HZ.out; omega
      refine bodyPost_ret (v := .agg (dltC ⟨dev, (rnd : Int), frm, (too : Int), ks, (dec : Int), 0, 1, []⟩ (.slice A ks.length c) (.slice A4 n4 c4))) ?_ rfl ⟨⟨dev, (rnd : Int), frm, (too : Int), ks, (dec : Int), 0, 1, []⟩, .slice A ks.length c, A4, n4, c4, rfl, ⟨⟨hd1, hd8⟩, ⟨by show (0 : Int) ≤ (rnd : Int); omega, by show (rnd : Int) ≤ 1073741824; omega⟩, ⟨by show (0 : Int) ≤ (too : Int); omega, by show (too : Int) ≤ 1073741824; omega⟩, HFRM.out, ⟨by show (0 : Int) ≤ (dec : Int); omega, by show (dec : Int) ≤ 1073741824; omega⟩, ⟨by show (1 : Int) ≤ 1; omega, by show (1 : Int) ≤ 512; omega⟩, ⟨by show (0 : Int) ≤ 0; omega, by show (0 : Int) ≤ 1 - 1; omega⟩, ⟨HINC.out, HKL.out⟩, by intro y hy; cases hy⟩, rfl, rfl, rfl, ?_, ?_⟩
      · exact results_cell_row rfl _ _ Y 36 _ (0, 0) _ rfl (HYF.out.setRow _) Tryz.underlying36 rfl (size_dlt _ _ _)
      · exact own_slin (own_out (X := Y) HOF.out (by omega) hkz) (fun k hk => by
          cases hs : S k with
          | false => rfl
          | true => have := H.out.lt k hs; have := HZ.out; omega)
      · exact Goes.thenN H.out.c ((Goes.of0 H.out.c HK0.out).then_ HGF.out) hkz (fun k e => by unfold Kone at e; omega)

end Go.Proofs.YtffdaohmalmkfaaGreat
