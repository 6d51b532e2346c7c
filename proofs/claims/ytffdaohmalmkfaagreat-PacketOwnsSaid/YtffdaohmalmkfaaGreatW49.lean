/-
  PacketOwns: made: a delta with n edits.
-/
import Derived.Test.YtffdaohmalmkfaaGreatW31
import Derived.Test.YtffdaohmalmkfaaGreatW48
set_option linter.unusedSimpArgs false
set_option linter.unusedVariables false
namespace Go.Proofs.YtffdaohmalmkfaaGreat
open Go.RowKit
set_option linter.unusedVariables false

theorem text_of {n : Int} {s : ByteArray} (h : validB 5 n s = true) : n = 0 ∧ s.size ≤ 64 := by simpa [validB] using h
theorem wpList_buildOne {P : Program} {ops : Array Oper} {rest : List Oper} {o : Oper} {a : Act} {w : World} {Q : Exit → Act → World → Prop} (hg : o.guard = none) (t e : TypeId) (x : Operand) (ho : o.op = .buildSlice t 1 #[(0, x)])
    (cs : Array Value) (ie : TypeInfo) (z : Value) (n : Nat) (hu : P.underlying t = some (.slice e)) (hie : P.info? e = some ie) (hz : ie.zero = some z) (hx : a.eval x = .agg cs) (hsz : ie.size = n) (hn : 0 < n) (hn2 : n ≤ 1000) (hc : cs.size = n)
    (h : wpList P ops Q rest (a.put o.dst (.slice (some ⟨w.heap.size, 0, none⟩) 1 1)) (w.alloc (.cells cs e))) : wpList P ops Q (o :: rest) a w :=
  wpList_plain hg fun _ hK => wp_buildOne t e x ho cs ie z n hu hie hz hx hsz hn hn2 hc (hK _ _ h)
/-- An edit of made. -/
def mkErase (tab : Nat) (i : Nat) : Ed := ⟨3, (tab : Int), [⟨4, (i : Int), ⟨#[]⟩⟩], [], []⟩
def mkSet (op : Int) (tab : Nat) (i : Nat) (s : ByteArray) : Ed := ⟨op, (tab : Int), [⟨4, (i : Int), ⟨#[]⟩⟩], [1], [⟨5, 0, s⟩]⟩
theorem mkErase_ok {tab i : Nat} (h : tab ≤ 2) (hi : i ≤ 1000) : EdOk (mkErase tab i) := ⟨Or.inl ⟨rfl, rfl, rfl⟩, by show (0 : Int) ≤ (tab : Int); omega, by show (tab : Int) ≤ 2; omega, (i : Int), rfl, by omega, by omega⟩
theorem mkSet_ok {op : Int} {tab i : Nat} {s : ByteArray} (ho : op = 1 ∨ op = 2) (h : tab ≤ 2) (hi : i ≤ 1000) (hs : s.size ≤ 64) : EdOk (mkSet op tab i s) := ⟨Or.inr ⟨ho, rfl, s, rfl, hs⟩, by show (0 : Int) ≤ (tab : Int); omega, by show (tab : Int) ≤ 2; omega, (i : Int), rfl, by omega, by omega⟩
def MadeOk (S : Nat → Bool) (K : Nat) (v : Value) (l : List UInt8) (n : Nat) (w : World) (e : Ending) (w' : World) : Prop :=
  ∃ (x : Dl) (kd : Value) (A : Option Addr) (c : Nat), e = .returned (.agg (dltC x kd (.slice A n c))) ∧ DlOk x ∧ x.part = 0 ∧ x.parts = 1 ∧ x.edits.length = n ∧ IIn (erase S w') w'.heap.size kd x.kept ∧ EdsIn (erase S w') w'.heap.size (.slice A n c) x.edits ∧ Goes K v l w w'
def MadeRel (S : Nat → Bool) (K : Nat) (v : Value) (l : List UInt8) (x : Dl) (kd : Value) (n M Y base : Nat) (w0 w : World) (i : Value) (wr : World) : Prop :=
  ∃ (k : Nat) (A : Option Addr) (c : Nat) (qs : List (Ed × List Value)), k ≤ n ∧ i = .int .i64 k ∧ qs.length = k ∧ (∀ q ∈ qs, EdOk q.1) ∧ LOut EdQ 73 5 S base wr A c qs ∧ Blk wr M 36 (dltC x kd (.slice A qs.length c)) ∧ Blk wr Y 36 dltZ ∧ Goes K v l w0 wr ∧ Kept (fun k => k = K ∨ k = M) w wr

set_option maxRecDepth 100000 in
set_option maxHeartbeats 2000000 in
theorem made_any (S : Nat → Bool) (K : Nat) (v : Value) (l : List UInt8) (n : Nat) (w : World) (hc : ∃ a, CaseIs w K v l a) (hSK : S K = true) (hS : ∀ k, S k = true → k < w.heap.size) (hn : n ≤ 500) :
    Calls Tryz.prog 19 #[.pointer (some ⟨K, 0, none⟩), .int .i64 n] w (MadeOk S K v l n w) := by
  obtain ⟨i0, hi0, z00, z01, z02⟩ := info_parts info_edit
  have HC := Lib.hid hc
  have HSL := Lib.hid hS
  have hKw : K < w.heap.size := hS K hSK
  have HSK := Lib.hid hSK
  clear hc hS hSK
  go_enter Tryz.func19, Tryz.ntmps19
  go_upto_region 1 with (fail)
  obtain ⟨w0, h0⟩ : ∃ w0, w.alloc (.cells dltZ 36) = w0 := ⟨_, rfl⟩
  have hk0 : Kept Kno w w0 := by rw [← h0]; exact (Kept.refl _ _).alloc _
  obtain ⟨Y, hY⟩ : ∃ n, w.heap.size = n := ⟨_, rfl⟩
  have HY0 := Lib.hid (show Blk w0 Y 36 dltZ by rw [← h0, ← hY]; exact Blk.new _ _ _)
  have hz0 : w0.heap.size = w.heap.size + 1 := by rw [← h0]; simp
  have HGY := Lib.hid (Goes.of0 HC.out hk0)
  have h0' := h0
  unfold dltZ at h0'
  rw [h0', hY]
  have hwY : w.heap.size ≤ Y := by omega
  have hY0 : Y < w0.heap.size := by omega
  clear h0 h0' hk0 hY
  obtain ⟨SY, hSY⟩ : ∃ s, more S Y = s := ⟨_, rfl⟩
  have HSYK : Hid (SY K = true) := Lib.hid (by rw [← hSY]; exact more_le HSK.out)
  have HSYY : Hid (SY Y = true) := Lib.hid (by rw [← hSY]; exact more_self _ _)
  have HSYS : Hid (∀ k, S k = true → SY k = true) := Lib.hid (fun k hk => by rw [← hSY]; exact more_le hk)
  have HSYL : Hid (∀ k, SY k = true → k < w0.heap.size) := Lib.hid (fun k hk => by
    rw [← hSY] at hk
    cases hs : S k with
    | true => have := HSL.out k hs; omega
    | false =>
      have : k = Y := by simpa [more, hs] using hk
      omega)
  clear hSY
  go_wp2_with fail
  refine (schema_any SY K v l w0 HGY.out.1 HSYK.out HSYL.out).mono ?_
  rintro e w1 ⟨sv, ver, ts, rfl, hsch, hts2, hg1⟩
  have HG1 := Lib.hid (HGY.out.then_ hg1)
  have HP1 := Lib.hid (show ScPre SY K v l sv ver ts w1.heap.size w1 from ⟨hg1.1, hsch, Nat.le_refl _, HSYK.out, fun k hk => Nat.lt_of_lt_of_le (HSYL.out k hk) hg1.2.size⟩)
  have HY1 := Lib.hid (HY0.out.kept hg1.2 (fun e => by unfold Kone at e; omega))
  clear hsch hg1
  go_wp2_with fail
  refine (HP1.out.int 8 (by decide) (by decide)).mono ?_
  rintro e w2 ⟨d8, hd8, rfl, hg2⟩
  have HG2 := Lib.hid (HG1.out.then_ hg2)
  have HP2 := Lib.hid (HP1.out.goes hg2)
  have HY2 := Lib.hid (HY1.out.kept hg2.2 (fun e => by unfold Kone at e; omega))
  have hd8I : (d8 : Int) ≤ 7 := by omega
  have hd0I : (0 : Int) ≤ (d8 : Int) := by omega
  clear hg2 HP1
  go_wp2_with fail
  refine (delta_any SY K v l sv ver ts _ (1 + (d8 : Int)) w2 HP2.out (by omega) (by omega) (by omega)).mono ?_
  rintro e w3 ⟨x, kd, A3, n3, c3, rfl, hok, hed, hpt, hpts, hkd, hg3⟩
  obtain ⟨kA, kc, rfl⟩ := IIn.form hkd
  have HOK := Lib.hid hok
  have HED := Lib.hid hed
  have HPT := Lib.hid hpt
  have HPTS := Lib.hid hpts
  have HG3 := Lib.hid (HG2.out.then_ hg3)
  have HY3 := Lib.hid (HY2.out.kept hg3.2 (fun e => by unfold Kone at e; omega))
  have HKD3 := Lib.hid hkd
  clear hok hed hpt hpts hkd hg3 HP2 HG1 HG2 HY1 HY2
  go_upto_region 2 with (first
    | (refine wpList_store_new rfl 36 (.tmp 5) (.tmp 14) rfl _ (dltC x (.slice kA x.kept.length kc) (.slice A3 n3 c3)) rfl rfl (size_dlt _ _ _) rfl (dlt_one _ _ _ rfl rfl) ?_))
  try simp only [Act.put]
  obtain ⟨M, hM⟩ : ∃ n, w3.heap.size = n := ⟨_, rfl⟩
  have hYM : Y < M := by have := HY3.out.lt; omega
  obtain ⟨w4, hw4⟩ : ∃ y, w3.alloc (.cells (dltC x (.slice kA x.kept.length kc) (.slice A3 n3 c3)) 36) = y := ⟨_, rfl⟩
  have hk34 : Kept Kno w3 w4 := by rw [← hw4]; exact (Kept.refl _ _).alloc _
  have hb4 : Blk w4 M 36 (dltC x (.slice kA x.kept.length kc) (.slice A3 n3 c3)) := by rw [← hw4, ← hM]; exact Blk.new _ _ _
  have e14 : w4.cell? ⟨M, 14, none⟩ = some (.slice A3 n3 c3) := hb4.cell 14
  have f14 := hb4.frozen 14
  have HB4 := Lib.hid hb4
  have HK34 := Lib.hid hk34
  have hM4 : M < w4.heap.size := hb4.lt
  have hM3 : w3.heap.size ≤ M := by omega
  rw [hw4, hM]
  clear hw4 hk34 hb4 hM
  go_upto_region 3 with (fail)
  obtain ⟨w5, hw5⟩ : ∃ y, w4.setCell ⟨M, 14, none⟩ (.slice none 0 0) = y := ⟨_, rfl⟩
  have hk45 : Kept (Kone M) w4 w5 := by rw [← hw5]; exact (Kept.refl _ _).setIn (p := ⟨M, 14, none⟩) (by unfold Kone; rfl) _
  have HB5 := Lib.hid (show Blk w5 M 36 (dltC x (.slice kA x.kept.length kc) (.slice none 0 0)) by rw [← hw5]; exact HB4.out.set_ 14 _)
  have hMw : w.heap.size ≤ M := by omega
  have HG5 := Lib.hid (show Goes K v l w w5 from Goes.thenN HC.out (HG3.out.then0 HK34.out) hk45 (fun k e => by unfold Kone at e; omega))
  have HY5 := Lib.hid ((HY3.out.kept HK34.out (fun h => h)).kept hk45 (fun e => by unfold Kone at e; omega))
  have hs45 : w4.heap.size ≤ w5.heap.size := hk45.size
  have hM5 : M < w5.heap.size := by omega
  have HKD5 : Hid (IIn (erase (more SY M) w5) w5.heap.size (.slice kA x.kept.length kc) x.kept) := Lib.hid (IIn.keep2 (S := more SY M) (S' := more SY M) (IIn.keep2 (S := SY) (S' := more SY M) HKD3.out HK34.out (fun _ h => h.elim) (fun k hk => more_old (by omega))) hk45 (fun k e => by unfold Kone at e; subst e; exact more_self _ _) (fun _ _ => rfl))
  have HS1L : Hid (∀ k, more SY M k = true → k < w5.heap.size) := Lib.hid (fun k hk => by
    cases hs : SY k with
    | true => have := HSYL.out k hs; omega
    | false =>
      have : k = M := by simpa [more, hs] using hk
      omega)
  rw [hw5]
  clear hw5 hk45 e14 f14 HB4 HK34 HY3 HKD3 HG3 hd8 hd8I hd0I hts2 HGY HY0
  go_upto_region 4 with (fail)
  go_loopw [6] (fun i wr => MadeRel (more SY M) K v l x (.slice kA x.kept.length kc) n M Y w5.heap.size w w5 i wr) (fun i _ => n - (intOf i).toNat)
  case atStart => exact ⟨0, none, 0, [], Nat.zero_le _, rfl, rfl, by simp, LOut.nil, HB5.out, HY5.out, HG5.out, Kept.refl _ _⟩
  case round =>
    obtain ⟨k, A, c, qs, hk, rfl, hql, hqo, hlo, hbm, hby, hgr, hkr⟩ := hrel
    have HQL := Lib.hid hql
    have HQO := Lib.hid hqo
    have HLO := Lib.hid hlo
    have HBM := Lib.hid hbm
    have HBY := Lib.hid hby
    have HGR := Lib.hid hgr
    have HKR := Lib.hid hkr
    have hk0 : (0 : Int) ≤ (k : Int) := by omega
    have hw5r : w5.heap.size ≤ wr.heap.size := hkr.size
    obtain ⟨ar, har⟩ := hgr.1
    have HAR := Lib.hid har
    clear hql hqo hlo hbm hby hgr hkr har
    by_cases hlt : k < n
    · have hltI : (k : Int) < (n : Int) := by omega
      have hk1000 : (k : Int) ≤ 500 := by omega
      go_wp2_with fail
      refine (int_any K ar 3 v l wr HAR.out (by decide) (by decide)).mono ?_
      rintro e w6 ⟨tab, htab, rfl, hg6⟩
      have HG6 := Lib.hid hg6
      have htab2 : tab ≤ 2 := by omega
      have hw6r : wr.heap.size ≤ w6.heap.size := hg6.2.size
      clear hg6
      go_upto_region 7 with (first
        | (refine wpList_store_new rfl 73 (.tmp 7) (.tmp 26) rfl _ #[.int .i64 3, .int .i64 (tab : Int), .slice (some ⟨w6.heap.size, 0, none⟩) 1 1, .slice none 0 0, .slice none 0 0] rfl rfl (by kernel_rfl) rfl (by simp [Value.oneCell']) ?_))
      try simp only [Act.put]
      obtain ⟨w7, hw7⟩ : ∃ y, (w6.alloc (.cells #[.int .i64 4, .int .i64 (k : Int), .string ⟨#[]⟩] 49)).alloc (.cells #[.int .i64 3, .int .i64 (tab : Int), .slice (some ⟨w6.heap.size, 0, none⟩) 1 1, .slice none 0 0, .slice none 0 0] 73) = y := ⟨_, rfl⟩
      have hk67 : Kept Kno w6 w7 := by rw [← hw7]; exact ((Kept.refl _ _).alloc _).alloc _
      have hr7 : Blk w7 w6.heap.size 49 #[.int .i64 4, .int .i64 (k : Int), .string ⟨#[]⟩] := by rw [← hw7]; exact (Blk.new _ _ _).alloc _
      have hx7 : Blk w7 (w6.heap.size + 1) 73 #[.int .i64 3, .int .i64 (tab : Int), .slice (some ⟨w6.heap.size, 0, none⟩) 1 1, .slice none 0 0, .slice none 0 0] := by rw [← hw7]; have := Blk.new (w6.alloc (.cells #[.int .i64 4, .int .i64 (k : Int), .string ⟨#[]⟩] 49)) 73 #[.int .i64 3, .int .i64 (tab : Int), .slice (some ⟨w6.heap.size, 0, none⟩) 1 1, .slice none 0 0, .slice none 0 0]; simpa using this
      obtain ⟨R1, hR1⟩ : ∃ n, w6.heap.size = n := ⟨_, rfl⟩
      obtain ⟨X, hX⟩ : ∃ n, R1 + 1 = n := ⟨_, rfl⟩
      rw [hw7]
      rw [hR1] at hr7 hx7 ⊢
      rw [hX] at hx7 ⊢
      have HR7 := Lib.hid hr7
      have HX7 := Lib.hid hx7
      have HG7 := Lib.hid (HG6.out.then0 hk67)
      have hR1r : wr.heap.size ≤ R1 := by omega
      have hRX : R1 < X := by omega
      have hX7 : X < w7.heap.size := hx7.lt
      have HOF : Hid (∀ g, wr.heap.size ≤ g → orow (more SY M) (.slice A qs.length c) g = false) := Lib.hid (fun g hg => by
        cases hx : orow (more SY M) (.slice A qs.length c) g with
        | false => rfl
        | true => have := HLO.out.orow_lt (fun k hk => Nat.lt_of_lt_of_le (HS1L.out k hk) hw5r) g hx; omega)
      have hKr : K < wr.heap.size := by omega
      clear hw7 hk67 hr7 hx7 hR1 hX HG6
      go_upto_if 29 with (fail)
      go_cut [] (fun wx => ∃ (y : Ed) (cs : List Value), EdOk y ∧ cs.length = 5 ∧ (∀ u ∈ cs, u.oneCell' = true) ∧ Blk wx X 73 cs.toArray ∧ EdQ (erase (orow (more SY M) (.slice A qs.length c)) wx) wx.heap.size y cs ∧ Goes K v l wr wx)
      case first =>
        have HKEY : Hid (∀ wx : World, Kept (fun k => wr.heap.size ≤ k ∧ k ≠ R1 ∨ k = K) w7 wx → RIn (erase (orow (more SY M) (.slice A qs.length c)) wx) wx.heap.size (.slice (some ⟨R1, 0, none⟩) 1 1) [⟨4, (k : Int), ⟨#[]⟩⟩]) := Lib.hid (fun wx hk => blk_slin (m := 1) (cs := vCells ⟨4, (k : Int), ⟨#[]⟩⟩) (HR7.out.kept hk (fun e => by rcases e with e | e; exact e.2 rfl; omega)) (HOF.out R1 hR1r) rfl (by decide))
        by_cases h3 : k % 3 = 0
        · have hmI : ¬ (0 : Int) < (k : Int) % 3 := by omega
          have HREL := Lib.hid (show ∃ (y : Ed) (cs : List Value), EdOk y ∧ cs.length = 5 ∧ (∀ u ∈ cs, u.oneCell' = true) ∧ Blk w7 X 73 cs.toArray ∧ EdQ (erase (orow (more SY M) (.slice A qs.length c)) w7) w7.heap.size y cs ∧ Goes K v l wr w7 from ⟨mkErase tab k, [.int .i64 3, .int .i64 (tab : Int), .slice (some ⟨R1, 0, none⟩) 1 1, .slice none 0 0, .slice none 0 0], mkErase_ok htab2 (by omega), rfl, by simp [Value.oneCell'], HX7.out, ⟨_, _, _, rfl, HKEY.out w7 (Kept.refl _ _), SlIn.nil, SlIn.nil⟩, HG7.out⟩)
          clear h3
          go_wp2_with fail
          go_meet
          exact HREL.out
        · have hmI : (0 : Int) < (k : Int) % 3 := by omega
          have hop : 1 + (k : Int) % 2 = 1 ∨ 1 + (k : Int) % 2 = 2 := by omega
          have HOP := Lib.hid hop
          obtain ⟨a7, ha7⟩ := HG7.out.1
          have HA8 := Lib.hid (ha7.kept0 ((Kept.refl Kno w7).alloc (.cells #[.int .i64 1] 3)))
          obtain ⟨w8, hw8⟩ : ∃ y, w7.alloc (.cells #[.int .i64 1] 3) = y := ⟨_, rfl⟩
          have hk78 : Kept Kno w7 w8 := by rw [← hw8]; exact (Kept.refl _ _).alloc _
          obtain ⟨R3, hR3⟩ : ∃ n, w7.heap.size = n := ⟨_, rfl⟩
          have hb8 : Blk w8 R3 3 #[.int .i64 1] := by rw [← hw8, ← hR3]; exact Blk.new _ _ _
          have HK78 := Lib.hid hk78
          have HB8 := Lib.hid hb8
          have HW8 := Lib.hid hw8
          have HR3 := Lib.hid hR3
          have hR3X : X < R3 := by omega
          rw [hw8] at HA8
          clear hop ha7 hw8 hk78 hb8 hR3 h3
          go_wp2_with fail
          rw [HW8.out, HR3.out]
          refine (valueK_any K a7 5 v l w8 HA8.out (by decide) (by decide)).mono ?_
          rintro e w9 ⟨xv, hxv, hxk, rfl, hg9⟩
          obtain ⟨xk, xn, xs⟩ := xv
          simp only at hxk
          subst hxk
          obtain ⟨rfl, hxs⟩ := text_of hxv.1
          have hg79 : Kept (Kone K) w7 w9 := HK78.out.trans1 hg9.2
          have HX9 := Lib.hid (HX7.out.kept hg79 (fun e => by unfold Kone at e; omega))
          have HB9 := Lib.hid (HB8.out.kept hg9.2 (fun e => by unfold Kone at e; omega))
          have HG9 := Lib.hid ((HG7.out.then0 HK78.out).then_ hg9)
          have HK79 := Lib.hid hg79
          have HXS := Lib.hid hxs
          have x0 : w9.cell? ⟨X, 0, none⟩ = some (.int .i64 3) := HX9.out.cell 0
          have x3 : w9.cell? ⟨X, 3, none⟩ = some (.slice none 0 0) := HX9.out.cell 3
          have x4 : w9.cell? ⟨X, 4, none⟩ = some (.slice none 0 0) := HX9.out.cell 4
          have fx0 := HX9.out.frozen 0
          have fx3 := HX9.out.frozen 3
          have fx4 := HX9.out.frozen 4
          have hX9 : X < w9.heap.size := HX9.out.lt
          have hR9 : R3 < w9.heap.size := HB9.out.lt
          simp only [Val.v]
          clear hxv hg9 hg79 hxs HW8 HR3
          go_wp2_with fail
          have hkf : Kept (Kone X) w9 (((w9.setCell ⟨X, 0, none⟩ (.int .i64 (1 + (k : Int) % 2))).setCell ⟨X, 3, none⟩ (.slice (some ⟨R3, 0, none⟩) 1 1)).setCell ⟨X, 4, none⟩ (.slice (some ⟨w9.heap.size, 0, none⟩) 1 1)) := (((Kept.refl _ _).setIn (p := ⟨X, 0, none⟩) (by unfold Kone; rfl) _).setIn (p := ⟨X, 3, none⟩) (by unfold Kone; rfl) _).setIn (p := ⟨X, 4, none⟩) (by unfold Kone; rfl) _
          have hbx := ((HX9.out.set_ 0 (.int .i64 (1 + (k : Int) % 2))).set_ 3 (.slice (some ⟨R3, 0, none⟩) 1 1)).set_ 4 (.slice (some ⟨w9.heap.size, 0, none⟩) 1 1)
          have hb3 := HB9.out.kept hkf (fun e => by unfold Kone at e; omega)
          have hzs : (((w9.setCell ⟨X, 0, none⟩ (.int .i64 (1 + (k : Int) % 2))).setCell ⟨X, 3, none⟩ (.slice (some ⟨R3, 0, none⟩) 1 1)).setCell ⟨X, 4, none⟩ (.slice (some ⟨w9.heap.size, 0, none⟩) 1 1)).heap.size = w9.heap.size := by simp [World.setCell]
          generalize (((w9.setCell ⟨X, 0, none⟩ (.int .i64 (1 + (k : Int) % 2))).setCell ⟨X, 3, none⟩ (.slice (some ⟨R3, 0, none⟩) 1 1)).setCell ⟨X, 4, none⟩ (.slice (some ⟨w9.heap.size, 0, none⟩) 1 1)) = wy at hkf hbx hb3 hzs ⊢
          have hb5 := Blk.new wy 49 #[.int .i64 5, .int .i64 0, .string xs]
          rw [hzs] at hb5
          have hk9z : Kept (Kone X) w9 (wy.alloc (.cells #[.int .i64 5, .int .i64 0, .string xs] 49)) := hkf.alloc _
          have hbx := hbx.alloc (.cells #[.int .i64 5, .int .i64 0, .string xs] 49)
          have hb3 := hb3.alloc (.cells #[.int .i64 5, .int .i64 0, .string xs] 49)
          generalize wy.alloc (.cells #[.int .i64 5, .int .i64 0, .string xs] 49) = wz at hk9z hbx hb3 hb5 ⊢
          have hkz : Kept (fun k => wr.heap.size ≤ k ∧ k ≠ R1 ∨ k = K) w7 wz := (HK79.out.mono (fun k _ e => Or.inr (show k = K from e))).trans hk9z (fun k _ e => Or.inl (by unfold Kone at e; omega))
          go_meet
          refine ⟨mkSet (1 + (k : Int) % 2) tab k xs, [.int .i64 (1 + (k : Int) % 2), .int .i64 (tab : Int), .slice (some ⟨R1, 0, none⟩) 1 1, .slice (some ⟨R3, 0, none⟩) 1 1, .slice (some ⟨w9.heap.size, 0, none⟩) 1 1], mkSet_ok HOP.out htab2 (by omega) HXS.out, rfl, by simp [Value.oneCell'], by simpa using hbx, ⟨_, _, _, rfl, HKEY.out wz hkz, ?_, ?_⟩, Goes.thenN (R := fun k => wr.heap.size ≤ k) ⟨ar, HAR.out⟩ HG9.out (hk9z.mono (fun k _ e => by unfold Kone at e; show wr.heap.size ≤ k; omega)) (fun k e => e)⟩
          · exact blk_slin (m := 1) (cs := [iv 1]) hb3 (HOF.out R3 (by omega)) rfl (by decide)
          · exact blk_slin (m := 1) (cs := vCells ⟨5, 0, xs⟩) hb5 (HOF.out w9.heap.size (by omega)) rfl (by decide)
      case rest =>
      obtain ⟨y, cs, hyo, hcl, hc1, hbx, hyq, hgx⟩ := hcut
      obtain ⟨wd, rfl⟩ : ∃ z, z = wc := ⟨wc, rfl⟩
      have HYO := Lib.hid hyo
      have HC1 := Lib.hid hc1
      have HBX := Lib.hid hbx
      have HYQ := Lib.hid hyq
      have HGX := Lib.hid hgx
      have HCL := Lib.hid hcl
      have hRk : ∀ k, Kone K k → more SY M k = true := fun k e => by unfold Kone at e; subst e; exact more_le HSYK.out
      have HLOD := Lib.hid (HLO.out.keep clo_ed hgx.2 hRk (fun k e => by unfold Kone at e; omega))
      have HBMD := Lib.hid (HBM.out.kept hgx.2 (fun e => by unfold Kone at e; omega))
      have HBYD := Lib.hid (HBY.out.kept hgx.2 (fun e => by unfold Kone at e; omega))
      have d14 : wd.cell? ⟨M, 14, none⟩ = some (.slice A qs.length c) := HBMD.out.cell 14
      have m1 : qs.length + 1 ≤ maxLen := by simp only [maxLen]; have := HQL.out; omega
      have HQB := Lib.hid (show qs.length ≤ 500 by have := HQL.out; omega)
      have hwrd : wr.heap.size ≤ wd.heap.size := hgx.2.size
      have HNE := Lib.hid (show (Value.slice A qs.length c).ownBlock ≠ some M from fun e => by have := HLOD.out.ge e; omega)
      have HNEY := Lib.hid (show (Value.slice A qs.length c).ownBlock ≠ some Y from fun e => by have := HLOD.out.ge e; omega)
      clear hyo hcl hc1 hbx hyq hgx hRk HLO HBM HBY HX7 HR7 HG7 HOF
      go_wp2_with (first
        | (refine wpList_load_row rfl 73 (.tmp 7) rfl X rfl 73 cs.toArray (0, 0) _ HBX.out Tryz.underlying73 rfl (by rw [List.size_toArray, HCL.out]; kernel_rfl) ?_)
        | (refine wpList_buildOne rfl 25 73 (.tmp 42) rfl cs.toArray i0 _ 5 Tryz.underlying25 hi0 z00 rfl z01 (by decide) (by decide) (by rw [List.size_toArray, HCL.out]) ?_)
        | (at_builtin; go_must (refine wpList_append_rd _ rfl _ _ 25 rfl w5.heap.size 73 i0 _ 5 88 Tryz.underlying25 hi0 z00 z01 z02 rfl (by decide) (.slice A qs.length c) qs.length (qs.map (·.2)).flatten rfl (World.ownsRow.alloc HLOD.out.own.1 _) _ 1 cs rfl (blk_rd (Blk.new _ _ _) HCL.out) HC1.out m1 (by have := HQB.out; omega) (by simp; omega) ?_); intro A9 c9 w9 hown9 hg9 hat9; have hb9 : Blk w9 M 36 (dltC x (.slice kA x.kept.length kc) (.slice A qs.length c)) := (HBMD.out.alloc _).grown hg9 (fun e => HNE.out e.symm); have b9 : w9.cell? ⟨M, 14, none⟩ = some (.slice A qs.length c) := hb9.cell 14; have f9 := hb9.frozen 14))
      have hl9 := LOut.push clo_ed HLOD.out HYQ.out HCL.out hg9 hown9 hat9
      have hks : Kept (Kone M) w9 (w9.setCell ⟨M, 14, none⟩ (.slice A9 (qs.length + 1) c9)) := (Kept.refl _ _).setIn (p := ⟨M, 14, none⟩) (by unfold Kone; rfl) _
      have hkd9 : Kept (fun k => w5.heap.size ≤ k) wd w9 := ((Kept.refl _ _).alloc _).grown hg9 (fun k _ e => HLOD.out.ge e)
      have hby9 : Blk w9 Y 36 dltZ := (HBYD.out.alloc _).grown hg9 (fun e => HNEY.out e.symm)
      refine ⟨⟨k + 1, A9, c9, qs ++ [(y, cs)], hlt, by go_num, by rw [List.length_append, HQL.out]; rfl, ?_, hl9.keep clo_ed hks (fun k e => by unfold Kone at e; subst e; exact more_self _ _) (fun k e => by unfold Kone at e; omega), ?_, hby9.kept hks (fun e => by unfold Kone at e; omega), ?_, ?_⟩, ?_⟩
      · intro q hq
        rcases List.mem_append.1 hq with hq | hq
        · exact HQO.out q hq
        · simp only [List.mem_singleton] at hq; subst hq; exact HYO.out
      · rw [List.length_append]
        exact hb9.set_ 14 _
      · exact Goes.thenN HC.out (HGR.out.then_ HGX.out) (R := fun k => w.heap.size ≤ k) ((hkd9.mono (fun k _ e => by show w.heap.size ≤ k; have : w5.heap.size ≤ k := e; omega)).trans hks (fun k _ e => by unfold Kone at e; show w.heap.size ≤ k; omega)) (fun k e => e)
      · exact ((HKR.out.trans HGX.out.2 (fun k _ e => Or.inl (show k = K from e))).trans hkd9 (fun k hk e => by have : w5.heap.size ≤ k := e; omega)).trans hks (fun k _ e => Or.inr (show k = M from e))
      · simp [intOf]
        omega
    · have hltI : ¬ (k : Int) < (n : Int) := by omega
      have hkn : k = n := by omega
      have HQN := Lib.hid (show qs.length = n by rw [HQL.out, hkn])
      have HKDR := Lib.hid (IIn.keep2 (S := more SY M) (S' := more SY M) HKD5.out HKR.out (fun k e => by
        rcases e with e | e
        · subst e; exact more_le HSYK.out
        · subst e; exact more_self _ _) (fun _ _ => rfl))
      have hly := HLO.out.ly clo_ed HS1L.out
      have HLY := Lib.hid hly
      clear hkn hly
      go_wp2_with (first
        | (refine wpList_load_row rfl 36 (.tmp 5) rfl M rfl 36 (dltC x (.slice kA x.kept.length kc) (.slice A qs.length c)) (0, 0) _ HBM.out Tryz.underlying36 rfl (size_dlt _ _ _) ?_)
        | (refine wpList_store_row rfl 36 (.tmp 4) (.tmp 46) rfl Y (dltC x (.slice kA x.kept.length kc) (.slice A qs.length c)) rfl rfl 36 dltZ HBY.out (size_dlt _ _ _) rfl (dlt_one _ _ _ rfl rfl) ?_))
      have hkz : Kept (Kone Y) wr (wr.setRow Y (dltC x (.slice kA x.kept.length kc) (.slice A qs.length c))) := (Kept.refl _ _).setRow (fun _ => by unfold Kone; rfl) _
      have hRY : ∀ k, Kone Y k → more SY M k = true := fun k e => by unfold Kone at e; subst e; exact more_le HSYY.out
      obtain ⟨dev, rnd, frm, too, kept, dec, prt, pts, eds⟩ := x
      have hYwr : Y < wr.heap.size := HBY.out.lt
      refine bodyPost_ret (v := .agg (dltC ⟨dev, rnd, frm, too, kept, dec, prt, pts, qs.map (·.1)⟩ (.slice kA kept.length kc) (.slice A qs.length c))) ?_ rfl ⟨⟨dev, rnd, frm, too, kept, dec, prt, pts, qs.map (·.1)⟩, .slice kA kept.length kc, A, c, by rw [HQN.out], ⟨HOK.out.dev, HOK.out.round, HOK.out.to_, HOK.out.from_, HOK.out.dec, HOK.out.parts, HOK.out.part, HOK.out.kept, fun y hy => ?_⟩, HPT.out, HPTS.out, by show (qs.map (·.1)).length = n; rw [List.length_map, HQN.out], ?_, ?_, ?_⟩
      · exact results_cell_row rfl _ _ Y 36 _ (0, 0) _ rfl (HBY.out.setRow _) Tryz.underlying36 rfl (size_dlt _ _ _)
      · obtain ⟨q, hq, rfl⟩ := List.mem_map.1 hy
        exact HQO.out q hq
      · exact IIn.sub0 (sub_le (fun k hk => more_le (HSYS.out k hk)) _) (IIn.keep2 (S' := more SY M) HKDR.out hkz hRY (fun _ _ => rfl))
      · refine EdsIn.sub0 (sub_le (fun k hk => more_le (HSYS.out k hk)) _) (EdsIn.keep2 (S := more SY M) (S' := more SY M) ?_ hkz hRY (fun _ _ => rfl))
        have h1 := HLY.out
        unfold EdsIn
        rw [List.length_map]
        rw [← HQN.out]
        exact h1
      · exact Goes.thenN HC.out HGR.out hkz (fun k e => by unfold Kone at e; omega)

end Go.Proofs.YtffdaohmalmkfaaGreat
