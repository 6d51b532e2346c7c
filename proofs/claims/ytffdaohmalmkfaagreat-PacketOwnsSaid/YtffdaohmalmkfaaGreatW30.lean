/-
  PacketOwns: the case's Changes. (Printed by gen_pakph.py.)
-/
import Derived.Test.YtffdaohmalmkfaaGreatW29
set_option linter.unusedSimpArgs false
set_option linter.unusedVariables false
namespace Go.Proofs.YtffdaohmalmkfaaGreat
open Go.RowKit
set_option linter.unusedVariables false

theorem results_tmp_row {P : Program} {fn : Func} {q p : Tmp} {ty : TypeId} (h : fn.results = #[.tmp q, .cell p ty]) (tmps : Array Value) (w : World) (g : Nat) (t : TypeId) (cs : Array Value) (fr : Nat × Nat) (d : TypeDesc) {x : Value}
    (hq : tmps.getD q undef = x) (hp : tmps.getD p undef = .pointer (some ⟨g, 0, none⟩)) (hg : w.heap[g]? = some (.cells cs t fr))
    (hu : P.underlying ty = some d) (hd : (match d with | .struct _ | .array _ _ => true | _ => false) = true) (hi : (P.info? ty).map (·.size) = some cs.size) :
    (results fn tmps).run P w = .ok (.tuple #[x, .agg cs]) w := by
  have hp' : tmps[p]?.getD undef = .pointer (some ⟨g, 0, none⟩) := by simpa using hp
  have hq' : tmps[q]?.getD undef = x := by simpa using hq
  simp [results, h, hp', hq', asAddr, run_loadVar_row w g t ty cs fr d hg hu hd hi]
theorem own_some {w : World} {base sz n cap : Nat} {t : TypeId} {A : Option Addr} {cs : List Value} (h : w.ownsRow base t sz (.slice A n cap) n cs) (hn : 0 < n) : ∃ g, A = some ⟨g, 0, none⟩ ∧ base ≤ g := by
  rcases h.2 with ⟨he, h0⟩ | ⟨g, cap', cur, he, hbg, -⟩
  · omega
  · simp only [Value.slice.injEq] at he
    exact ⟨g, he.1, hbg⟩
theorem info_chg : (Tryz.prog.info? 223).map (fun i => (i.zero, i.size, i.bytes)) = some (some (.agg #[.int .i64 0, .slice none 0 0, .slice none 0 0]), 3, 56) := by kernel_rfl
/-- What the case's Changes returns. -/
def ChangesOk (S : Nat → Bool) (K : Nat) (v : Value) (l : List UInt8) (ts : List Tbl) (L : Nat) (w : World) (e : Ending) (w' : World) : Prop :=
  ∃ (A : Option Addr) (m c T n cap : Nat) (tabs : List (List (List Val))), e = .returned (.tuple #[.slice A m c, .agg #[.slice (some ⟨T, 0, none⟩) n cap]]) ∧ w.heap.size ≤ T ∧ StAt (more S T) w' T n cap tabs ∧ TabsOk ts L tabs ∧ Goes K v l w w'
def ChLoop (S : Nat → Bool) (K : Nat) (v : Value) (l : List UInt8) (s : Value) (ver : Int) (ts : List Tbl) (R T n cap most L base : Nat) (w : World) (out i : Value) (wr : World) : Prop :=
  ∃ (q : Nat) (tabs : List (List (List Val))) (A : Option Addr) (c m : Nat) (cs : List Value), q ≤ most ∧ i = .int .i64 q ∧ out = .slice A m c ∧ m + q ≤ most ∧ ChRel S K v l s ver ts R T n cap (L + (most - q)) base w wr tabs A c m cs

set_option maxRecDepth 100000 in
set_option maxHeartbeats 3000000 in
theorem changes_any (S : Nat → Bool) (K : Nat) (v : Value) (l : List UInt8) (sv stv : Value) (ver : Int) (ts : List Tbl) (B0 B L most : Nat) (tabs : List (List (List Val))) (mode : Int) (w : World) (h : ScPre S K v l sv ver ts B0 w) (hts : 0 < ts.length) (hst : StR w B stv tabs) (hB : B ≤ w.heap.size) (hok : TabsOk ts L tabs) (hL : L ≤ 900) (hmost : most ≤ 50) :
    Calls Tryz.prog 64 #[.pointer (some ⟨K, 0, none⟩), sv, .int .i64 mode, stv, .int .i64 most] w (ChangesOk S K v l ts (L + most) w) := by
  obtain ⟨i0, hi, hz0, hz1, hz2⟩ := info_parts info_chg
  obtain ⟨s0, hsv, -, h4, A0, tcap, rfl, htc, htm, -, -, hts'⟩ := id h.s
  obtain ⟨g, o, rfl, hgB, -⟩ := hts' hts
  subst hsv
  obtain ⟨s1, rfl, A1, scap, rfl, hsc, hsm, -, -, hstat⟩ := id hst
  have H := Lib.hid h
  have HST := Lib.hid hst
  have HOK := Lib.hid hok
  have hKw : K < w.heap.size := h.lt K h.SK
  have hts4 : (ts.length : Int) ≤ 4 := by omega
  have hts0 : (0 : Int) < (ts.length : Int) := by omega
  have htm' : tcap ≤ 9223372036854775807 := by simpa only [maxLen] using htm
  have htcI : (ts.length : Int) ≤ (tcap : Int) := by omega
  have htl := hok.1
  have htabs0 : 0 < tabs.length := by omega
  have htabs4 : tabs.length ≤ 4 := by omega
  clear h hts' htm hst hstat hsc hsm hok htl
  go_enter Tryz.func64, Tryz.ntmps64
  go_upto_region 1 with (fail)
  obtain ⟨w0, h0⟩ : ∃ w0, ((w.alloc (.cells #[.int .i64 ver, .slice (some ⟨g, o, none⟩) ts.length tcap] 82)).alloc (.cells #[.slice A1 tabs.length scap] 100)).alloc (.cells #[.slice none 0 0] 100) = w0 := ⟨_, rfl⟩
  have hk0 : Kept Kno w w0 := by rw [← h0]; exact (((Kept.refl _ _).alloc _).alloc _).alloc _
  have hz : w0.heap.size = w.heap.size + 3 := by rw [← h0]; simp
  have HB6 : Hid (Blk w0 w.heap.size 82 #[.int .i64 ver, .slice (some ⟨g, o, none⟩) ts.length tcap]) := Lib.hid (by rw [← h0]; exact ((Blk.new _ _ _).alloc _).alloc _)
  have HB8 : Hid (Blk w0 (w.heap.size + 1) 100 #[.slice A1 tabs.length scap]) := Lib.hid (by rw [← h0]; have := (Blk.new (w.alloc (.cells #[.int .i64 ver, .slice (some ⟨g, o, none⟩) ts.length tcap] 82)) 100 #[.slice A1 tabs.length scap]).alloc (.cells #[.slice none 0 0] 100); simpa using this)
  have HB11 : Hid (Blk w0 (w.heap.size + 1 + 1) 100 #[.slice none 0 0]) := Lib.hid (by rw [← h0]; have := Blk.new ((w.alloc (.cells #[.int .i64 ver, .slice (some ⟨g, o, none⟩) ts.length tcap] 82)).alloc (.cells #[.slice A1 tabs.length scap] 100)) 100 #[.slice none 0 0]; simpa using this)
  have HK0 := Lib.hid hk0
  rw [h0]
  clear h0
  obtain ⟨R, hR⟩ : ∃ R, w.heap.size = R := ⟨_, rfl⟩
  have hwR : w.heap.size ≤ R := by omega
  rw [hR] at HB6 HB8 HB11 ⊢
  have c8 : w0.cell? ⟨R + 1, 0, none⟩ = some (.slice A1 tabs.length scap) := HB8.out.cell 0
  have hS2 : ∀ k, more (more S (R + 1)) (R + 1 + 1) k = true → k < w0.heap.size := fun k hk => by
    cases hs : S k with
    | true => have := H.out.lt k hs; omega
    | false =>
      have : k = R + 1 ∨ k = R + 1 + 1 := by simpa [more, hs] using hk
      omega
  have HC := Lib.hid (stcopy_any (more (more S (R + 1)) (R + 1 + 1)) B _ tabs w0 (HST.out.keep0 hB hk0) (Nat.le_trans hB hk0.size) (by omega) htabs0 (fun rows hr => by
    obtain ⟨i, hi⟩ := List.mem_iff_getElem?.1 hr
    obtain ⟨hil, -⟩ := List.getElem?_eq_some_iff.1 hi
    have hit : i < ts.length := by have := HOK.out.1; omega
    have h1 := HOK.out.2 i _ rows (List.getElem?_eq_getElem hit) hi
    refine ⟨by omega, fun r hr => ?_⟩
    have h2 := (h1.2 r hr).1
    have h3 := (H.out.key (List.getElem?_eq_getElem hit)).2.2.1
    omega) hS2)
  have hzR : R + 1 + 1 < w0.heap.size := by omega
  clear hR hz hk0 hS2
  go_wp2_with fail
  refine HC.out.mono ?_
  rintro e w1 ⟨T, cap, rfl, hT, hst1, hk1⟩
  have c81 : w1.cell? ⟨R + 1, 0, none⟩ = some (.slice A1 tabs.length scap) := (HB8.out.kept hk1 (fun h => h)).cell 0
  have f81 := (HB8.out.kept hk1 (fun h => h)).frozen 0
  have hb81 := HB8.out.kept hk1 (fun h => h)
  obtain ⟨w2, hw2⟩ : ∃ w2, w1.setCell ⟨R + 1, 0, none⟩ (.slice (some ⟨T, 0, none⟩) tabs.length cap) = w2 := ⟨_, rfl⟩
  have hkS : Kept (Kone (R + 1)) w1 w2 := by rw [← hw2]; exact (Kept.refl _ _).setIn (p := ⟨R + 1, 0, none⟩) (by unfold Kone; rfl) _
  have hgo : Goes K v l w w2 := Goes.thenN H.out.c (Goes.of0 H.out.c (HK0.out.then0 hk1)) hkS (fun k e => by unfold Kone at e; omega)
  have hTw : T < w2.heap.size := by
    obtain ⟨cs', h1, -⟩ := hst1
    exact Nat.lt_of_lt_of_le h1.lt hkS.size
  have hCK : ChK K R T w2.heap.size w := ⟨hKw, hwR, by have := hkS.size; have := hk1.size; omega, hTw, by omega⟩
  have hor : orow (S4 S R T) (.slice none 0 0) = S4 S R T := by funext k; simp [orow, Value.ownBlock]
  have hch : ChRel S K v l (.slice (some ⟨g, o, none⟩) ts.length tcap) ver ts R T tabs.length cap L w2.heap.size w w2 tabs none 0 0 [] := by
    refine ⟨hgo, (HB6.out.kept hk1 (fun h => h)).kept hkS (fun e => by unfold Kone at e; omega), ?_, (HB11.out.kept hk1 (fun h => h)).kept hkS (fun e => by unfold Kone at e; omega), ?_, HOK.out, World.ownsRow_nil _ _ _ _, Nat.le_refl _⟩
    · rw [← hw2]; exact hb81.set_ 0 _
    · rw [hor]; exact hst1.kept hkS (fun k e => by unfold Kone at e; subst e; exact S4_8) (fun e => by unfold Kone at e; omega)
  have HCK := Lib.hid hCK
  have HCH := Lib.hid hch
  have HW2 := Lib.hid hw2
  have htn : (0 : Int) < (tabs.length : Int) := by omega
  clear hw2 hkS hgo hTw hCK hor hch hb81 hk1 hst1 HC HB6 HB8 HB11 c8
  go_upto_region 3 with (fail)
  clear c81 f81
  rw [HW2.out]
  go_wp2_with fail
  refine ((HCH.out.p HCK.out H.out).int (most + 1) (by omega) (by omega)).mono ?_
  rintro e w3 ⟨q0, hq0, rfl, hg3⟩
  have HCH3 := Lib.hid (HCH.out.goes HCK.out H.out hg3)
  clear hg3 HCH HOK HST
  have HKT := Lib.hid htn
  generalize tabs.length = n at *
  go_wp2_with fail
  go_loopw [12, 13] (fun out i wr => ChLoop S K v l (.slice (some ⟨g, o, none⟩) ts.length tcap) ver ts R T n cap most L w2.heap.size w out i wr) (fun _ i _ => (intOf i).toNat)
  case atStart => exact ⟨q0, tabs, none, 0, 0, [], by omega, rfl, rfl, by omega, HCH3.out.mono (by omega)⟩
  case round =>
    clear HCH3
    obtain ⟨q, tb, A, c, m, cs, hq, rfl, rfl, hmq, hr⟩ := hrel
    have HR := Lib.hid hr
    clear hr
    have c61 : wr.cell? ⟨R, 1, none⟩ = some (.slice (some ⟨g, o, none⟩) ts.length tcap) := HR.out.b6.cell 1
    have hzb : w2.heap.size ≤ wr.heap.size := HR.out.hb
    by_cases hq0 : 0 < q
    · have hqI : (0 : Int) < (q : Int) := by omega
      go_upto_region 6 with (fail)
      go_wp2_with fail
      refine ((HR.out.p HCK.out H.out).int ts.length (by omega) (by omega)).mono ?_
      rintro e w3a ⟨j, hj, rfl, hg3a⟩
      have HG3a := Lib.hid hg3a
      clear hg3a c61
      go_upto_region 7 with (fail)
      obtain ⟨w3, hw3⟩ : ∃ w3, w3a.alloc (.cells #[.int .i64 (j : Int), .slice none 0 0, .slice none 0 0] 223) = w3 := ⟨_, rfl⟩
      obtain ⟨X, hX⟩ : ∃ X, w3a.heap.size = X := ⟨_, rfl⟩
      have HG3 : Hid (Goes K v l wr w3) := Lib.hid (HG3a.out.then0 (by rw [← hw3]; exact (Kept.refl _ _).alloc _))
      have HX3 : Hid (Blk w3 X 223 #[.int .i64 (j : Int), .slice none 0 0, .slice none 0 0]) := Lib.hid (by rw [← hw3, ← hX]; exact Blk.new _ _ _)
      have hXwr : wr.heap.size ≤ X := by rw [← hX]; exact HG3a.out.2.size
      have hKX : K < X := by have := HCK.out.k; have := HR.out.g.2.size; omega
      rw [hw3, hX]
      clear hw3 hX HG3a
      have HR3 := Lib.hid (HR.out.goes HCK.out H.out HG3.out)
      obtain ⟨t, ht⟩ : ∃ t, ts[j]? = some t := ⟨_, List.getElem?_eq_getElem hj⟩
      have HT := Lib.hid ht
      obtain ⟨hkey, hks, hl8, hk1, hk2⟩ := (HR3.out.p HCK.out H.out).key HT.out
      obtain ⟨kn, hkn⟩ : ∃ kn : Nat, t.key = kn := ⟨t.key.toNat, by omega⟩
      rw [hkn] at hkey
      have HKEY := Lib.hid hkey
      have HKN := Lib.hid hkn
      obtain ⟨rows, hrows⟩ : ∃ rows, tb[j]? = some rows := ⟨_, List.getElem?_eq_getElem (by have := HR.out.ok.1; omega)⟩
      have HROWS := Lib.hid hrows
      have hKk := kinds_any w3.heap.size (.agg #[.int .i64 ver, .slice (some ⟨g, o, none⟩) ts.length tcap]) ver ts w3.drew ((HR3.out.p HCK.out H.out).sch.keep0 (Nat.le_refl _) ((Kept.refl _ _).drew)) (Nat.le_refl _) j t HT.out
      obtain ⟨ks, hks'⟩ : ∃ ks, t.cols.map (·.2) = ks := ⟨_, rfl⟩
      rw [hks'] at hKk hks
      have hksl : ks.length = t.cols.length := by rw [← hks', List.length_map]
      have HKK := Lib.hid hKk
      have HKS := Lib.hid hks
      have hkl : ks.length ≤ 1000 := by omega
      have hkn1 : 1 ≤ kn := by omega
      have hkn2 : kn ≤ ks.length := by omega
      have HLEN := Lib.hid hksl
      have hj0 : (0 : Int) ≤ (j : Int) := by omega
      have hjI : (j : Int) < (ts.length : Int) := by omega
      have hrl : rows.length ≤ 1000 := by have := (HR.out.ok.2 j t rows HT.out hrows).1; omega
      have hrf : ∀ r ∈ rows, t.cols.length ≤ r.length ∧ r.length ≤ 1000 := fun r hr => by have h1 := ((HR.out.ok.2 j t rows HT.out hrows).2 r hr).1; omega
      have HRF := Lib.hid hrf
      have hjn : (j : Int) < (n : Int) := by
        obtain ⟨-, -, e, -⟩ := HR.out.st
        have := (List.getElem?_eq_some_iff.1 hrows).1
        omega
      have HRV := Lib.hid (HR.out.ok.2 j t rows HT.out hrows).2
      clear hkey hkn hrows hKk hks' hks hk1 hk2 hl8 hksl ht hrf
      refine wp_region_held_drew (S := fun w' => Blk w' R 82 #[.int .i64 ver, .slice (some ⟨g, o, none⟩) ts.length tcap] ∧ Blk w' X 223 #[.int .i64 (j : Int), .slice none 0 0, .slice none 0 0] ∧ w'.cell? ⟨g, o + j * 5 + 2, none⟩ = some (.int .i64 kn)) (by kernel_rfl) ⟨HR3.out.b6, HX3.out, HKEY.out⟩ (fun hHeld => ?_)
      refine wpAnyH_takeE (i := 0) (v := .pointer (some ⟨K, 0, none⟩)) rfl rfl (by kernel_rfl) (by kernel_rfl) (by kernel_rfl) (fun _ _ _ h => h) (Or.inl ⟨by rfl, fun w1 hw => by go_simp⟩) (by assumption) ?_
      (try simp only [Act.put, List.setIfInBounds_toArray, List.set_cons_zero, List.set_cons_succ])
      refine wpAnyH_takeE (i := 1) (v := .agg ([.int .i64 ver, .slice (some ⟨g, o, none⟩) ts.length tcap]).toArray) rfl rfl (by kernel_rfl) (by kernel_rfl) (by kernel_rfl) (fun _ _ _ h => h) (yieldsIf_load_atE (by rfl) 82 _ rfl (R) (0) rfl ([.int .i64 ver, .slice (some ⟨g, o, none⟩) ts.length tcap]) _ (fun w1 hw => CellsAt.blk hw.1) Tryz.underlying82 rfl (by kernel_rfl)) (by assumption) ?_
      (try simp only [Act.put, List.setIfInBounds_toArray, List.set_cons_zero, List.set_cons_succ])
      refine wpAnyH_takeE (i := 2) (v := .pointer (some ⟨X, 0, none⟩)) rfl rfl (by kernel_rfl) (by kernel_rfl) (by kernel_rfl) (fun _ _ _ h => h) (Or.inl ⟨by rfl, fun w1 hw => by go_simp⟩) (by assumption) ?_
      (try simp only [Act.put, List.setIfInBounds_toArray, List.set_cons_zero, List.set_cons_succ])
      refine wpAnyH_takeE (i := 3) (v := .int .i64 (j : Int)) rfl rfl (by kernel_rfl) (by kernel_rfl) (by kernel_rfl) (fun _ _ _ h => h) (Or.inl ⟨by rfl, fun w1 hw => by have c1 : w1.cell? ⟨X, 0, none⟩ = some (.int .i64 (j : Int)) := hw.2.1.cell 0; clear hw; go_simp⟩) (by assumption) ?_
      (try simp only [Act.put, List.setIfInBounds_toArray, List.set_cons_zero, List.set_cons_succ])
      refine wpAnyH_takeE (i := 5) (v := .pointer (some ⟨R, 1, none⟩)) rfl rfl (by kernel_rfl) (by kernel_rfl) (by kernel_rfl) (fun _ _ _ h => h) (Or.inl ⟨by rfl, fun w1 hw => by go_simp⟩) (by assumption) ?_
      (try simp only [Act.put, List.setIfInBounds_toArray, List.set_cons_zero, List.set_cons_succ])
      refine wpAnyH_takeE (i := 6) (v := .slice (some ⟨g, o, none⟩) ts.length tcap) rfl rfl (by kernel_rfl) (by kernel_rfl) (by kernel_rfl) (fun _ _ _ h => h) (Or.inl ⟨by rfl, fun w1 hw => by have c1 : w1.cell? ⟨R, 1, none⟩ = some (.slice (some ⟨g, o, none⟩) ts.length tcap) := hw.1.cell 1; clear hw; go_simp⟩) (by assumption) ?_
      (try simp only [Act.put, List.setIfInBounds_toArray, List.set_cons_zero, List.set_cons_succ])
      refine wpAnyH_takeE (i := 7) (v := .pointer (some ⟨X, 0, none⟩)) rfl rfl (by kernel_rfl) (by kernel_rfl) (by kernel_rfl) (fun _ _ _ h => h) (Or.inl ⟨by rfl, fun w1 hw => by go_simp⟩) (by assumption) ?_
      (try simp only [Act.put, List.setIfInBounds_toArray, List.set_cons_zero, List.set_cons_succ])
      refine wpAnyH_takeE (i := 8) (v := .int .i64 (j : Int)) rfl rfl (by kernel_rfl) (by kernel_rfl) (by kernel_rfl) (fun _ _ _ h => h) (Or.inl ⟨by rfl, fun w1 hw => by have c1 : w1.cell? ⟨X, 0, none⟩ = some (.int .i64 (j : Int)) := hw.2.1.cell 0; clear hw; go_simp⟩) (by assumption) ?_
      (try simp only [Act.put, List.setIfInBounds_toArray, List.set_cons_zero, List.set_cons_succ])
      refine wpAnyH_takeE (i := 9) (v := .pointer (some ⟨g, o + j * 5, none⟩)) rfl rfl (by kernel_rfl) (by kernel_rfl) (by kernel_rfl) (fun _ _ _ h => h) (Or.inl ⟨by rfl, fun w1 hw => by go_simp⟩) (by assumption) ?_
      (try simp only [Act.put, List.setIfInBounds_toArray, List.set_cons_zero, List.set_cons_succ])
      refine wpAnyH_takeE (i := 10) (v := .pointer (some ⟨g, o + j * 5 + 2, none⟩)) rfl rfl (by kernel_rfl) (by kernel_rfl) (by kernel_rfl) (fun _ _ _ h => h) (Or.inl ⟨by rfl, fun w1 hw => by go_simp⟩) (by assumption) ?_
      (try simp only [Act.put, List.setIfInBounds_toArray, List.set_cons_zero, List.set_cons_succ])
      refine wpAnyH_takeE (i := 11) (v := .int .i64 (kn : Int)) rfl rfl (by kernel_rfl) (by kernel_rfl) (by kernel_rfl) (fun _ _ _ h => h) (Or.inl ⟨by rfl, fun w1 hw => by have c1 := hw.2.2; clear hw; go_simp⟩) (by assumption) ?_
      (try simp only [Act.put, List.setIfInBounds_toArray, List.set_cons_zero, List.set_cons_succ])
      refine wpAnyH_takeE (i := 12) (v := .int .i64 mode) rfl rfl (by kernel_rfl) (by kernel_rfl) (by kernel_rfl) (fun _ _ _ h => h) (Or.inl ⟨by rfl, fun w1 hw => by go_simp⟩) (by assumption) ?_
      (try simp only [Act.put, List.setIfInBounds_toArray, List.set_cons_zero, List.set_cons_succ])
      refine wpAnyH_ready (rs := [4]) (by kernel_rfl) (by simp) ?_
      refine AllReadyH.cons rfl (fun K' hK => ?_) (AllReadyH.nil)
      go_simp
      go_at_call 61
      refine (HKK.out).mono ?_
      rintro e w5 ⟨A5, c5, rfl, ho5, hk5⟩
      have hk35 : Kept Kno w3 w5 := (Kept.refl _ _).drew.then0 hk5
      have HG5 := Lib.hid (HG3.out.then0 hk35)
      have HX5 := Lib.hid (HX3.out.kept hk35 (fun h => h))
      have HR5 := Lib.hid (HR.out.goes HCK.out H.out HG5.out)
      have HP5 := Lib.hid (HR5.out.p HCK.out H.out)
      have HKEY5 : Hid (w5.cell? ⟨g, o + j * 5 + 2, none⟩ = some (.int .i64 kn)) := Lib.hid (hk5.cell_some HKEY.out (fun h => h))
      have HO5 := Lib.hid (own_slin (S := orow (S4 S R T) (.slice A m c)) ho5 (fun k hk => by
        cases hx : orow (S4 S R T) (.slice A m c) k with
        | false => rfl
        | true => have h1 := (HR3.out.p HCK.out H.out).lt k hx; have h2 : w3.heap.size ≤ k := hk; omega))
      clear ho5 hk5 HKK HKEY hk35 HG3 HR3 HX3
      go_wp2_with fail
      refine hK.out _ _ ?_ (fun hHeld => ?_)
      · exact ⟨HR5.out.b6, HX5.out, HKEY5.out⟩
      clear hK K'
      (try simp only [Act.put, List.setIfInBounds_toArray, List.set_cons_zero, List.set_cons_succ])
      refine wpAnyH_ready (rs := [13]) (by kernel_rfl) (by simp) ?_
      refine AllReadyH.cons rfl (fun K' hK => ?_) (AllReadyH.nil)
      go_simp
      go_at_call 73
      refine (crow_any (orow (S4 S R T) (.slice A m c)) K v l _ ks kn mode w5.heap.size w5 HP5.out.c HP5.out.SK HO5.out (Nat.le_refl _) HKS.out hkl).mono ?_
      rintro e w6 ⟨A6, c6, xs, rfl, ho6, hxl, hxv, hg6⟩
      have HG6 := Lib.hid (HG5.out.then_ hg6)
      have HR6 := Lib.hid (HR.out.goes HCK.out H.out HG6.out)
      have HP6 := Lib.hid (HR6.out.p HCK.out H.out)
      have HX6 : Hid (Blk w6 X 223 #[.int .i64 (j : Int), .slice none 0 0, .slice none 0 0]) := Lib.hid (HX5.out.kept hg6.2 (fun e => by unfold Kone at e; omega))
      have HKEY6 : Hid (w6.cell? ⟨g, o + j * 5 + 2, none⟩ = some (.int .i64 kn)) := Lib.hid (by have h1 := (HP6.out.key HT.out).1; rw [HKN.out] at h1; exact h1)
      have HO6 := Lib.hid ho6
      have hz5 : wr.heap.size ≤ w5.heap.size := HG5.out.2.size
      have hXw5 : X < w5.heap.size := HX5.out.lt
      have HXV := Lib.hid hxv
      have HXL := Lib.hid hxl
      clear ho6 hxv hxl hg6 HO5 HR5 HX5 HKEY5 HG5 HP5
      go_wp2_with fail
      refine hK.out _ _ ?_ (fun hHeld => ?_)
      · exact ⟨HR6.out.b6, HX6.out, HKEY6.out⟩
      clear hK K'
      (try simp only [Act.put, List.setIfInBounds_toArray, List.set_cons_zero, List.set_cons_succ])
      refine wpAnyH_ready (rs := [14]) (by kernel_rfl) (by simp) ?_
      refine AllReadyH.cons rfl (fun K' hK => ?_) (AllReadyH.nil)
      go_simp
      refine hK.out _ _ ?_ (fun hHeld => ?_)
      · exact ⟨HR6.out.b6, HX6.out, HKEY6.out⟩
      clear hK K'
      refine wpAnyH_done (by kernel_rfl) ?_ _
      clear hHeld
      generalize hnx : xs.length = nx at HO6 HXL ⊢
      have hnx0 : 0 < nx := by have := HXL.out; omega
      have hknx : kn ≤ nx := by have := HXL.out; omega
      have hnx1 : nx ≤ 1000 := by have := HXL.out; omega
      obtain ⟨gR, hA6, hgR⟩ := own_some (n := nx) (by have h1 := HO6.out; unfold OwnR at h1; rw [hnx] at h1; exact h1) hnx0
      subst hA6
      have HNX := Lib.hid hnx
      clear hnx
      obtain ⟨cs', hTb, -, -, hnc, hcm, -, htab⟩ := id HR6.out.st
      obtain ⟨sl, hsl, hrows⟩ := htab j rows HROWS.out
      have c80 : w6.cell? ⟨R + 1, 0, none⟩ = some (.slice (some ⟨T, 0, none⟩) n cap) := HR6.out.b8.cell 0
      have cX0 : w6.cell? ⟨X, 0, none⟩ = some (.int .i64 (j : Int)) := HX6.out.cell 0
      have cT : w6.cell? ⟨T, j, none⟩ = some sl := (hTb.cell j).trans hsl
      have HRE := Lib.hid hrows
      obtain ⟨aA, ac, rfl⟩ : ∃ A c, sl = .slice A rows.length c := LyIn.form hrows
      have hacl : rows.length ≤ ac := by obtain ⟨A', c', he, h3, -⟩ := hrows; simp only [Value.slice.injEq] at he; rw [he.2.2]; exact h3
      have hacm : ac ≤ 9223372036854775807 := by obtain ⟨A', c', he, -, h4, -⟩ := hrows; simp only [Value.slice.injEq] at he; rw [he.2.2]; simpa only [maxLen] using h4
      have hcm' : cap ≤ 9223372036854775807 := by simpa only [maxLen] using hcm
      clear hTb hcm htab hsl hrows
      go_upto_region 9 with (fail)
      clear c80 cX0 cT
      go_cut [67] (fun s wx => ∃ b : Bool, s = .bool b ∧ (b = true → 0 < rows.length) ∧ Goes K v l w6 wx)
      case first =>
        by_cases hrn : 0 < rows.length
        · have hrnI : (0 : Int) < (rows.length : Int) := by omega
          go_wp2_with fail
          refine (HP6.out.bool 2 (by decide) (by decide)).mono ?_
          rintro e w7 ⟨b, rfl, hg7⟩
          have HG7 := Lib.hid hg7
          clear hg7
          go_wp2
          go_meet
          exact ⟨b, rfl, fun _ => hrn, HG7.out⟩
        · have hrnI : ¬ (0 : Int) < (rows.length : Int) := by omega
          go_wp2
          go_meet
          exact ⟨false, rfl, (fun h => by cases h), Goes.of0 HP6.out.c (Kept.refl _ _)⟩
      case rest =>
      obtain ⟨b, rfl, hbr, hg7⟩ := hcut
      have HG7 := Lib.hid (HG6.out.then_ hg7)
      have HG67 := Lib.hid hg7
      have HX7 : Hid (Blk wc X 223 #[.int .i64 (j : Int), .slice none 0 0, .slice none 0 0]) := Lib.hid (HX6.out.kept hg7.2 (fun e => by unfold Kone at e; omega))
      have HO7 : Hid (OwnR wc w5.heap.size (.slice (some ⟨gR, 0, none⟩) nx c6) xs) := Lib.hid (own_kept HO6.out hg7.2 (fun k hk e => by unfold Kone at e; have := (own_base HO6.out hk).1; omega))
      have HRIX : Hid (∀ wx, Goes K v l w6 wx → RowsIn wx w6.heap.size (.slice aA rows.length ac) rows) := Lib.hid (fun wx hg => RowsIn.sub0 (erase_sub _ _) (HRE.out.old ((erase_kept (S := orow (S4 S R T) (.slice A m c)) hg.2 (fun k hk => by unfold Kone at hk; subst hk; exact HP6.out.SK) (fun _ _ => rfl)).old (by rw [erase_size]; exact Nat.le_refl _) (fun _ _ h => h)) (Nat.le_refl _)))
      clear hg7 HO6 HX6 HKEY6 HRE
      go_upto_if 67 with (fail)
      go_cut [] (fun wx => ∃ ys : List Val, Hid (ys.length = nx) ∧ (∀ y ∈ ys, ValOk y) ∧ OwnR wx w5.heap.size (.slice (some ⟨gR, 0, none⟩) nx c6) ys ∧ Goes K v l wr wx ∧ Blk wx X 223 #[.int .i64 (j : Int), .slice none 0 0, .slice none 0 0])
      case first =>
        cases b with
        | false =>
          go_wp2
          go_meet
          exact ⟨xs, HNX, HXV.out, HO7.out, HG7.out, HX7.out⟩
        | true =>
          have hrn := hbr rfl
          have hrnI : (0 : Int) < (rows.length : Int) := by omega
          go_wp2_with fail
          refine (((HR.out.goes HCK.out H.out HG7.out).p HCK.out H.out).int rows.length (by omega) (by omega)).mono ?_
          rintro e w8 ⟨i, hi8, rfl, hg8⟩
          have HG8 := Lib.hid (HG7.out.then_ hg8)
          have HR8 := Lib.hid (HR.out.goes HCK.out H.out HG8.out)
          have HX8 : Hid (Blk w8 X 223 #[.int .i64 (j : Int), .slice none 0 0, .slice none 0 0]) := Lib.hid (HX7.out.kept hg8.2 (fun e => by unfold Kone at e; omega))
          have HO8 : Hid (OwnR w8 w5.heap.size (.slice (some ⟨gR, 0, none⟩) nx c6) xs) := Lib.hid (own_kept HO7.out hg8.2 (fun k hk e => by unfold Kone at e; have := (own_base HO7.out hk).1; omega))
          obtain ⟨r, hr⟩ : ∃ r, rows[i]? = some r := ⟨_, List.getElem?_eq_getElem hi8⟩
          obtain ⟨gr, og, rc, rs, he, -, -, hgr, cr, hrs⟩ := (HRIX.out w8 (HG67.out.then_ hg8)).row hr
          simp only [Value.slice.injEq, true_and] at he
          obtain ⟨rfl, rfl⟩ := he
          have hfr := HRF.out r (List.mem_of_getElem? hr)
          have hrv := (HRV.out r (List.mem_of_getElem? hr)).2
          obtain ⟨rA2, rc2, rfl⟩ : ∃ A c, rs = .slice A r.length c := SlIn.form hrs
          have hi80 : (0 : Int) ≤ (i : Int) := by omega
          have hi8I : (i : Int) < (rows.length : Int) := by omega
          have h68 : w6.heap.size ≤ w8.heap.size := (HG67.out.then_ hg8).2.size
          have hC := key_any w8.heap.size (.agg #[.int .i64 ver, .slice (some ⟨g, o, none⟩) ts.length tcap]) (.slice rA2 r.length rc2) ver ts w8 ((HR8.out.p HCK.out H.out).sch) (Nat.le_refl _) j t HT.out r (RIn.old hrs (fun _ _ => rfl) h68) kn HKN.out (by have := HLEN.out; omega) hfr.2
          have hkyl : (r.take kn).length = kn := by have := HLEN.out; rw [List.length_take]; omega
          have hkyv : ∀ y ∈ r.take kn, ValOk y := fun y hy => hrv y (List.mem_of_mem_take hy)
          generalize r.take kn = ky at hC hkyl hkyv
          have HC := Lib.hid hC
          have HKYL := Lib.hid hkyl
          have HKYV := Lib.hid hkyv
          have b60 : w8.cell? ⟨R, 0, none⟩ = some (.int .i64 ver) := HR8.out.b6.cell 0
          have b61 : w8.cell? ⟨R, 0 + 1, none⟩ = some (.slice (some ⟨g, o, none⟩) ts.length tcap) := HR8.out.b6.cell 1
          have cX0 : w8.cell? ⟨X, 0, none⟩ = some (.int .i64 (j : Int)) := HX8.out.cell 0
          clear hg8 HG7 HX7 HO7 hr hrs hC hkyl hkyv hrv
          go_upto_region 11 with (fail)
          go_wp2_with fail
          refine HC.out.mono ?_
          rintro e w9 ⟨A9, c9, rfl, ho9, hk9⟩
          have HG9 := Lib.hid (HG8.out.then0 hk9)
          have HX9 := Lib.hid (HX8.out.kept hk9 (fun h => h))
          have HO9 : Hid (OwnR w9 w5.heap.size (.slice (some ⟨gR, 0, none⟩) nx c6) xs) := Lib.hid (own_kept HO8.out hk9 (fun _ _ h => h))
          obtain ⟨gK, hA9, hgK⟩ := own_some ho9 (by have := HKYL.out; omega)
          subst hA9
          have hsrc : ∀ (j : Nat) (u : Value), (rowC ky)[j]? = some u → w9.cell? ((⟨gK, 0, none⟩ : Addr).add j) = some u := fun j u hj => World.ownsRow.cells ho9 rfl j u hj
          obtain ⟨cur, hcur, hcz⟩ : ∃ cur : Array Value, w9.heap[gR]? = some (.cells cur 49 (0, 0)) ∧ nx * 3 ≤ cur.size := by
            rcases HO9.out.2 with ⟨he, -⟩ | ⟨g', cap', cur, he, -, hblk, hle, -, hsz, -⟩
            · cases he
            · simp only [Value.slice.injEq, Option.some.injEq, Addr.mk.injEq, and_true] at he
              obtain ⟨rfl, -, -⟩ := he
              exact ⟨cur, hblk, by have := HNX.out; have hh : xs.length ≤ cap' := hle; omega⟩
          have hcp : ∀ ty, (Builtin.copy_ #[30, 30] ty #[.slice (some ⟨gR, 0, none⟩) nx c6, .slice (some ⟨gK, 0, none⟩) ky.length c9]).run Tryz.prog w9 = .ok (goInt (Nat.min ky.length nx)) (w9.setRow gR (cur.toList.take 0 ++ rowC ky ++ cur.toList.drop (0 + (rowC ky).length)).toArray) := fun ty =>
            run_copy3 (P := Tryz.prog) w9 30 30 ty 49 gR 0 nx c6 ⟨gK, 0, none⟩ ky.length c9 cur 49 (rowC ky) Tryz.underlying30 (by kernel_rfl) hcur (by rw [rowC_length]; have := HKYL.out; have : Nat.min ky.length nx = ky.length := Nat.min_eq_left (by omega); rw [this]) hsrc (by rw [rowC_length]; have := HKYL.out; omega) (rowC_one ky)
          obtain ⟨w10, hw10⟩ : ∃ w10, w9.setRow gR (cur.toList.take 0 ++ rowC ky ++ cur.toList.drop (0 + (rowC ky).length)).toArray = w10 := ⟨_, rfl⟩
          rw [hw10] at hcp
          have hk10 : Kept (Kone gR) w9 w10 := by rw [← hw10]; exact Kept.setRow (S := Kone gR) (Kept.refl _ _) (fun _ => Eq.refl gR) _
          have ho10 : OwnR w10 w5.heap.size (.slice (some ⟨gR, 0, none⟩) nx c6) (ky ++ xs.drop ky.length) := by
            rw [← hw10]
            exact OwnR.copied HO9.out hcur (by have := HKYL.out; have := HNX.out; omega)
          have hm10 : Hid ((ky ++ xs.drop ky.length).length = nx) := Lib.hid (by have := HKYL.out; have := HNX.out; rw [List.length_append, List.length_drop]; omega)
          have HG10 := Lib.hid (Goes.thenN HR.out.g.1 HG9.out hk10 (fun k e => by unfold Kone at e; omega))
          have HX10 := Lib.hid (HX9.out.kept hk10 (fun e => by unfold Kone at e; omega))
          have HO10 := Lib.hid ho10
          clear ho9 hk9 HC b60 b61 cX0 cr hsrc hcur hcz hw10 hk10 ho10 HO8 HX8 HG8 HR8
          go_wp2_with fail
          go_meet
          exact ⟨ky ++ xs.drop ky.length, hm10, (fun y hy => by
            rcases List.mem_append.1 hy with h | h
            · exact HKYV.out y h
            · exact HXV.out y (List.mem_of_mem_drop h)), HO10.out, HG10.out, HX10.out⟩
      case rest =>
      obtain ⟨ys, HYN, hyv, hyo, hyg, hyx⟩ := hcut
      obtain ⟨wk, hwk⟩ : ∃ wk, wk = wc.heap.size := ⟨_, rfl⟩
      have HWK := Lib.hid hwk
      have hwkX : X < wk := by rw [hwk]; exact hyx.lt
      have hwkr : wr.heap.size ≤ wk := by omega
      have hwkK : K < wk := by omega
      clear hwk
      have HYV := Lib.hid hyv
      have HYO := Lib.hid hyo
      have HGB := Lib.hid hyg
      have HXB := Lib.hid hyx
      have HRB := Lib.hid (HR.out.goes HCK.out H.out hyg)
      have hXw : X < wc.heap.size := hyx.lt
      have hgRw : gR < wc.heap.size := (own_base hyo rfl).2
      have hC := key_any wc.heap.size (.agg #[.int .i64 ver, .slice (some ⟨g, o, none⟩) ts.length tcap]) (.slice (some ⟨gR, 0, none⟩) nx c6) ver ts wc ((HRB.out.p HCK.out H.out).sch) (Nat.le_refl _) j t HT.out ys (OwnR.rin hyo HYN.out.symm) kn HKN.out (by have := HYN.out; omega) (by have := HYN.out; omega)
      generalize ys.take kn = kz at hC
      have HC := Lib.hid hC
      have b60 : wc.cell? ⟨R, 0, none⟩ = some (.int .i64 ver) := HRB.out.b6.cell 0
      have b61 : wc.cell? ⟨R, 0 + 1, none⟩ = some (.slice (some ⟨g, o, none⟩) ts.length tcap) := HRB.out.b6.cell 1
      have cX0 : wc.cell? ⟨X, 0, none⟩ = some (.int .i64 (j : Int)) := HXB.out.cell 0
      clear hyv hyo hyg hyx hC HG7 HX7 HO7 HR6 HP6 HG6 HXV
      go_upto_region 12 with (fail)
      go_wp2_with fail
      refine HC.out.mono ?_
      rintro e w11 ⟨A11, c11, rfl, ho11, hk11⟩
      have HG11 := Lib.hid (HGB.out.then0 hk11)
      have HR11 := Lib.hid (HR.out.goes HCK.out H.out HG11.out)
      have HX11 := Lib.hid (HXB.out.kept hk11 (fun h => h))
      have HO11 : Hid (OwnR w11 w5.heap.size (.slice (some ⟨gR, 0, none⟩) nx c6) ys) := Lib.hid (own_kept HYO.out hk11 (fun _ _ h => h))
      have HKZ : Hid (OwnR w11 wk (.slice A11 kz.length c11) kz) := Lib.hid (by rw [HWK.out]; exact ho11)
      have hGet := get_any w11.heap.size (.agg #[.int .i64 ver, .slice (some ⟨g, o, none⟩) ts.length tcap]) (.agg #[.slice (some ⟨T, 0, none⟩) n cap]) (.slice A11 kz.length c11) ver ts tb j t rows kz w11 ((HR11.out.p HCK.out H.out).sch) HR11.out.st.read (Nat.le_refl _) HT.out HROWS.out HRF.out (OwnR.rin ho11 rfl)
      have HGET := Lib.hid hGet
      have d60 : w11.cell? ⟨R, 0, none⟩ = some (.int .i64 ver) := HR11.out.b6.cell 0
      have d61 : w11.cell? ⟨R, 0 + 1, none⟩ = some (.slice (some ⟨g, o, none⟩) ts.length tcap) := HR11.out.b6.cell 1
      have d8 : w11.cell? ⟨R + 1, 0, none⟩ = some (.slice (some ⟨T, 0, none⟩) n cap) := HR11.out.b8.cell 0
      have dX0 : w11.cell? ⟨X, 0, none⟩ = some (.int .i64 (j : Int)) := HX11.out.cell 0
      clear ho11 hk11 HC hGet b60 b61 cX0 HYO HXB HGB HRB
      go_upto_region 13 with (fail)
      go_wp2_with fail
      refine HGET.out.mono ?_
      rintro e w12 ⟨oA, on, oc, ob, rfl, hk12⟩
      have HG12 := Lib.hid (HG11.out.then0 hk12)
      have HX12 := Lib.hid (HX11.out.kept hk12 (fun h => h))
      have HO12 : Hid (OwnR w12 w5.heap.size (.slice (some ⟨gR, 0, none⟩) nx c6) ys) := Lib.hid (own_kept HO11.out hk12 (fun _ _ h => h))
      have HKZ12 : Hid (OwnR w12 wk (.slice A11 kz.length c11) kz) := Lib.hid (own_kept HKZ.out hk12 (fun _ _ h => h))
      have cX1 : w12.cell? ⟨X, 1, none⟩ = some (.slice none 0 0) := HX12.out.cell 1
      have fX1 := HX12.out.frozen 1
      obtain ⟨w13, hw13⟩ : ∃ w13, w12.setCell ⟨X, 1, none⟩ (.slice oA on oc) = w13 := ⟨_, rfl⟩
      have hk13 : Kept (Kone X) w12 w13 := by rw [← hw13]; exact (Kept.refl _ _).setIn (p := ⟨X, 1, none⟩) (by unfold Kone; rfl) _
      have HX13 : Hid (Blk w13 X 223 #[.int .i64 (j : Int), .slice oA on oc, .slice none 0 0]) := Lib.hid (by rw [← hw13]; exact HX12.out.set_ 1 _)
      have HG13 := Lib.hid (Goes.thenN HR.out.g.1 HG12.out hk13 (fun k e => by unfold Kone at e; omega))
      have HO13 : Hid (OwnR w13 w5.heap.size (.slice (some ⟨gR, 0, none⟩) nx c6) ys) := Lib.hid (own_kept HO12.out hk13 (fun k hk e => by unfold Kone at e; have := (own_base HO12.out hk).1; omega))
      have HKZ13 : Hid (OwnR w13 wk (.slice A11 kz.length c11) kz) := Lib.hid (own_kept HKZ12.out hk13 (fun k hk e => by unfold Kone at e; have := (own_base HKZ12.out hk).1; omega))
      have HR13 := Lib.hid (HR.out.goes HCK.out H.out HG13.out)
      have HW13 := Lib.hid hw13
      clear hk12 hk13 hw13 HGET HG12 HX12 HO12 HKZ12 HG11 HX11 HO11 HKZ HR11 d60 d61 d8 dX0
      go_upto_region 14 with (fail)
      rw [HW13.out]
      have cX1b : w13.cell? ⟨X, 1, none⟩ = some (.slice oA on oc) := HX13.out.cell 1
      clear cX1 fX1
      go_cut [105] (fun s wx => ∃ b : Bool, s = .bool b ∧ Goes K v l w13 wx)
      case first =>
        by_cases hon : on = 0
        · subst hon
          go_wp2
          go_meet
          exact ⟨true, rfl, Goes.of0 HG13.out.1 (Kept.refl _ _)⟩
        · have honb : ((on : Int) == 0) = false := by rw [beq_eq_false_iff_ne]; omega
          go_wp2_with fail
          refine ((HR13.out.p HCK.out H.out).bool 3 (by decide) (by decide)).mono ?_
          rintro e w14 ⟨b, rfl, hg14⟩
          have HG14 := Lib.hid hg14
          clear hg14
          go_wp2
          go_meet
          exact ⟨_, rfl, HG14.out⟩
      case rest =>
      obtain ⟨b, rfl, hg14⟩ := hcut
      have HG14 := Lib.hid (HG13.out.then_ hg14)
      have HX14 := Lib.hid (HX13.out.kept hg14.2 (fun e => by unfold Kone at e; omega))
      have HO14 : Hid (OwnR wc w5.heap.size (.slice (some ⟨gR, 0, none⟩) nx c6) ys) := Lib.hid (own_kept HO13.out hg14.2 (fun k hk e => by unfold Kone at e; have := (own_base HO13.out hk).1; omega))
      have HKZ14 := Lib.hid (own_kept HKZ13.out hg14.2 (fun k hk e => by unfold Kone at e; have := (own_base HKZ13.out hk).1; omega))
      clear hg14 cX1b HG13 HX13 HO13 HKZ13 HR13 HW13
      go_upto_if 105 with (fail)
      go_cut [] (fun wx => ∃ (nA : Option Addr) (nc : Nat) (zs : List Val), Blk wx X 223 #[.int .i64 (j : Int), .slice oA on oc, .slice nA zs.length nc] ∧ Hid (zs ≠ [] → zs.length = nx) ∧ (∀ z ∈ zs, ValOk z) ∧ OwnR wx w5.heap.size (.slice nA zs.length nc) zs ∧ Goes K v l wr wx ∧ OwnR wx wk (.slice A11 kz.length c11) kz)
      case first =>
        cases b with
        | false =>
          go_wp2
          go_meet
          exact ⟨none, 0, [], HX14.out, Lib.hid (fun h => absurd rfl h), by simp, World.ownsRow_nil _ _ _ _, HG14.out, HKZ14.out⟩
        | true =>
          have cX2 : wc.cell? ⟨X, 2, none⟩ = some (.slice none 0 0) := HX14.out.cell 2
          have fX2 := HX14.out.frozen 2
          obtain ⟨w15, hw15⟩ : ∃ w15, wc.setCell ⟨X, 2, none⟩ (.slice (some ⟨gR, 0, none⟩) nx c6) = w15 := ⟨_, rfl⟩
          have hk15 : Kept (Kone X) wc w15 := by rw [← hw15]; exact (Kept.refl _ _).setIn (p := ⟨X, 2, none⟩) (by unfold Kone; rfl) _
          have HX15 : Hid (Blk w15 X 223 #[.int .i64 (j : Int), .slice oA on oc, .slice (some ⟨gR, 0, none⟩) nx c6]) := Lib.hid (by rw [← hw15]; exact HX14.out.set_ 2 _)
          have HG15 := Lib.hid (Goes.thenN HR.out.g.1 HG14.out hk15 (fun k e => by unfold Kone at e; omega))
          have HO15 : Hid (OwnR w15 w5.heap.size (.slice (some ⟨gR, 0, none⟩) nx c6) ys) := Lib.hid (own_kept HO14.out hk15 (fun k hk e => by unfold Kone at e; have := (own_base HO14.out hk).1; omega))
          have HKZ15 := Lib.hid (own_kept HKZ14.out hk15 (fun k hk e => by unfold Kone at e; have := (own_base HKZ14.out hk).1; omega))
          have HW15 := Lib.hid hw15
          clear hk15 hw15 HG14 HX14 HO14 HKZ14
          go_wp2_with fail
          rw [HW15.out]
          go_meet
          refine ⟨some ⟨gR, 0, none⟩, c6, ys, ?_, Lib.hid (fun _ => HYN.out), HYV.out, ?_, HG15.out, HKZ15.out⟩
          · rw [HYN.out]; exact HX15.out
          · rw [HYN.out]; exact HO15.out
      case rest =>
      obtain ⟨nA, nc, zs, hxz, HZN, hzv, hzo, hgz, hkz⟩ := hcut
      have HX16 := Lib.hid hxz
      have HZV := Lib.hid hzv
      have HZO := Lib.hid hzo
      have HG16 := Lib.hid hgz
      have HKZ16 := Lib.hid hkz
      have HR16 := Lib.hid (HR.out.goes HCK.out H.out hgz)
      have hzl : zs.length ≤ 1000 := by
        by_cases hz0 : zs = []
        · subst hz0; simp
        · have := HZN.out hz0; omega
      have m1 : m + 1 ≤ maxLen := by simp only [maxLen]; omega
      have hge : ∀ k, (Value.slice A m c).ownBlock = some k → k < wr.heap.size := fun k e => (own_base HR.out.own e).2
      have HGE := Lib.hid hge
      have hbw : w2.heap.size ≤ wc.heap.size := HR16.out.hb
      have hXw16 : X < wc.heap.size := hxz.lt
      clear hxz hzv hzo hgz hkz hge HG14 HX14 HO14 HKZ14
      go_wp2_with (first
        | (refine wpList_load_row rfl 223 (.tmp 14) rfl X rfl 223 _ (0, 0) _ HX16.out Tryz.underlying223 rfl (by kernel_rfl) ?_)
        | (at_builtin; go_must (refine wpList_append_rd _ rfl _ _ 158 rfl w2.heap.size 223 i0 _ 3 56 Tryz.underlying158 hi hz0 hz1 hz2 rfl (by decide) (.slice A m c) m cs rfl (World.ownsRow.alloc HR16.out.own _) _ 1 [.int .i64 (j : Int), .slice oA on oc, .slice nA zs.length nc] rfl (Rd.one' _ _ _ rfl (by simp)) (by simp [Value.oneCell']) m1 (by omega) (by simp; omega) ?_); intro A17 c17 w17 hown2 hg2 hat2
           have HR17 := Lib.hid (HR16.out.app HCK.out H.out hg2 hown2 hat2)
           have hk17 : Kept (fun k => (Value.slice A m c).ownBlock = some k) wc w17 := ((Kept.refl (fun k => (Value.slice A m c).ownBlock = some k) wc).alloc _).grown hg2 (fun k _ e => e)
           have HX17 := Lib.hid (HX16.out.kept hk17 (fun e => by have := HGE.out _ e; omega))
           have HZO17 : Hid (OwnR w17 w5.heap.size (.slice nA zs.length nc) zs) := Lib.hid (own_kept HZO.out hk17 (fun k hk e => by have := (own_base HZO.out hk).1; have := HGE.out k e; omega))
           have HKZ17 : Hid (OwnR w17 wk (.slice A11 kz.length c11) kz) := Lib.hid (own_kept HKZ16.out hk17 (fun k hk e => by have := (own_base HKZ16.out hk).1; have := HGE.out k e; omega))
           have e60 : w17.cell? ⟨R, 0, none⟩ = some (.int .i64 ver) := HR17.out.b6.cell 0
           have e61 : w17.cell? ⟨R, 0 + 1, none⟩ = some (.slice (some ⟨g, o, none⟩) ts.length tcap) := HR17.out.b6.cell 1
           have e8 : w17.cell? ⟨R + 1, 0, none⟩ = some (.slice (some ⟨T, 0, none⟩) n cap) := HR17.out.b8.cell 0
           have eX0 : w17.cell? ⟨X, 0, none⟩ = some (.int .i64 (j : Int)) := HX17.out.cell 0
           have eX2 : w17.cell? ⟨X, 2, none⟩ = some (.slice nA zs.length nc) := HX17.out.cell 2
           clear hg2 hown2 hat2 hk17))
      refine (rput_any (orow (S4 S R T) (.slice A17 (m + 1) c17)) w17.heap.size _ _ _ ver ts T n cap tb j t rows kz zs w17 ((HR17.out.p HCK.out H.out).sch) (Nat.le_refl _) HT.out HR17.out.st HROWS.out hrl HRF.out (OwnR.rin HKZ17.out rfl) (OwnR.rin HZO17.out rfl) hzl (HR17.out.p HCK.out H.out).lt).mono ?_
      rintro e w18 ⟨rows', rfl, hst18, hl18, hm18, hk18⟩
      have HR19 := Lib.hid (HR17.out.put HCK.out H.out hst18 hk18 (HR17.out.ok.put (L' := L + (most - (q - 1))) HT.out HROWS.out hl18 hm18 (fun h => ⟨by have := HZN.out h; have := HXL.out; have := HLEN.out; omega, HZV.out⟩) (by omega)))
      have hb18 := HR17.out.b8.kept hk18 (fun e => by unfold Kone at e; have := HCK.out.tr; omega)
      have e8' : w18.cell? ⟨R + 1, 0, none⟩ = some (.slice (some ⟨T, 0, none⟩) n cap) := hb18.cell 0
      have f8' := hb18.frozen 0
      clear e60 e61 e8 eX0 eX2 hst18 hl18 hm18 hk18 hb18
      go_wp2_with fail
      exact ⟨⟨q - 1, _, A17, c17, m + 1, _, by omega, by congr 1; omega, rfl, by omega, HR19.out⟩, by simp only [intOf]; omega⟩
    · have hqI : ¬ (0 : Int) < (q : Int) := by omega
      have c8 : wr.cell? ⟨R + 1, 0, none⟩ = some (.slice (some ⟨T, 0, none⟩) n cap) := HR.out.b8.cell 0
      have c11 : wr.cell? ⟨R + 1 + 1, 0, none⟩ = some (.slice none 0 0) := HR.out.b11.cell 0
      have f11 := HR.out.b11.frozen 0
      have HD := Lib.hid (HR.out.done HCK.out H.out (.slice (some ⟨T, 0, none⟩) n cap))
      go_upto_region 18 with (fail)
      go_region
      go_wp2
      have hkd : Kept Kno (wr.setCell ⟨R + 1 + 1, 0, none⟩ (.slice (some ⟨T, 0, none⟩) n cap)) (wr.setCell ⟨R + 1 + 1, 0, none⟩ (.slice (some ⟨T, 0, none⟩) n cap)).drew := (Kept.refl _ _).drew
      refine bodyPost_ret (v := .tuple #[.slice A m c, .agg #[.slice (some ⟨T, 0, none⟩) n cap]]) ?_ rfl ⟨A, m, c, T, n, cap, tb, rfl, by have := HCK.out.tr; have := HCK.out.r; omega, HD.out.1.kept hkd (fun _ h => h.elim) (fun h => h.elim), HR.out.ok.mono (by omega), HD.out.2.then0 hkd⟩
      exact results_tmp_row rfl _ _ (R + 1 + 1) 100 #[.slice (some ⟨T, 0, none⟩) n cap] (0, 0) _ rfl rfl ((HR.out.b11.set_ 0 _).drew) Tryz.underlying100 rfl (by kernel_rfl)

end Go.Proofs.YtffdaohmalmkfaaGreat
