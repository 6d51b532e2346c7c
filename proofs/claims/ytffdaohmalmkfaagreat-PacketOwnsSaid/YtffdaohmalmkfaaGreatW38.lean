/-
  PacketOwns: the reference's Difference. (Printed by gen_pakpq.py.)
-/
import Derived.Test.YtffdaohmalmkfaaGreatW37
import Derived.Deep.CutBlock
set_option linter.unusedSimpArgs false
set_option linter.unusedVariables false
namespace Go.Proofs.YtffdaohmalmkfaaGreat
open Go.RowKit
set_option linter.unusedVariables false

/-- A change: a table's number, the rows. -/
structure Chg where
  tab : Nat
  ox : List Val
  nx : List Val
def ChgQ (w : World) (B : Nat) (x : Chg) (cs : List Value) : Prop := ∃ a b, cs = [.int .i64 x.tab, a, b] ∧ RIn w B a x.ox ∧ RIn w B b x.nx
theorem clo_chg : Clo ChgQ := ⟨fun ho hB ⟨a, b, e, h1, h2⟩ => ⟨a, b, e, h1.old ho hB, h2.old ho hB⟩, fun hc ⟨a, b, e, h1, h2⟩ => ⟨a, b, e, SlIn.sub0 hc h1, SlIn.sub0 hc h2⟩⟩
def ChgOk (ts : List Tbl) (x : Chg) : Prop := ∃ t, ts[x.tab]? = some t ∧ (x.ox = [] ∨ RowFit t x.ox) ∧ (x.nx = [] ∨ RowFit t x.nx) ∧ (x.ox ≠ [] ∨ x.nx ≠ [])
/-- What Difference returns. -/
def DiffOk (ts : List Tbl) (w : World) (e : Ending) (w' : World) : Prop :=
  ∃ (A : Option Addr) (c : Nat) (k : Int) (chs : List Chg), e = .returned (.tuple #[.slice A chs.length c, .int .i64 k]) ∧ LyIn w'.heap.size (.slice A chs.length c) chs.length (AtL w' 3 (ChgQ w' w'.heap.size) chs) ∧ (∀ x ∈ chs, ChgOk ts x) ∧ chs.length ≤ 10000 ∧ Kept Kno w w'
def sliceLen : Value → Nat
  | .slice _ n _ => n
  | _ => 0
theorem RIn.keepS {S : Nat → Bool} {R : Nat → Prop} {w w' : World} {v : Value} {xs : List Val} (h : RIn (erase S w) w.heap.size v xs) (hk : Kept R w w') (hR : ∀ k, R k → S k = true) : RIn (erase S w') w'.heap.size v xs :=
  RIn.old h ((erase_kept hk hR (fun _ _ => rfl)).old (B := w.heap.size) (by rw [erase_size]; exact Nat.le_refl _) (fun _ _ h => h)) hk.size
theorem RowsIn.tail {w : World} {B : Nat} {A : Option Addr} {n cap : Nat} {r : List Val} {rows : List (List Val)} (h : RowsIn w B (.slice A n cap) (r :: rows)) : ∃ g o, A = some ⟨g, o, none⟩ ∧ RowsIn w B (.slice (if cap = 1 then some ⟨g, o, none⟩ else some ⟨g, o + 1, none⟩) rows.length (cap - 1)) rows := by
  obtain ⟨A', cap', he, h3, h4, h5, h6, h7⟩ := h
  simp only [Value.slice.injEq] at he
  obtain ⟨rfl, rfl, rfl⟩ := he
  obtain ⟨g, o, rfl, hg, hc⟩ := h7 (by simp)
  have h3' : rows.length + 1 ≤ cap := by simpa using h3
  refine ⟨g, o, rfl, _, cap - 1, rfl, by omega, by omega, (fun h => by split at h <;> cases h), (fun k hk => ?_), fun h0 => ?_⟩
  · split at hk
    · simp only [Value.ownBlock, Option.some.injEq] at hk
      subst hk
      exact hg
    · simp only [Value.ownBlock, Option.some.injEq] at hk
      subst hk
      exact hg
  · rw [if_neg (by omega)]
    refine ⟨g, o + 1, rfl, hg, ?_⟩
    have := hc.drop 1
    simpa using this

def DRel (ts : List Tbl) (M base : Nat) (w : World) (out i : Value) (wr : World) : Prop :=
  ∃ (k : Nat) (A : Option Addr) (c : Nat) (qs : List (Chg × List Value)), k ≤ ts.length ∧ i = .int .i64 k ∧ out = .slice A qs.length c ∧ LOut ChgQ 223 3 S0 base wr A c qs ∧ (∀ q ∈ qs, ChgOk ts q.1) ∧ qs.length ≤ M * k ∧ Kept Kno w wr
def DRel2 (ts : List Tbl) (t : Tbl) (M k base B : Nat) (w : World) (out x y : Value) (wr : World) : Prop :=
  ∃ (A : Option Addr) (c : Nat) (qs : List (Chg × List Value)) (xs ys : List (List Val)), out = .slice A qs.length c ∧ LOut ChgQ 223 3 S0 base wr A c qs ∧ (∀ q ∈ qs, ChgOk ts q.1) ∧ RowsIn wr B x xs ∧ RowsIn wr B y ys ∧ (∀ r ∈ xs, RowFit t r) ∧ (∀ r ∈ ys, RowFit t r) ∧ qs.length + xs.length + ys.length ≤ M * (k + 1) ∧ Kept Kno w wr

set_option maxRecDepth 100000 in
set_option maxHeartbeats 3000000 in
theorem diff_any (B : Nat) (sv av bv : Value) (ver : Int) (ts : List Tbl) (ta tb : List (List (List Val))) (L : Nat) (w : World) (h : SchIn w B ver ts sv) (ha : StR w B av ta) (hb : StR w B bv tb) (hB : B ≤ w.heap.size) (hts : 0 < ts.length) (hoa : TabsOk ts L ta) (hob : TabsOk ts L tb) (hL : L ≤ 1000) :
    Calls Tryz.prog 127 #[sv, .int .i64 3, av, bv] w (DiffOk ts w) := by
  obtain ⟨i0, hi, hz0, hz1, hz2⟩ := info_parts info_chg
  obtain ⟨t0, ht0⟩ : ∃ t, ts[0]? = some t := ⟨_, List.getElem?_eq_getElem hts⟩
  obtain ⟨g, o, cap, -, rfl, hcap, hmax, hgB, -, -⟩ := h.tbl ht0
  have h4 : ts.length ≤ 4 := by obtain ⟨_, _, _, h4, _⟩ := h; exact h4
  have hla := hoa.1
  have hlb := hob.1
  obtain ⟨r0, hr0⟩ : ∃ r, ta[0]? = some r := ⟨_, List.getElem?_eq_getElem (by omega)⟩
  obtain ⟨r1, hr1⟩ : ∃ r, tb[0]? = some r := ⟨_, List.getElem?_eq_getElem (by omega)⟩
  obtain ⟨ga, oa, ca, -, rfl, hca, hma, hgBa, -, -⟩ := ha.row hr0
  obtain ⟨gb, ob, cb, -, rfl, hcb, hmb, hgBb, -, -⟩ := hb.row hr1
  have HSCH := Lib.hid h
  have HA := Lib.hid ha
  have HBB := Lib.hid hb
  have HOA := Lib.hid hoa
  have HOB := Lib.hid hob
  have hmax' : cap ≤ 9223372036854775807 := by simpa only [maxLen] using hmax
  have hma' : ca ≤ 9223372036854775807 := by simpa only [maxLen] using hma
  have hmb' : cb ≤ 9223372036854775807 := by simpa only [maxLen] using hmb
  have HLA := Lib.hid hla
  have HLB := Lib.hid hlb
  have hta : ts.length ≤ ta.length := by omega
  have htb : ts.length ≤ tb.length := by omega
  clear h ha hb hoa hob ht0 hr0 hr1 hmax hma hmb hla hlb
  go_enter Tryz.func127, Tryz.ntmps127
  go_upto_region 1 with (fail)
  obtain ⟨w0, h0⟩ : ∃ w0, ((w.alloc (.cells #[.int .i64 ver, .slice (some ⟨g, o, none⟩) ts.length cap] 82)).alloc (.cells #[.slice (some ⟨ga, oa, none⟩) ta.length ca] 100)).alloc (.cells #[.slice (some ⟨gb, ob, none⟩) tb.length cb] 100) = w0 := ⟨_, rfl⟩
  have HK0 : Hid (Kept Kno w w0) := Lib.hid (by rw [← h0]; exact (((Kept.refl _ _).alloc _).alloc _).alloc _)
  have HB4 : Hid (Blk w0 w.heap.size 82 #[.int .i64 ver, .slice (some ⟨g, o, none⟩) ts.length cap]) := Lib.hid (by rw [← h0]; exact ((Blk.new _ _ _).alloc _).alloc _)
  have HB6 : Hid (Blk w0 (w.heap.size + 1) 100 #[.slice (some ⟨ga, oa, none⟩) ta.length ca]) := Lib.hid (by rw [← h0]; have := (Blk.new (w.alloc (.cells #[.int .i64 ver, .slice (some ⟨g, o, none⟩) ts.length cap] 82)) 100 #[.slice (some ⟨ga, oa, none⟩) ta.length ca]).alloc (.cells #[.slice (some ⟨gb, ob, none⟩) tb.length cb] 100); simpa using this)
  have HB7 : Hid (Blk w0 (w.heap.size + 1 + 1) 100 #[.slice (some ⟨gb, ob, none⟩) tb.length cb]) := Lib.hid (by rw [← h0]; have := Blk.new ((w.alloc (.cells #[.int .i64 ver, .slice (some ⟨g, o, none⟩) ts.length cap] 82)).alloc (.cells #[.slice (some ⟨ga, oa, none⟩) ta.length ca] 100)) 100 #[.slice (some ⟨gb, ob, none⟩) tb.length cb]; simpa using this)
  rw [h0]
  clear h0
  have HX : Hid (∀ (k : Int) (w' : World), Kept Kno w0 w' → DiffOk ts w (.returned (.tuple #[.slice none 0 0, .int .i64 k])) w') := Lib.hid (fun k w' hk => ⟨none, 0, k, [], rfl, LyIn.nil, by simp, by simp, HK0.out.then0 hk⟩)
  have b0 : w0.cell? ⟨w.heap.size, 0, none⟩ = some (.int .i64 ver) := HB4.out.cell 0
  have b1 : w0.cell? ⟨w.heap.size, 0 + 1, none⟩ = some (.slice (some ⟨g, o, none⟩) ts.length cap) := HB4.out.cell 1
  have b6 : w0.cell? ⟨w.heap.size + 1, 0, none⟩ = some (.slice (some ⟨ga, oa, none⟩) ta.length ca) := HB6.out.cell 0
  go_wp2_with fail
  refine (stcheck_any B _ _ ver ts ta L w0 (HSCH.out.keep0 hB HK0.out) (HA.out.keep0 hB HK0.out) (Nat.le_trans hB HK0.out.size) hts HOA.out hL).mono ?_
  rintro e w1 ⟨k1, rfl, hk1⟩
  have HK1 := Lib.hid hk1
  have d0 : w1.cell? ⟨w.heap.size, 0, none⟩ = some (.int .i64 ver) := (HB4.out.kept hk1 (fun h => h)).cell 0
  have d1 : w1.cell? ⟨w.heap.size, 0 + 1, none⟩ = some (.slice (some ⟨g, o, none⟩) ts.length cap) := (HB4.out.kept hk1 (fun h => h)).cell 1
  have d7 : w1.cell? ⟨w.heap.size + 1 + 1, 0, none⟩ = some (.slice (some ⟨gb, ob, none⟩) tb.length cb) := (HB7.out.kept hk1 (fun h => h)).cell 0
  clear hk1 b0 b1 b6
  by_cases hk10 : k1 = 0
  rotate_left
  · have hkb : (k1 != 0) = true := by rw [bne_iff_ne]; exact hk10
    go_wp2
    go_ret2
    exact HX.out _ _ HK1.out
  subst hk10
  go_wp2_with fail
  refine (stcheck_any B _ _ ver ts tb L w1 (HSCH.out.keep0 hB (HK0.out.then0 HK1.out)) (HBB.out.keep0 hB (HK0.out.then0 HK1.out)) (Nat.le_trans hB (HK0.out.then0 HK1.out).size) hts HOB.out hL).mono ?_
  rintro e w2 ⟨k2, rfl, hk2⟩
  have HK2 := Lib.hid (HK1.out.then0 hk2)
  clear hk2 d0 d1 d7
  by_cases hk20 : k2 = 0
  rotate_left
  · have hkb : (k2 != 0) = true := by rw [bne_iff_ne]; exact hk20
    go_wp2
    go_ret2
    exact HX.out _ _ HK2.out
  subst hk20
  have e1 : w2.cell? ⟨w.heap.size, 1, none⟩ = some (.slice (some ⟨g, o, none⟩) ts.length cap) := (HB4.out.kept HK2.out (fun h => h)).cell 1
  go_upto_region 9 with (fail)
  clear e1
  go_loopw [12, 35] (fun x i wr => DRel ts 2000 w0.heap.size w0 x i wr) (fun _ i _ => ts.length - (intOf i).toNat)
  case atStart => exact ⟨0, none, 0, [], Nat.zero_le _, rfl, rfl, LOut.nil, by simp, Nat.zero_le _, HK2.out⟩
  case round =>
    obtain ⟨k, A, c, qs, hk, rfl, rfl, hlo, hqo, hql, hkr⟩ := hrel
    have HLO := Lib.hid hlo
    have HQO := Lib.hid hqo
    have HKR := Lib.hid hkr
    have hk0 : (0 : Int) ≤ (k : Int) := by omega
    clear hlo hqo hkr
    by_cases hlt : k < ts.length
    · have hltI : (k : Int) < (ts.length : Int) := by omega
      have hltA : (k : Int) < (ta.length : Int) := by omega
      have hltB : (k : Int) < (tb.length : Int) := by omega
      have hkw := HK0.out.then0 HKR.out
      obtain ⟨ra, hra⟩ : ∃ r, ta[k]? = some r := ⟨_, List.getElem?_eq_getElem (by omega)⟩
      obtain ⟨rb, hrb⟩ : ∃ r, tb[k]? = some r := ⟨_, List.getElem?_eq_getElem (by omega)⟩
      obtain ⟨ga', oa', ca', sa, he, -, -, -, ca0, hrows⟩ := (HA.out.keep0 hB hkw).row hra
      simp only [Value.agg.injEq, Array.mk.injEq, List.cons.injEq, Value.slice.injEq, Option.some.injEq, Addr.mk.injEq, and_true, true_and] at he
      obtain ⟨⟨rfl, rfl⟩, rfl⟩ := he
      obtain ⟨gb', ob', cb', sb, he, -, -, -, cb0, hrowsb⟩ := (HBB.out.keep0 hB hkw).row hrb
      simp only [Value.agg.injEq, Array.mk.injEq, List.cons.injEq, Value.slice.injEq, Option.some.injEq, Addr.mk.injEq, and_true, true_and] at he
      obtain ⟨⟨rfl, rfl⟩, rfl⟩ := he
      obtain ⟨t, ht, hrl, hrf⟩ := HOA.out.row hra
      obtain ⟨t', ht', hrl', hrf'⟩ := HOB.out.row hrb
      rw [ht] at ht'
      cases ht'
      have HT := Lib.hid ht
      have HRA := Lib.hid hrows
      have HRB := Lib.hid hrowsb
      have HFA := Lib.hid hrf
      have HFB := Lib.hid hrf'
      have b6 : wr.cell? ⟨w.heap.size + 1, 0, none⟩ = some (.slice (some ⟨ga, oa, none⟩) ta.length ca) := (HB6.out.kept HKR.out (fun h => h)).cell 0
      have b7 : wr.cell? ⟨w.heap.size + 1 + 1, 0, none⟩ = some (.slice (some ⟨gb, ob, none⟩) tb.length cb) := (HB7.out.kept HKR.out (fun h => h)).cell 0
      have hltAN : k < ta.length := by omega
      have hltBN : k < tb.length := by omega
      clear hra hrb hrows hrowsb hrf hrf' ht hkw
      go_upto_region 11 with (fail)
      go_wp2_with fail
      go_quiet (fail)
      clear ca0 cb0 b6 b7
      go_wp2_with fail
      go_loopw [12, 14, 15] (fun out x y wr => DRel2 ts t 2000 k w0.heap.size B w0 out x y wr) (fun _ x y _ => sliceLen x + sliceLen y)
      case atStart => exact ⟨A, c, qs, ra, rb, rfl, HLO.out.keep0 clo_chg ((Kept.refl _ _).drewN _), HQO.out, HRA.out.keep0 (Nat.le_trans hB (HK0.out.then0 HKR.out).size) ((Kept.refl _ _).drewN _), HRB.out.keep0 (Nat.le_trans hB (HK0.out.then0 HKR.out).size) ((Kept.refl _ _).drewN _), HFA.out, HFB.out, by omega, HKR.out.drewN _⟩
      case round =>
        clear HLO HQO HKR HRA HRB HFA HFB
        obtain ⟨A, c, qs, xs, ys, rfl, hlo, hqo, hxs, hys, hfx, hfy, hql, hkr⟩ := hrel
        have HLO := Lib.hid hlo
        have HQO := Lib.hid hqo
        have HKR := Lib.hid hkr
        have HXS := Lib.hid hxs
        have HYS := Lib.hid hys
        have HFX := Lib.hid hfx
        have HFY := Lib.hid hfy
        have HKWR := Lib.hid (HK0.out.then0 HKR.out)
        have HBWR : Hid (B ≤ wr.heap.size) := Lib.hid (Nat.le_trans hB HKWR.out.size)
        by_cases hem : xs = [] ∧ ys = []
        · obtain ⟨rfl, rfl⟩ := hem
          obtain ⟨xA, xc, rfl⟩ := LyIn.form hxs
          obtain ⟨yA, yc, rfl⟩ := LyIn.form hys
          clear hlo hqo hkr hxs hys hfx hfy
          go_wp2
          exact ⟨⟨k + 1, A, c, qs, hlt, by go_num, rfl, HLO.out, HQO.out, by simpa using hql, HKR.out⟩, by simp only [intOf]; omega⟩
        obtain ⟨xA, xc, rfl⟩ := LyIn.form hxs
        obtain ⟨yA, yc, rfl⟩ := LyIn.form hys
        clear hlo hqo hkr hxs hys hfx hfy
        have hnI : 0 < xs.length ∨ 0 < ys.length := by
          rcases Nat.eq_zero_or_pos xs.length with h | h
          · rcases Nat.eq_zero_or_pos ys.length with h2 | h2
            · exact absurd ⟨List.length_eq_zero_iff.1 h, List.length_eq_zero_iff.1 h2⟩ hem
            · exact .inr h2
          · exact .inl h
        clear hem
        obtain ⟨nx, hnx⟩ : ∃ n, xs.length = n := ⟨_, rfl⟩
        obtain ⟨ny, hny⟩ : ∃ n, ys.length = n := ⟨_, rfl⟩
        rw [hnx] at HXS hnI ⊢
        rw [hny] at HYS hnI ⊢
        have HNX := Lib.hid hnx
        have HNY := Lib.hid hny
        clear hnx hny
        go_upto_region 12 with (fail)
        go_cut [55] (fun s wx => s = .bool true ∧ wx = wr)
        case first =>
          by_cases hx0 : 0 < nx
          · have hx0I : (0 : Int) < (nx : Int) := by omega
            go_wp2
            go_meet
            exact ⟨rfl, rfl⟩
          · have hx0I : ¬ (0 : Int) < (nx : Int) := by omega
            have hy0I : (0 : Int) < (ny : Int) := by omega
            go_wp2
            go_meet
            exact ⟨by first | rfl | (simp; omega), rfl⟩
        case rest =>
        obtain ⟨rfl, rfl⟩ := hcut
        obtain ⟨wr, hwr⟩ : ∃ x, x = wc := ⟨_, rfl⟩
        subst hwr
        go_upto_block 4 with (fail)
        go_cut [16] (fun s wx => ∃ c : Int, s = .int .i64 c ∧ (c ≤ 0 → 0 < nx) ∧ (0 ≤ c → 0 < ny) ∧ Kept Kno wr wx)
        case first =>
          by_cases hy0 : ny = 0
          · have hy0b : ((ny : Int) == 0) = true := by rw [beq_iff_eq]; omega
            go_wp2
            go_meet
            exact ⟨-1, rfl, (fun _ => by omega), (fun h => absurd h (by decide)), Kept.refl _ _⟩
          have hy0b : ((ny : Int) == 0) = false := by rw [beq_eq_false_iff_ne]; omega
          by_cases hx0 : nx = 0
          · have hx0b : ((nx : Int) == 0) = true := by rw [beq_iff_eq]; omega
            go_wp2
            go_meet
            exact ⟨1, rfl, (fun h => absurd h (by decide)), (fun _ => by omega), Kept.refl _ _⟩
          have hx0b : ((nx : Int) == 0) = false := by rw [beq_eq_false_iff_ne]; omega
          obtain ⟨px, hpx⟩ : ∃ r, xs[0]? = some r := ⟨_, List.getElem?_eq_getElem (by have := HNX.out; omega)⟩
          obtain ⟨py, hpy⟩ : ∃ r, ys[0]? = some r := ⟨_, List.getElem?_eq_getElem (by have := HNY.out; omega)⟩
          obtain ⟨gx, ox0, xc', pv, he, -, hxm, hgx, cx0, hpxi⟩ := HXS.out.row hpx
          simp only [Value.slice.injEq] at he
          obtain ⟨rfl, -, rfl⟩ := he
          obtain ⟨gy, oy0, yc', qv, he, -, hym, hgy, cy0, hpyi⟩ := HYS.out.row hpy
          simp only [Value.slice.injEq] at he
          obtain ⟨rfl, -, rfl⟩ := he
          rw [Nat.add_zero] at cx0 cy0
          obtain ⟨pA, pc, rfl⟩ : ∃ A c, pv = .slice A px.length c := SlIn.form hpxi
          obtain ⟨qA, qc, rfl⟩ : ∃ A c, qv = .slice A py.length c := SlIn.form hpyi
          have hfpx := HFX.out px (List.mem_of_getElem? hpx)
          have hfpy := HFY.out py (List.mem_of_getElem? hpy)
          have CXR := Lib.hid cx0
          have CYR := Lib.hid cy0
          obtain ⟨_, _, _, _, -, -, -, -, hTI, -⟩ := HSCH.out.tbl HT.out
          obtain ⟨-, -, h8, hk1, hk2, -, -⟩ := hTI
          obtain ⟨kn, hkn⟩ : ∃ kn : Nat, t.key = kn := ⟨t.key.toNat, by omega⟩
          have hKA : ∀ wx, Kept Kno wr wx → Calls Tryz.prog 75 #[.agg #[.int .i64 ver, .slice (some ⟨g, o, none⟩) ts.length cap], .int .i64 (k : Int), .slice pA px.length pc] wx (RowOk (px.take kn) wx) := fun wx hk => key_any B (.agg #[.int .i64 ver, .slice (some ⟨g, o, none⟩) ts.length cap]) (.slice pA px.length pc) ver ts wx (HSCH.out.keep0 hB (HKWR.out.then0 hk)) (Nat.le_trans HBWR.out hk.size) k t HT.out px (RIn.keep0 hpxi HBWR.out hk) kn hkn (by have := hfpx.1; omega) (by have := hfpx.1; omega)
          have hKB : ∀ wx, Kept Kno wr wx → Calls Tryz.prog 75 #[.agg #[.int .i64 ver, .slice (some ⟨g, o, none⟩) ts.length cap], .int .i64 (k : Int), .slice qA py.length qc] wx (RowOk (py.take kn) wx) := fun wx hk => key_any B (.agg #[.int .i64 ver, .slice (some ⟨g, o, none⟩) ts.length cap]) (.slice qA py.length qc) ver ts wx (HSCH.out.keep0 hB (HKWR.out.then0 hk)) (Nat.le_trans HBWR.out hk.size) k t HT.out py (RIn.keep0 hpyi HBWR.out hk) kn hkn (by have := hfpy.1; omega) (by have := hfpy.1; omega)
          generalize px.take kn = kp at hKA
          generalize py.take kn = kq at hKB
          have HKA := Lib.hid hKA
          have HKB := Lib.hid hKB
          have hxl0 : (0 : Int) < (nx : Int) := by omega
          have hyl0 : (0 : Int) < (ny : Int) := by omega
          have hxl0N : 0 < nx := by omega
          have hyl0N : 0 < ny := by omega
          clear hKA hKB cx0 cy0 hpxi hpyi hfpx hfpy hkn hk1 hk2 h8 hpx hpy
          go_upto_region 14 with (fail)
          refine wp_region_held_drew (S := fun w' => Blk w' w.heap.size 82 #[.int .i64 ver, .slice (some ⟨g, o, none⟩) ts.length cap] ∧ w'.cell? ⟨gx, ox0, none⟩ = some (.slice pA px.length pc) ∧ w'.cell? ⟨gy, oy0, none⟩ = some (.slice qA py.length qc)) (by kernel_rfl) ⟨(HB4.out.kept HKR.out (fun h => h)).drew, CXR.out, CYR.out⟩ (fun hHeld => ?_)
          refine wpAnyH_takeE (i := 0) (v := .agg ([.int .i64 ver, .slice (some ⟨g, o, none⟩) ts.length cap]).toArray) rfl rfl (by kernel_rfl) (by kernel_rfl) (by kernel_rfl) (fun _ _ _ h => h) (yieldsIf_load_atE (by rfl) 82 _ rfl (w.heap.size) (0) rfl ([.int .i64 ver, .slice (some ⟨g, o, none⟩) ts.length cap]) _ (fun w1 hw => CellsAt.blk hw.1) Tryz.underlying82 rfl (by kernel_rfl)) (by assumption) ?_
          (try simp only [Act.put, List.setIfInBounds_toArray, List.set_cons_zero, List.set_cons_succ])
          refine wpAnyH_takeE (i := 1) (v := .int .i64 (k : Int)) rfl rfl (by kernel_rfl) (by kernel_rfl) (by kernel_rfl) (fun _ _ _ h => h) (Or.inl ⟨by rfl, fun w1 hw => by go_simp⟩) (by assumption) ?_
          (try simp only [Act.put, List.setIfInBounds_toArray, List.set_cons_zero, List.set_cons_succ])
          refine wpAnyH_takeE (i := 2) (v := .slice (some ⟨gx, ox0, none⟩) nx xc) rfl rfl (by kernel_rfl) (by kernel_rfl) (by kernel_rfl) (fun _ _ _ h => h) (Or.inl ⟨by rfl, fun w1 hw => by go_simp⟩) (by assumption) ?_
          (try simp only [Act.put, List.setIfInBounds_toArray, List.set_cons_zero, List.set_cons_succ])
          refine wpAnyH_takeE (i := 3) (v := .pointer (some ⟨gx, ox0, none⟩)) rfl rfl (by kernel_rfl) (by kernel_rfl) (by kernel_rfl) (fun _ _ _ h => h) (Or.inl ⟨by rfl, fun w1 hw => by go_simp⟩) (by assumption) ?_
          (try simp only [Act.put, List.setIfInBounds_toArray, List.set_cons_zero, List.set_cons_succ])
          refine wpAnyH_takeE (i := 4) (v := .slice pA px.length pc) rfl rfl (by kernel_rfl) (by kernel_rfl) (by kernel_rfl) (fun _ _ _ h => h) (Or.inl ⟨by rfl, fun w1 hw => by have c1 := hw.2.1; clear hw; go_simp⟩) (by assumption) ?_
          (try simp only [Act.put, List.setIfInBounds_toArray, List.set_cons_zero, List.set_cons_succ])
          refine wpAnyH_takeE (i := 6) (v := .agg ([.int .i64 ver, .slice (some ⟨g, o, none⟩) ts.length cap]).toArray) rfl rfl (by kernel_rfl) (by kernel_rfl) (by kernel_rfl) (fun _ _ _ h => h) (yieldsIf_load_atE (by rfl) 82 _ rfl (w.heap.size) (0) rfl ([.int .i64 ver, .slice (some ⟨g, o, none⟩) ts.length cap]) _ (fun w1 hw => CellsAt.blk hw.1) Tryz.underlying82 rfl (by kernel_rfl)) (by assumption) ?_
          (try simp only [Act.put, List.setIfInBounds_toArray, List.set_cons_zero, List.set_cons_succ])
          refine wpAnyH_takeE (i := 7) (v := .int .i64 (k : Int)) rfl rfl (by kernel_rfl) (by kernel_rfl) (by kernel_rfl) (fun _ _ _ h => h) (Or.inl ⟨by rfl, fun w1 hw => by go_simp⟩) (by assumption) ?_
          (try simp only [Act.put, List.setIfInBounds_toArray, List.set_cons_zero, List.set_cons_succ])
          refine wpAnyH_takeE (i := 8) (v := .slice (some ⟨gy, oy0, none⟩) ny yc) rfl rfl (by kernel_rfl) (by kernel_rfl) (by kernel_rfl) (fun _ _ _ h => h) (Or.inl ⟨by rfl, fun w1 hw => by go_simp⟩) (by assumption) ?_
          (try simp only [Act.put, List.setIfInBounds_toArray, List.set_cons_zero, List.set_cons_succ])
          refine wpAnyH_takeE (i := 9) (v := .pointer (some ⟨gy, oy0, none⟩)) rfl rfl (by kernel_rfl) (by kernel_rfl) (by kernel_rfl) (fun _ _ _ h => h) (Or.inl ⟨by rfl, fun w1 hw => by go_simp⟩) (by assumption) ?_
          (try simp only [Act.put, List.setIfInBounds_toArray, List.set_cons_zero, List.set_cons_succ])
          refine wpAnyH_takeE (i := 10) (v := .slice qA py.length qc) rfl rfl (by kernel_rfl) (by kernel_rfl) (by kernel_rfl) (fun _ _ _ h => h) (Or.inl ⟨by rfl, fun w1 hw => by have c1 := hw.2.2; clear hw; go_simp⟩) (by assumption) ?_
          (try simp only [Act.put, List.setIfInBounds_toArray, List.set_cons_zero, List.set_cons_succ])
          refine wpAnyH_ready (rs := [5]) (by kernel_rfl) (by simp) ?_
          refine AllReadyH.cons rfl (fun K' hK => ?_) (AllReadyH.nil)
          go_simp
          go_at_call 75
          refine (HKA.out wr.drew ((Kept.refl _ _).drew)).mono ?_
          rintro e w6 ⟨A6, c6, rfl, ho6, hk6⟩
          have HK6 : Hid (Kept Kno wr w6) := Lib.hid ((Kept.refl _ _).drew.then0 hk6)
          have HO6 := Lib.hid ho6
          clear ho6 hk6 HKA
          go_wp2_with fail
          refine hK.out _ _ ?_ (fun hHeld => ?_)
          · exact ⟨HB4.out.kept (HKR.out.then0 HK6.out) (fun h => h), HK6.out.cell_some CXR.out (fun h => h), HK6.out.cell_some CYR.out (fun h => h)⟩
          clear hK K'
          (try simp only [Act.put, List.setIfInBounds_toArray, List.set_cons_zero, List.set_cons_succ])
          refine wpAnyH_ready (rs := [11]) (by kernel_rfl) (by simp) ?_
          refine AllReadyH.cons rfl (fun K' hK => ?_) (AllReadyH.nil)
          go_simp
          go_at_call 75
          refine (HKB.out w6 HK6.out).mono ?_
          rintro e w7 ⟨A7, c7, rfl, ho7, hk7⟩
          have HK7 : Hid (Kept Kno wr w7) := Lib.hid (HK6.out.then0 hk7)
          have HO7 := Lib.hid (OwnR.rin ho7 rfl)
          have HO67 : Hid (RIn w7 w7.heap.size (.slice A6 kp.length c6) kp) := Lib.hid ((OwnR.rin HO6.out rfl).old (hk7.old (Nat.le_refl _) (fun _ _ h => h)) hk7.size)
          clear ho7 hk7 HKB HO6
          go_wp2_with fail
          refine hK.out _ _ ?_ (fun hHeld => ?_)
          · exact ⟨HB4.out.kept (HKR.out.then0 HK7.out) (fun h => h), HK7.out.cell_some CXR.out (fun h => h), HK7.out.cell_some CYR.out (fun h => h)⟩
          clear hK K'
          (try simp only [Act.put, List.setIfInBounds_toArray, List.set_cons_zero, List.set_cons_succ])
          refine wpAnyH_ready (rs := [12]) (by kernel_rfl) (by simp) ?_
          refine AllReadyH.cons rfl (fun K' hK => ?_) (AllReadyH.nil)
          go_simp
          go_at_call 58
          refine (crows_any w7.heap.size _ _ kp kq w7 HO67.out HO7.out (Nat.le_refl _)).mono ?_
          rintro e w8 ⟨cr, rfl, hk8⟩
          have HK8 : Hid (Kept Kno wr w8) := Lib.hid (HK7.out.then0 hk8)
          clear hk8
          go_wp2_with fail
          refine hK.out _ _ ?_ (fun hHeld => ?_)
          · exact ⟨HB4.out.kept (HKR.out.then0 HK8.out) (fun h => h), HK8.out.cell_some CXR.out (fun h => h), HK8.out.cell_some CYR.out (fun h => h)⟩
          clear hK K'
          (try simp only [Act.put, List.setIfInBounds_toArray, List.set_cons_zero, List.set_cons_succ])
          refine wpAnyH_ready (rs := [13]) (by kernel_rfl) (by simp) ?_
          refine AllReadyH.cons rfl (fun K' hK => ?_) (AllReadyH.nil)
          go_simp
          refine hK.out _ _ ?_ (fun hHeld => ?_)
          · exact ⟨HB4.out.kept (HKR.out.then0 HK8.out) (fun h => h), HK8.out.cell_some CXR.out (fun h => h), HK8.out.cell_some CYR.out (fun h => h)⟩
          clear hK K'
          refine wpAnyH_done (by kernel_rfl) ?_ _
          clear hHeld
          go_wp2_with fail
          go_meet
          exact ⟨cr, rfl, (fun _ => hxl0N), (fun _ => hyl0N), HK8.out⟩
        case rest =>
        obtain ⟨cr, rfl, hcx, hcy, hkc⟩ := hcut
        have HT8 : Hid (t.cols.length ≤ 8 ∧ 1 ≤ t.cols.length) := Lib.hid (by
          obtain ⟨_, _, _, _, -, -, -, -, hTI, -⟩ := HSCH.out.tbl HT.out
          obtain ⟨-, -, h8, hk1, hk2, -, -⟩ := hTI
          omega)
        have HKC := Lib.hid hkc
        clear hkc
        go_upto_region 20 with (fail)
        obtain ⟨w3, hw3⟩ : ∃ w3, wc.alloc (.cells #[.int .i64 (k : Int), .slice none 0 0, .slice none 0 0] 223) = w3 := ⟨_, rfl⟩
        obtain ⟨X, hX⟩ : ∃ X, wc.heap.size = X := ⟨_, rfl⟩
        have HKP : Hid (Kept Kno wr w3) := Lib.hid (HKC.out.then0 (by rw [← hw3]; exact (Kept.refl _ _).alloc _))
        have HBX : Hid (Blk w3 X 223 #[.int .i64 (k : Int), .slice none 0 0, .slice none 0 0]) := Lib.hid (by rw [← hw3, ← hX]; exact Blk.new _ _ _)
        have hXwr : wr.heap.size ≤ X := by rw [← hX]; exact HKC.out.size
        rw [hw3, hX]
        clear hw3 hX HKC
        go_upto_if 80 with (fail)
        go_cut [14] (fun s wx => ∃ (zs : List (List Val)) (zA : Option Addr) (zc nz : Nat) (zv : Value) (zr : List Val), s = .slice zA nz zc ∧ Hid (zs.length = nz) ∧ (∀ wx', Kept Kno wr wx' → RowsIn wx' B (.slice zA nz zc) zs) ∧ (∀ r ∈ zs, RowFit t r) ∧ Blk wx X 223 #[.int .i64 (k : Int), zv, .slice none 0 0] ∧ RIn (erase (more (orow S0 (.slice A qs.length c)) X) wx) wx.heap.size zv zr ∧ Kept Kno wr wx ∧ ((cr ≤ 0 ∧ RowFit t zr ∧ nz + 1 = nx) ∨ (¬ cr ≤ 0 ∧ zr = [] ∧ nz = nx)))
        case first =>
          obtain ⟨wp, hwp⟩ : ∃ x, x = w3 := ⟨_, rfl⟩
          subst hwp
          by_cases hcc : cr ≤ 0
          · obtain ⟨px, rs, rfl⟩ : ∃ a l, xs = a :: l := by
              cases hl : xs with
              | nil => have h1 := HNX.out; rw [hl] at h1; have := hcx hcc; simp at h1; omega
              | cons a l => exact ⟨a, l, rfl⟩
            obtain ⟨nz, hnz⟩ : ∃ n, rs.length = n := ⟨_, rfl⟩
            have hn1 : nx = nz + 1 := by have := HNX.out; simp at this; omega
            subst hn1
            have hrows := HXS.out.keep0 HBWR.out HKP.out
            obtain ⟨gz, oz, hzA, htail⟩ := hrows.tail
            subst hzA
            obtain ⟨zA', hzA'⟩ : ∃ a, (if xc = 1 then some (⟨gz, oz, none⟩ : Addr) else some ⟨gz, oz + 1, none⟩) = a := ⟨_, rfl⟩
            rw [hzA'] at htail
            have HZA := Lib.hid hzA'
            clear hzA'
            obtain ⟨gz', oz', zc', pv, he, -, hzm, hgz, cz0, hpi⟩ := hrows.row (j := 0) (r := px) rfl
            simp only [Value.slice.injEq, Option.some.injEq, Addr.mk.injEq, and_true] at he
            obtain ⟨⟨rfl, rfl⟩, -, rfl⟩ := he
            rw [Nat.add_zero] at cz0
            obtain ⟨pA, pc, rfl⟩ : ∃ A c, pv = .slice A px.length c := SlIn.form hpi
            have hfp := HFX.out px (by simp)
            have CZ := Lib.hid cz0
            have HCP := Lib.hid (rcopy_any B _ px wp.drew (hpi.keep0 (Nat.le_trans HBWR.out HKP.out.size) ((Kept.refl _ _).drew)) (by have := hfp.1; have := HT8.out; omega))
            have HTL := Lib.hid htail
            have HPI := Lib.hid hfp
            have HNZ := Lib.hid hnz
            have hgzX : gz ≠ X := by have := HBWR.out; omega
            have hzc1N : 1 ≤ xc := by
              obtain ⟨_, _, he, h2, -⟩ := hrows
              simp only [Value.slice.injEq] at he
              omega
            have hzc1 : (1 : Int) ≤ (xc : Int) := by omega
            have hnz1 : (1 : Int) ≤ (nz : Int) + 1 := by omega
            have hzcm : xc ≤ 9223372036854775807 := by simpa only [maxLen] using hzm
            clear hrows htail cz0 hpi hfp hnz hzm
            go_upto_region 21 with (fail)
            refine wp_region_held_drew (S := fun w' => w'.cell? ⟨gz, oz, none⟩ = some (.slice pA px.length pc)) (by kernel_rfl) CZ.out (fun hHeld => ?_)
            refine wpAnyH_takeE (i := 0) (v := .slice (some ⟨gz, oz, none⟩) (nz + 1) xc) rfl rfl (by kernel_rfl) (by kernel_rfl) (by kernel_rfl) (fun _ _ _ h => h) (Or.inl ⟨by rfl, fun w1 hw => by go_simp⟩) (by assumption) ?_
            (try simp only [Act.put, List.setIfInBounds_toArray, List.set_cons_zero, List.set_cons_succ])
            refine wpAnyH_takeE (i := 1) (v := .pointer (some ⟨gz, oz, none⟩)) rfl rfl (by kernel_rfl) (by kernel_rfl) (by kernel_rfl) (fun _ _ _ h => h) (Or.inl ⟨by rfl, fun w1 hw => by go_simp⟩) (by assumption) ?_
            (try simp only [Act.put, List.setIfInBounds_toArray, List.set_cons_zero, List.set_cons_succ])
            refine wpAnyH_takeE (i := 2) (v := .slice pA px.length pc) rfl rfl (by kernel_rfl) (by kernel_rfl) (by kernel_rfl) (fun _ _ _ h => h) (Or.inl ⟨by rfl, fun w1 hw => by have c1 := hw; clear hw; go_simp⟩) (by assumption) ?_
            (try simp only [Act.put, List.setIfInBounds_toArray, List.set_cons_zero, List.set_cons_succ])
            refine wpAnyH_takeE (i := 4) (v := .slice (some ⟨gz, oz, none⟩) (nz + 1) xc) rfl rfl (by kernel_rfl) (by kernel_rfl) (by kernel_rfl) (fun _ _ _ h => h) (Or.inl ⟨by rfl, fun w1 hw => by go_simp⟩) (by assumption) ?_
            (try simp only [Act.put, List.setIfInBounds_toArray, List.set_cons_zero, List.set_cons_succ])
            refine wpAnyH_takeE (i := 5) (v := .slice zA' nz (xc - 1)) rfl rfl (by kernel_rfl) (by kernel_rfl) (by kernel_rfl) (fun _ _ _ h => h) (Or.inl ⟨by rfl, fun w1 hw => by rw [← HZA.out]; go_simp⟩) (by assumption) ?_
            (try simp only [Act.put, List.setIfInBounds_toArray, List.set_cons_zero, List.set_cons_succ])
            refine wpAnyH_ready (rs := [3]) (by kernel_rfl) (by simp) ?_
            refine AllReadyH.cons rfl (fun K' hK => ?_) (AllReadyH.nil)
            go_simp
            go_at_call 128
            refine (HCP.out).mono ?_
            rintro e w6 ⟨A6, c6, rfl, ho6, hk6⟩
            have hk46 : Kept Kno wp w6 := (Kept.refl _ _).drew.then0 hk6
            have HK46 := Lib.hid hk46
            have HBX6 := Lib.hid (HBX.out.kept hk46 (fun h => h))
            have HO6 := Lib.hid ho6
            have cX := HBX6.out.cell 1
            have fX := HBX6.out.frozen 1
            simp only [List.getElem?_toArray, List.getElem?_cons_succ, List.getElem?_cons_zero] at cX
            clear ho6 hk46 hk6 HCP
            go_wp2_with fail
            refine hK.out _ _ ?_ (fun hHeld => ?_)
            · exact HK46.out.cell_some CZ.out (fun h => h)
            clear hK K'
            (try simp only [Act.put, List.setIfInBounds_toArray, List.set_cons_zero, List.set_cons_succ])
            refine wpAnyH_takeE (i := 6) (v := .pointer (some ⟨X, 1, none⟩)) rfl rfl (by kernel_rfl) (by kernel_rfl) (by kernel_rfl) (fun _ _ _ h => h) (Or.inl ⟨by rfl, fun w1 hw => by go_simp⟩) (by assumption) ?_
            (try simp only [Act.put, List.setIfInBounds_toArray, List.set_cons_zero, List.set_cons_succ])
            refine wpAnyH_ready (rs := [7]) (by kernel_rfl) (by simp) ?_
            refine AllReadyH.cons rfl (fun K' hK => ?_) (AllReadyH.nil)
            go_simp
            clear cX fX
            refine hK.out _ _ ?_ (fun hHeld => ?_)
            · exact (((Kept.refl (Kone X) w6).setIn (p := ⟨X, 1, none⟩) (by unfold Kone; rfl) _).cell_some (HK46.out.cell_some CZ.out (fun h => h)) (fun e => hgzX (by unfold Kone at e; exact e)))
            clear hK K'
            (try simp only [Act.put, List.setIfInBounds_toArray, List.set_cons_zero, List.set_cons_succ])
            refine wpAnyH_ready (rs := [8]) (by kernel_rfl) (by simp) ?_
            refine AllReadyH.cons rfl (fun K' hK => ?_) (AllReadyH.nil)
            go_simp
            refine hK.out _ _ ?_ (fun hHeld => ?_)
            · exact (((Kept.refl (Kone X) w6).setIn (p := ⟨X, 1, none⟩) (by unfold Kone; rfl) _).cell_some (HK46.out.cell_some CZ.out (fun h => h)) (fun e => hgzX (by unfold Kone at e; exact e)))
            clear hK K'
            refine wpAnyH_done (by kernel_rfl) ?_ _
            clear hHeld
            go_wp2_with fail
            go_meet
            have hkS : Kept (Kone X) w6 (w6.setCell ⟨X, 1, none⟩ (.slice A6 px.length c6)) := (Kept.refl _ _).setIn (p := ⟨X, 1, none⟩) (by unfold Kone; rfl) _
            have hkA : Kept Kno wr (w6.setCell ⟨X, 1, none⟩ (.slice A6 px.length c6)) := (HKP.out.then0 HK46.out).setNew (by show wr.heap.size ≤ X; omega) _
            refine ⟨rs, zA', xc - 1, nz, .slice A6 px.length c6, px, rfl, HNZ, ?_, fun r hr => HFX.out r (by simp [hr]), HBX6.out.set_ 1 _, ?_, hkA, .inl ⟨hcc, HPI.out, rfl⟩⟩
            · intro wx' hk'
              obtain ⟨g2, o2, he2, h2⟩ := (HXS.out.keep0 HBWR.out hk').tail
              simp only [Option.some.injEq, Addr.mk.injEq, and_true] at he2
              obtain ⟨rfl, rfl⟩ := he2
              rw [HZA.out, HNZ.out] at h2
              exact h2
            · exact (HO6.out.rinS rfl (fun k' hk' => by
                cases hx : more (orow S0 (.slice A qs.length c)) X k' with
                | false => rfl
                | true =>
                  have h1 : X < wp.heap.size := HBX.out.lt
                  have h2 : wp.heap.size ≤ k' := hk'
                  rcases (by simpa [more] using hx : orow S0 (.slice A qs.length c) k' = true ∨ k' = X) with e | e
                  · have := HLO.out.orow_lt (fun _ h => by simp [S0] at h) k' e; omega
                  · omega)).keepS hkS (fun k' e => by unfold Kone at e; subst e; exact more_self _ _)
          · have hcc' : 0 < cr := by omega
            go_wp2
            go_meet
            exact ⟨xs, xA, xc, nx, .slice none 0 0, [], rfl, HNX, (fun wx' hk' => HXS.out.keep0 HBWR.out hk'), HFX.out, HBX.out, SlIn.nil, HKP.out, .inr ⟨hcc, rfl, rfl⟩⟩
        case rest =>
        obtain ⟨xs2, xA2, xc2, nx2, ov, oxr, rfl, HNX2, hx2, hfx2, hbx, hov, hkp, hcase1⟩ := hcut
        have HXS2 := Lib.hid hx2
        have HFX2 := Lib.hid hfx2
        have HBX := Lib.hid hbx
        have HOV := Lib.hid hov
        have HKP := Lib.hid hkp
        have HC1 := Lib.hid hcase1
        clear hx2 hfx2 hbx hov hkp hcase1
        go_upto_if 89 with (fail)
        go_cut [15] (fun s wx => ∃ (zs : List (List Val)) (zA : Option Addr) (zc nz : Nat) (zv : Value) (zr : List Val), s = .slice zA nz zc ∧ Hid (zs.length = nz) ∧ (∀ wx', Kept Kno wr wx' → RowsIn wx' B (.slice zA nz zc) zs) ∧ (∀ r ∈ zs, RowFit t r) ∧ Blk wx X 223 #[.int .i64 (k : Int), ov, zv] ∧ RIn (erase (more (orow S0 (.slice A qs.length c)) X) wx) wx.heap.size zv zr ∧ RIn (erase (more (orow S0 (.slice A qs.length c)) X) wx) wx.heap.size ov oxr ∧ Kept Kno wr wx ∧ ((0 ≤ cr ∧ RowFit t zr ∧ nz + 1 = ny) ∨ (¬ 0 ≤ cr ∧ zr = [] ∧ nz = ny)))
        case first =>
          obtain ⟨wp, hwp⟩ : ∃ x, x = wc := ⟨_, rfl⟩
          subst hwp
          by_cases hcc : 0 ≤ cr
          · obtain ⟨px, rs, rfl⟩ : ∃ a l, ys = a :: l := by
              cases hl : ys with
              | nil => have h1 := HNY.out; rw [hl] at h1; have := hcy hcc; simp at h1; omega
              | cons a l => exact ⟨a, l, rfl⟩
            obtain ⟨nz, hnz⟩ : ∃ n, rs.length = n := ⟨_, rfl⟩
            have hn1 : ny = nz + 1 := by have := HNY.out; simp at this; omega
            subst hn1
            have hrows := HYS.out.keep0 HBWR.out HKP.out
            obtain ⟨gz, oz, hzA, htail⟩ := hrows.tail
            subst hzA
            obtain ⟨zA', hzA'⟩ : ∃ a, (if yc = 1 then some (⟨gz, oz, none⟩ : Addr) else some ⟨gz, oz + 1, none⟩) = a := ⟨_, rfl⟩
            rw [hzA'] at htail
            have HZA := Lib.hid hzA'
            clear hzA'
            obtain ⟨gz', oz', zc', pv, he, -, hzm, hgz, cz0, hpi⟩ := hrows.row (j := 0) (r := px) rfl
            simp only [Value.slice.injEq, Option.some.injEq, Addr.mk.injEq, and_true] at he
            obtain ⟨⟨rfl, rfl⟩, -, rfl⟩ := he
            rw [Nat.add_zero] at cz0
            obtain ⟨pA, pc, rfl⟩ : ∃ A c, pv = .slice A px.length c := SlIn.form hpi
            have hfp := HFY.out px (by simp)
            have CZ := Lib.hid cz0
            have HCP := Lib.hid (rcopy_any B _ px wp.drew (hpi.keep0 (Nat.le_trans HBWR.out HKP.out.size) ((Kept.refl _ _).drew)) (by have := hfp.1; have := HT8.out; omega))
            have HTL := Lib.hid htail
            have HPI := Lib.hid hfp
            have HNZ := Lib.hid hnz
            have hgzX : gz ≠ X := by have := HBWR.out; omega
            have hzc1N : 1 ≤ yc := by
              obtain ⟨_, _, he, h2, -⟩ := hrows
              simp only [Value.slice.injEq] at he
              omega
            have hzc1 : (1 : Int) ≤ (yc : Int) := by omega
            have hnz1 : (1 : Int) ≤ (nz : Int) + 1 := by omega
            have hzcm : yc ≤ 9223372036854775807 := by simpa only [maxLen] using hzm
            clear hrows htail cz0 hpi hfp hnz hzm
            go_upto_region 23 with (fail)
            refine wp_region_held_drew (S := fun w' => w'.cell? ⟨gz, oz, none⟩ = some (.slice pA px.length pc)) (by kernel_rfl) CZ.out (fun hHeld => ?_)
            refine wpAnyH_takeE (i := 0) (v := .slice (some ⟨gz, oz, none⟩) (nz + 1) yc) rfl rfl (by kernel_rfl) (by kernel_rfl) (by kernel_rfl) (fun _ _ _ h => h) (Or.inl ⟨by rfl, fun w1 hw => by go_simp⟩) (by assumption) ?_
            (try simp only [Act.put, List.setIfInBounds_toArray, List.set_cons_zero, List.set_cons_succ])
            refine wpAnyH_takeE (i := 1) (v := .pointer (some ⟨gz, oz, none⟩)) rfl rfl (by kernel_rfl) (by kernel_rfl) (by kernel_rfl) (fun _ _ _ h => h) (Or.inl ⟨by rfl, fun w1 hw => by go_simp⟩) (by assumption) ?_
            (try simp only [Act.put, List.setIfInBounds_toArray, List.set_cons_zero, List.set_cons_succ])
            refine wpAnyH_takeE (i := 2) (v := .slice pA px.length pc) rfl rfl (by kernel_rfl) (by kernel_rfl) (by kernel_rfl) (fun _ _ _ h => h) (Or.inl ⟨by rfl, fun w1 hw => by have c1 := hw; clear hw; go_simp⟩) (by assumption) ?_
            (try simp only [Act.put, List.setIfInBounds_toArray, List.set_cons_zero, List.set_cons_succ])
            refine wpAnyH_takeE (i := 4) (v := .slice (some ⟨gz, oz, none⟩) (nz + 1) yc) rfl rfl (by kernel_rfl) (by kernel_rfl) (by kernel_rfl) (fun _ _ _ h => h) (Or.inl ⟨by rfl, fun w1 hw => by go_simp⟩) (by assumption) ?_
            (try simp only [Act.put, List.setIfInBounds_toArray, List.set_cons_zero, List.set_cons_succ])
            refine wpAnyH_takeE (i := 5) (v := .slice zA' nz (yc - 1)) rfl rfl (by kernel_rfl) (by kernel_rfl) (by kernel_rfl) (fun _ _ _ h => h) (Or.inl ⟨by rfl, fun w1 hw => by rw [← HZA.out]; go_simp⟩) (by assumption) ?_
            (try simp only [Act.put, List.setIfInBounds_toArray, List.set_cons_zero, List.set_cons_succ])
            refine wpAnyH_ready (rs := [3]) (by kernel_rfl) (by simp) ?_
            refine AllReadyH.cons rfl (fun K' hK => ?_) (AllReadyH.nil)
            go_simp
            go_at_call 128
            refine (HCP.out).mono ?_
            rintro e w6 ⟨A6, c6, rfl, ho6, hk6⟩
            have hk46 : Kept Kno wp w6 := (Kept.refl _ _).drew.then0 hk6
            have HK46 := Lib.hid hk46
            have HBX6 := Lib.hid (HBX.out.kept hk46 (fun h => h))
            have HO6 := Lib.hid ho6
            have cX := HBX6.out.cell 2
            have fX := HBX6.out.frozen 2
            simp only [List.getElem?_toArray, List.getElem?_cons_succ, List.getElem?_cons_zero] at cX
            clear ho6 hk46 hk6 HCP
            go_wp2_with fail
            refine hK.out _ _ ?_ (fun hHeld => ?_)
            · exact HK46.out.cell_some CZ.out (fun h => h)
            clear hK K'
            (try simp only [Act.put, List.setIfInBounds_toArray, List.set_cons_zero, List.set_cons_succ])
            refine wpAnyH_takeE (i := 6) (v := .pointer (some ⟨X, 2, none⟩)) rfl rfl (by kernel_rfl) (by kernel_rfl) (by kernel_rfl) (fun _ _ _ h => h) (Or.inl ⟨by rfl, fun w1 hw => by go_simp⟩) (by assumption) ?_
            (try simp only [Act.put, List.setIfInBounds_toArray, List.set_cons_zero, List.set_cons_succ])
            refine wpAnyH_ready (rs := [7]) (by kernel_rfl) (by simp) ?_
            refine AllReadyH.cons rfl (fun K' hK => ?_) (AllReadyH.nil)
            go_simp
            clear cX fX
            refine hK.out _ _ ?_ (fun hHeld => ?_)
            · exact (((Kept.refl (Kone X) w6).setIn (p := ⟨X, 2, none⟩) (by unfold Kone; rfl) _).cell_some (HK46.out.cell_some CZ.out (fun h => h)) (fun e => hgzX (by unfold Kone at e; exact e)))
            clear hK K'
            (try simp only [Act.put, List.setIfInBounds_toArray, List.set_cons_zero, List.set_cons_succ])
            refine wpAnyH_ready (rs := [8]) (by kernel_rfl) (by simp) ?_
            refine AllReadyH.cons rfl (fun K' hK => ?_) (AllReadyH.nil)
            go_simp
            refine hK.out _ _ ?_ (fun hHeld => ?_)
            · exact (((Kept.refl (Kone X) w6).setIn (p := ⟨X, 2, none⟩) (by unfold Kone; rfl) _).cell_some (HK46.out.cell_some CZ.out (fun h => h)) (fun e => hgzX (by unfold Kone at e; exact e)))
            clear hK K'
            refine wpAnyH_done (by kernel_rfl) ?_ _
            clear hHeld
            go_wp2_with fail
            go_meet
            have hkS : Kept (Kone X) w6 (w6.setCell ⟨X, 2, none⟩ (.slice A6 px.length c6)) := (Kept.refl _ _).setIn (p := ⟨X, 2, none⟩) (by unfold Kone; rfl) _
            have hkA : Kept Kno wr (w6.setCell ⟨X, 2, none⟩ (.slice A6 px.length c6)) := (HKP.out.then0 HK46.out).setNew (by show wr.heap.size ≤ X; omega) _
            refine ⟨rs, zA', yc - 1, nz, .slice A6 px.length c6, px, rfl, HNZ, ?_, fun r hr => HFY.out r (by simp [hr]), HBX6.out.set_ 2 _, ?_, HOV.out.keepS HK46.out (fun _ h => h.elim) |>.keepS hkS (fun k e => by unfold Kone at e; subst e; exact more_self _ _), hkA, .inl ⟨hcc, HPI.out, rfl⟩⟩
            · intro wx' hk'
              obtain ⟨g2, o2, he2, h2⟩ := (HYS.out.keep0 HBWR.out hk').tail
              simp only [Option.some.injEq, Addr.mk.injEq, and_true] at he2
              obtain ⟨rfl, rfl⟩ := he2
              rw [HZA.out, HNZ.out] at h2
              exact h2
            · exact (HO6.out.rinS rfl (fun k' hk' => by
                cases hx : more (orow S0 (.slice A qs.length c)) X k' with
                | false => rfl
                | true =>
                  have h1 : X < wp.heap.size := HBX.out.lt
                  have h2 : wp.heap.size ≤ k' := hk'
                  rcases (by simpa [more] using hx : orow S0 (.slice A qs.length c) k' = true ∨ k' = X) with e | e
                  · have := HLO.out.orow_lt (fun _ h => by simp [S0] at h) k' e; omega
                  · omega)).keepS hkS (fun k' e => by unfold Kone at e; subst e; exact more_self _ _)
          · have hcc' : cr < 0 := by omega
            go_wp2
            go_meet
            exact ⟨ys, yA, yc, ny, .slice none 0 0, [], rfl, HNY, (fun wx' hk' => HYS.out.keep0 HBWR.out hk'), HFY.out, HBX.out, SlIn.nil, HOV.out, HKP.out, .inr ⟨hcc, rfl, rfl⟩⟩
        case rest =>
        obtain ⟨ys2, yA2, yc2, ny2, nv, nxr, rfl, HNY2, hy2, hfy2, hbx, hnv, hov, hkp, hcase2⟩ := hcut
        have HYS2 := Lib.hid (hy2 _ hkp)
        have HFY2 := Lib.hid hfy2
        have HBX := Lib.hid hbx
        have HXS3 : Hid (RowsIn wc B (.slice xA2 nx2 xc2) xs2) := Lib.hid (HXS2.out _ hkp)
        obtain ⟨oA, oc, rfl⟩ : ∃ A c, ov = .slice A oxr.length c := SlIn.form hov
        obtain ⟨nA, nc, rfl⟩ : ∃ A c, nv = .slice A nxr.length c := SlIn.form hnv
        have HOVS : Hid (RIn (erase (orow S0 (.slice A qs.length c)) wc) wc.heap.size (.slice oA oxr.length oc) oxr) := Lib.hid (SlIn.sub0 (sub_le (fun k h => more_le h) _) hov)
        have HNVS : Hid (RIn (erase (orow S0 (.slice A qs.length c)) wc) wc.heap.size (.slice nA nxr.length nc) nxr) := Lib.hid (SlIn.sub0 (sub_le (fun k h => more_le h) _) hnv)
        have HKP := Lib.hid hkp
        have HLOX := Lib.hid (HLO.out.keep0 clo_chg hkp)
        have HCH : Hid (ChgOk ts ⟨k, oxr, nxr⟩ ∧ nx2 + ny2 < nx + ny) := Lib.hid (by
          have h8 := HT8.out
          refine ⟨⟨t, HT.out, ?_, ?_, ?_⟩, ?_⟩
          · rcases HC1.out with ⟨-, h, -⟩ | ⟨-, h, -⟩
            · exact .inr h
            · exact .inl h
          · rcases hcase2 with ⟨-, h, -⟩ | ⟨-, h, -⟩
            · exact .inr h
            · exact .inl h
          · by_cases hcr : cr ≤ 0
            · rcases HC1.out with ⟨-, h, -⟩ | ⟨h, -, -⟩
              · refine .inl (fun e => ?_)
                have := h.1
                simp only at e
                rw [e] at this
                simp at this
                omega
              · exact absurd hcr h
            · rcases hcase2 with ⟨-, h, -⟩ | ⟨h, -, -⟩
              · refine .inr (fun e => ?_)
                have := h.1
                simp only at e
                rw [e] at this
                simp at this
                omega
              · exact absurd (by omega) h
          · rcases HC1.out with ⟨-, -, h⟩ | ⟨h1, -, h⟩ <;> rcases hcase2 with ⟨-, -, h'⟩ | ⟨h1', -, h'⟩ <;> omega)
        have HQL : Hid (qs.length + nx + ny ≤ 2000 * (k + 1)) := Lib.hid (by have := HNX.out; have := HNY.out; omega)
        have cX1 : wc.cell? ⟨X, 1, none⟩ = some (.slice oA oxr.length oc) := hbx.cell 1
        have cX2 : wc.cell? ⟨X, 2, none⟩ = some (.slice nA nxr.length nc) := hbx.cell 2
        clear hy2 hfy2 hbx hnv hov hkp hcase2 hql HOV
        go_upto_region 24 with (fail)
        go_wp2_with fail
        refine (crows_any wc.heap.size _ _ oxr nxr wc (SlIn.sub0 (erase_sub _ _) HOVS.out) (SlIn.sub0 (erase_sub _ _) HNVS.out) (Nat.le_refl _)).mono ?_
        rintro e w9 ⟨c2, rfl, hk9⟩
        have HK9 := Lib.hid (HKP.out.then0 hk9)
        have HLO9 := Lib.hid (HLOX.out.keep0 clo_chg hk9)
        have HX9 := Lib.hid (HBX.out.kept hk9 (fun h => h))
        have HO9 := Lib.hid (HOVS.out.keepS hk9 (fun _ h => h.elim))
        have HN9 := Lib.hid (HNVS.out.keepS hk9 (fun _ h => h.elim))
        have HXS9 := Lib.hid (HXS3.out.keep0 (Nat.le_trans HBWR.out HKP.out.size) hk9)
        have HYS9 := Lib.hid (HYS2.out.keep0 (Nat.le_trans HBWR.out HKP.out.size) hk9)
        clear hk9 cX1 cX2 HLOX HBX HOVS HNVS
        by_cases hc2 : c2 = 0
        · subst hc2
          go_wp2
          exact ⟨⟨A, c, qs, xs2, ys2, rfl, HLO9.out, HQO.out, HXS9.out, HYS9.out, HFX2.out, HFY2.out, by have := HQL.out; have := HCH.out.2; have := HNX2.out; have := HNY2.out; omega, HKR.out.then0 HK9.out⟩, by simp only [sliceLen]; have := HCH.out.2; omega⟩
        · have hc2b : (c2 != 0) = true := by rw [bne_iff_ne]; exact hc2
          have m1 : qs.length + 1 ≤ maxLen := by simp only [maxLen]; have := HQL.out; omega
          have hqb : qs.length ≤ 100000 := by have := HQL.out; omega
          have hzw : w0.heap.size ≤ w9.heap.size := (HKR.out.then0 HK9.out).size
          go_wp2_with (first
            | (refine wpList_load_row rfl 223 (.tmp 17) rfl X rfl 223 _ (0, 0) _ HX9.out Tryz.underlying223 rfl (by kernel_rfl) ?_)
            | (at_builtin; go_must (refine wpList_append_rd _ rfl _ _ 158 rfl w0.heap.size 223 i0 _ 3 56 Tryz.underlying158 hi hz0 hz1 hz2 rfl (by decide) (.slice A qs.length c) qs.length (qs.map (·.2)).flatten rfl (World.ownsRow.alloc HLO9.out.own.1 _) _ 1 [.int .i64 (k : Int), .slice oA oxr.length oc, .slice nA nxr.length nc] rfl (Rd.one' _ _ _ rfl (by simp)) (by simp [Value.oneCell']) m1 (by omega) (by simp; omega) ?_); intro A17 c17 w17 hown2 hg2 hat2))
          have hl := LOut.push (x := (⟨k, oxr, nxr⟩ : Chg)) clo_chg HLO9.out ⟨_, _, rfl, HO9.out, HN9.out⟩ rfl hg2 hown2 hat2
          have hk17 : Kept Kno w0 w17 := ((HKR.out.then0 HK9.out).alloc _).grown hg2 (fun k' hk' e => by have := HLO9.out.ge e; omega)
          have hkr17 : Kept (fun k' => (Value.slice A qs.length c).ownBlock = some k') w9 w17 := ((Kept.refl _ w9).alloc _).grown hg2 (fun _ _ e => e)
          have hB0 : B ≤ w0.heap.size := Nat.le_trans hB HK0.out.size
          have ho17 : Old B w9 w17 := hkr17.old (Nat.le_trans hB0 hzw) (fun k' hk' e => by have := HLO9.out.ge e; omega)
          refine ⟨⟨A17, c17, qs ++ [((⟨k, oxr, nxr⟩ : Chg), [.int .i64 (k : Int), .slice oA oxr.length oc, .slice nA nxr.length nc])], xs2, ys2, by simp, hl, ?_, RowsIn.old ho17 (Nat.le_refl _) HXS9.out, RowsIn.old ho17 (Nat.le_refl _) HYS9.out, HFX2.out, HFY2.out, ?_, hk17⟩, ?_⟩
          · intro q hq
            rcases List.mem_append.1 hq with hq | hq
            · exact HQO.out q hq
            · simp only [List.mem_singleton] at hq
              subst hq
              exact HCH.out.1
          · have := HQL.out
            have := HCH.out.2
            have := HNX2.out
            have := HNY2.out
            simp only [List.length_append, List.length_singleton]
            omega
          · simp only [sliceLen]
            have := HCH.out.2
            omega
    · have hke : k = ts.length := by omega
      have hnlt : ¬ (k : Int) < (ts.length : Int) := by omega
      go_wp2
      go_ret2
      have hly := HLO.out.ly clo_chg (fun _ h => by simp [S0] at h)
      refine ⟨A, c, 0, qs.map (·.1), by simp, ?_, ?_, ?_, HK0.out.then0 HKR.out⟩
      · rw [List.length_map]
        exact hly.mono (Nat.le_refl _) (fun g o _ h => h.sub0 (erase_S0 wr) (fun _ _ _ h => clo_chg.sub (erase_S0 wr) h))
      · intro x hx
        obtain ⟨q, hq, rfl⟩ := List.mem_map.1 hx
        exact HQO.out q hq
      · rw [List.length_map]
        omega

end Go.Proofs.YtffdaohmalmkfaaGreat
