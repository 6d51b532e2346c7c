/-
  NetworkOwns: the walk: for all bytes and every first byte the law returns true, and changes nothing that was there.
-/
import Derived.Test.YtcpidgpjifmimaaNetD
import Derived.Test.YtcpidgpjifmimaaNetF
import Derived.Test.YtcpidgpjifmimaaNetG
import Derived.Test.YtcpidgpjifmimaaNetIn
import Derived.Test.YtcpidgpjifmimaaBase3
namespace Go.Proofs.Ytcpidgpjifmimaa
open Go.RowKit Go.ChangeShapes Go.WideShapes Go.ChangeAt
set_option linter.unusedVariables false

/-- A row of bytes that is not empty: its first cell. -/
theorem ownB_first {w : World} {base : Nat} {t : TypeId} {v : Value} {l : List UInt8} (h : OwnB w base t v l) (hl : 0 < l.length) :
    ∃ g cap cur, ∃ x : Int, v = .slice (some ⟨g, 0, none⟩) l.length cap ∧ base ≤ g ∧ g < w.heap.size ∧ Blk w g t cur ∧ cur[0]? = some (.int .u8 x) := by
  rcases h.2 with ⟨_, h0⟩ | ⟨g, cap, cur, rfl, hb, hh, hnc, hcm, hs, ht⟩
  · omega
  · have hblk : Blk w g t cur := hh
    refine ⟨g, cap, cur, l[0].toNat, rfl, hb, hblk.lt, hblk, ?_⟩
    have : (cur.toList.take (l.length * 1))[0]? = some (bv l[0]) := by rw [ht, List.getElem?_map, List.getElem?_eq_getElem hl]; rfl
    rw [List.getElem?_take] at this
    split at this
    · simpa [bv] using this
    · cases this

/-- A store into a row of bytes that is none of a network's messages leaves it as it is. -/
theorem net_byte {w : World} {base B g : Nat} {v x : Value} {ps : List Pk} {lost room : Int} {cur : Array Value} (h : Net w base B v ps lost room) (hg : Blk w g 5 cur) (hp : ∀ p ∈ ps, p.v.ownBlock ≠ some g) :
    Net (w.setCell ⟨g, 0, none⟩ x) base B v ps lost room := by
  have hk : Kept (Kone g) w (w.setCell ⟨g, 0, none⟩ x) := Kept.setIn (S := Kone g) (p := ⟨g, 0, none⟩) (Kept.refl _ _) (Eq.refl g) _
  refine h.kept hk ?_ ?_ ?_
  · intro e; unfold Kone at e; subst e; exact (Blk.ne_ h.2.1 hg (by decide)) rfl
  · intro k hk' e; unfold Kone at e; subst e; exact own_blk_ne h.2.2.1 hg (by decide) hk'
  · intro p hpm k hk' e; unfold Kone at e; subst e; exact hp p hpm hk'

theorem pk_lt {w : World} {base B : Nat} {v : Value} {ps : List Pk} {lost room : Int} (h : Net w base B v ps lost room) {p : Pk} (hp : p ∈ ps) {g : Nat} (hg : w.heap.size ≤ g) : p.v.ownBlock ≠ some g := fun e => by
  have := (own_base (h.2.2.2 p hp).1 e).2
  omega

set_option maxRecDepth 100000 in
set_option maxHeartbeats 4000000 in
theorem owns_walk (bv0 : Value) (l : List UInt8) (fill : UInt8) (w : World) (hin : Bs w bv0 l) (hll : l.length ≤ maxLen) :
    Calls Try.prog 7 #[bv0, .int .u8 fill.toNat] w (RetNew (.bool true) w) := by
  obtain ⟨i0, hi, hz0, hz1, hz2⟩ := info_parts info_byte
  have HIN := Lib.hid hin
  obtain ⟨Ab, capb, rfl, hb1, hb2, hb3, hb4⟩ := hin
  have hm60 : (if (60 : Int) < (l.length : Int) then (60 : Int) else (l.length : Int)) = ((min l.length 60 : Nat) : Int) := min_natw l.length 60
  have q1 : min l.length 60 ≤ l.length := Nat.min_le_left _ _
  have q2 : min l.length 60 ≤ 60 := Nat.min_le_right _ _
  generalize min l.length 60 = m at hm60 q1 q2
  have q3 : m ≤ capb := by omega
  have q4 : (m : Int) ≤ (capb : Int) := by omega
  have q5 : (0 : Int) ≤ (m : Int) := by omega
  have n60 : l.length ≤ 9223372036854775807 := by simp only [maxLen] at hll; omega
  have hcut := Bs.cut HIN.out q1
  have hlm : (l.take m).length = m := by rw [List.length_take]; omega
  generalize l.take m = lm at hcut hlm
  have HCUT := Lib.hid hcut
  clear hb2 hb3 hb4 hcut hll
  go_enter Try.func7, Try.ntmps7
  go_wp2_with fail
  refine (new_ok 8 _ (by omega) (by omega)).mono ?_
  rintro e w1 ⟨rfl, hw1⟩
  have hk1 : Kept Kno w w1 := by rw [hw1]; exact (Kept.refl _ _).alloc _
  have hn1 : Net w1 w.heap.size w.heap.size (.slice none 0 0) [] 0 8 := by rw [hw1]; exact net_new w _ 8 (Nat.le_refl _)
  have HN1 := Lib.hid hn1
  clear hw1 hn1
  have r1 : Rd (w1.alloc (.cells #[.int .u8 fill.toNat] 5)) 1 (.slice Ab m capb) m (lm.map bv) := by
    have := Rd.kept0 HCUT.out (hk1.alloc (.cells #[.int .u8 fill.toNat] 5))
    rwa [hlm] at this
  have r2 : 1 + m ≤ maxLen := by simp only [maxLen]; omega
  have r3 : (w1.alloc (.cells #[.int .u8 fill.toNat] 5)).ownsRow w1.heap.size 5 1 (.slice (some ⟨w1.heap.size, 0, none⟩) 1 1) 1 [bv fill] :=
    ⟨rfl, .inr ⟨w1.heap.size, 1, _, rfl, Nat.le_refl _, heap_alloc_new w1 _, Nat.le_refl _, by decide, rfl, rfl⟩⟩
  have R1 := Lib.hid r1
  have R3 := Lib.hid r3
  clear r1 r3
  go_wp2_with (at_builtin; go_must (refine wpList_append_rd _ rfl _ _ 39 rfl w1.heap.size 5 i0 _ 1 1 Try.underlying39 hi hz0 hz1 hz2 rfl (by decide) (.slice (some ⟨w1.heap.size, 0, none⟩) 1 1) 1 [bv fill] rfl R3.out _ m (lm.map bv) rfl R1.out (bvs_one lm) r2 (by omega) (by simp) ?_); intro A1 cap1 w2 hown hg hat)
  obtain ⟨L, hL⟩ : ∃ L, L = fill :: lm := ⟨_, rfl⟩
  have hLl : L.length = 1 + m := by rw [hL]; simp; omega
  have hLo : OwnB w2 w1.heap.size 5 (.slice A1 (1 + m) cap1) L := by
    unfold OwnB
    rw [hLl, hL]
    exact hown
  have hk2 : Kept Kno w w2 := (hk1.alloc _).grown hg (fun k hk e => by cases e; exact absurd hk (Nat.not_lt.2 hk1.size))
  have hk12 : Kept Kno w1 w2 := ((Kept.refl _ _).alloc _).grown hg (fun k hk e => by cases e; exact absurd hk (Nat.lt_irrefl _))
  have hn2 : Net w2 w.heap.size w.heap.size (.slice none 0 0) [] 0 8 := HN1.out.kept0 hk12
  obtain ⟨g1, c1, cur1, x1, hv1, hg1, hgl1, hblk1, hcx⟩ := ownB_first hLo (by omega)
  have hA1 : A1 = some ⟨g1, 0, none⟩ := by injection hv1
  subst hA1
  have hconv := run_string_bs (P := Try.prog) 39 9 5 hLo.bs Try.underlying39 Try.underlying5 Try.underlying9
  rw [hconv]
  have HL := Lib.hid hL
  have HLL := Lib.hid hLl
  have HLO := Lib.hid hLo
  have HN2 := Lib.hid hn2
  have HB1 := Lib.hid hblk1
  have HCX := Lib.hid hcx
  clear hcx
  have hll : L.length ≤ 140737488355328 := by omega
  clear hconv hL hLl hLo hn2 hown hg hat hv1 hblk1 HN1 R1 R3 hlm HCUT
  go_wp2_with fail
  refine (send_yes w.heap.size w.heap.size _ _ [] 0 8 3 L _ HN2.out HLO.out.bs hll hk2.size (by simp) (by simp)).mono ?_
  rintro e w3 ⟨rfl, v3, p1, hp1, hp2, hn3, hkk3, -, hq3⟩
  have hk3 : Kept Kno w w3 := kept_net hk2 HN2.out (Nat.le_refl _) hkk3
  have hb3 : Blk w3 g1 5 cur1 := HB1.out.kept hkk3 (fun h => by
    rcases h with h | h
    · exact (Blk.ne_ HN2.out.2.1 HB1.out (by decide)) h.symm
    · simp [Value.ownBlock] at h)
  have hlp1 : p1.v.ownBlock ≠ some g1 := fun e => by have := hq3 _ e; omega
  have HN3 := Lib.hid hn3
  have HB3 := Lib.hid hb3
  have hs23 : w2.heap.size ≤ w3.heap.size := hkk3.size
  clear hn3 hb3 hkk3 hq3
  go_wp2_with fail
  refine (double_yes w.heap.size w.heap.size 0 _ _ p1 0 8 _ HN3.out rfl hk3.size (by simp) (by simp)).mono ?_
  rintro e w4 ⟨rfl, v4, p2, hp3, hp4, hn4, hkk4, -, hq4⟩
  have hk4 : Kept Kno w w4 := kept_net hk3 HN3.out (Nat.le_refl _) hkk4
  have hb4 : Blk w4 g1 5 cur1 := HB3.out.kept hkk4 (fun h => by
    rcases h with h | h
    · exact (Blk.ne_ HN3.out.2.1 HB3.out (by decide)) h.symm
    · exact own_blk_ne HN3.out.2.2.1 HB3.out (by decide) h)
  have hlp2 : p2.v.ownBlock ≠ some g1 := fun e => by have := hq4 _ e; omega
  simp only [List.nil_append, List.singleton_append] at hn4
  have HN4 := Lib.hid hn4
  have HB4 := Lib.hid hb4
  clear hn4 hkk4 hq4
  have hx1 : w4.cell? ⟨g1, 0, none⟩ = some (.int .u8 x1) := (hb4.cell 0).trans HCX.out
  have hx2 : w4.frozen? ⟨g1, 0, none⟩ = false := hb4.frozen 0
  have hpos : (0 : Int) < ((1 + m : Nat) : Int) := by omega
  clear hb4
  go_wp2_with fail
  obtain ⟨d1, pv1, pl1⟩ := p1
  obtain ⟨d2, pv2, pl2⟩ := p2
  simp only at hp1 hp2 hp3 hp4 hlp1 hlp2
  have e1 : L = pl1 := hp2.symm
  have e2 : L = pl2 := hp2.symm.trans hp4.symm
  have e3 : d2 = 3 := hp3.trans hp1
  clear hp2 hp4 hp3
  subst e1 e2 e3 hp1
  have hk5 : Kept Kno w (w4.setCell ⟨g1, 0, none⟩ (.int .u8 ((x1 + 1) % 256))) := hk4.setNew (Nat.le_trans hk1.size hg1) _
  have hn5 : Net (w4.setCell ⟨g1, 0, none⟩ (.int .u8 ((x1 + 1) % 256))) w.heap.size w.heap.size v4 [⟨3, pv1, L⟩, ⟨3, pv2, L⟩] 0 8 := net_byte HN4.out HB4.out (fun p hp => by
    simp only [List.mem_cons, List.not_mem_nil, or_false] at hp
    rcases hp with rfl | rfl
    · exact hlp1
    · exact hlp2)
  generalize (w4.setCell ⟨g1, 0, none⟩ (.int .u8 ((x1 + 1) % 256))) = w5 at hk5 hn5
  have HN5 := Lib.hid hn5
  clear hn5 HN4 HB4 hx1 hx2 HN3 HB3 HN2 HB1 hlp1 hlp2
  refine (look_yes w.heap.size w.heap.size 0 _ _ ⟨3, pv1, L⟩ _ (HN5.out.2.1.cell 0) HN5.out.2.2 rfl (by simp)).mono ?_
  rintro e w6 ⟨A2, cap2, rfl, ho6, hkk6⟩
  have hk6 : Kept Kno w w6 := hk5.then0 hkk6
  have hn6 := HN5.out.kept0 hkk6
  have hLpos : 0 < L.length := by rw [HLL.out]; omega
  obtain ⟨g2, c2, cur2, x2, hv2, hg2, hgl2, hblk2, hcx2⟩ := ownB_first ho6 hLpos
  have hc2 : w6.cell? ⟨g2, 0, none⟩ = some (.int .u8 x2) := (hblk2.cell 0).trans hcx2
  have hf2 := hblk2.frozen 0
  have hA2 : A2 = some ⟨g2, 0, none⟩ := by injection hv2
  subst hA2
  have hne2 : ∀ p ∈ [(⟨3, pv1, L⟩ : Pk), ⟨3, pv2, L⟩], p.v.ownBlock ≠ some g2 := fun p hp => pk_lt HN5.out hp hg2
  have hz1 : ((L.length : Int) == 0) = false := by rw [HLL.out]; simp; omega
  have hz2 : (0 : Int) < (L.length : Int) := by rw [HLL.out]; omega
  have hn7 := net_byte (x := .int .u8 ((x2 + 1) % 256)) hn6 hblk2 hne2
  have HN7 := Lib.hid hn7
  clear hn7 hn6 hne2 hv2 hblk2 ho6 HN5 hcx2
  go_wp2_with fail
  have hk7 := (hk6.setNew (p := ⟨g2, 0, none⟩) (Nat.le_trans hk5.size hg2) (.int .u8 ((x2 + 1) % 256))).alloc (.cells #[.int .i64 3, .slice (some ⟨g2, 0, none⟩) L.length cap2] 44)
  have hn7 := HN7.out.kept0 ((Kept.refl _ _).alloc (.cells #[.int .i64 3, .slice (some ⟨g2, 0, none⟩) L.length cap2] 44))
  generalize ((w6.setCell ⟨g2, 0, none⟩ (.int .u8 ((x2 + 1) % 256))).alloc (.cells #[.int .i64 3, .slice (some ⟨g2, 0, none⟩) L.length cap2] 44)) = w7 at hk7 hn7
  have HM7 := Lib.hid hn7
  clear hn7 HN7 hc2 hf2
  refine (all_any w.heap.size w.heap.size _ _ _ (HM7.out.2.1.cell 0) HM7.out.2.2 (by simp)).mono ?_
  rintro e w8 ⟨A8, cap8, qs, rfl, hr8, hqs, hkk8⟩
  have hk8 : Kept Kno w w8 := hk7.then0 hkk8
  have hn8 := HM7.out.kept0 hkk8
  obtain ⟨q0, q1, rfl⟩ : ∃ q0 q1, qs = [q0, q1] := by
    have hl := congrArg List.length hqs
    match qs, hl with
    | [a, b], _ => exact ⟨a, b, rfl⟩
  simp only [List.map_cons, List.map_nil, Pk.abs, List.cons.injEq, Prod.mk.injEq, and_true] at hqs
  obtain ⟨⟨hd0, hl0⟩, hd1, hl1⟩ := hqs
  obtain ⟨gr, capr, hv8, -, -, c80, c81⟩ := row_at (i := 0) (p := q0) hr8 rfl
  obtain ⟨gr', capr', hv8', -, -, c82, c83⟩ := row_at (i := 1) (p := q1) hr8 rfl
  have hA8 : A8 = some ⟨gr, 0, none⟩ := by injection hv8
  have hA8' : A8 = some ⟨gr', 0, none⟩ := by injection hv8'
  have hgg : gr = gr' := by rw [hA8] at hA8'; injection hA8' with h; injection h with h
  subst hgg
  subst hA8
  have hb0 := (hr8.2 q0 (by simp)).1
  have hb1 := (hr8.2 q1 (by simp)).1
  obtain ⟨ga, ca, cura, xa, hva, hga, hgla, hblka, hcxa⟩ := ownB_first hb0 (by rw [hl0]; exact hLpos)
  obtain ⟨gb, cb, curb, xb, hvb, hgb, hglb, hblkb, hcxb⟩ := ownB_first hb1 (by rw [hl1]; exact hLpos)
  rw [hva, hl0] at c81
  rw [hvb, hl1] at c83
  have d81 : w8.cell? ⟨gr, 1, none⟩ = some (.slice (some ⟨ga, 0, none⟩) L.length ca) := c81
  have d83 : w8.cell? ⟨gr, 3, none⟩ = some (.slice (some ⟨gb, 0, none⟩) L.length cb) := c83
  have ea := (hblka.cell 0).trans hcxa
  have fa := hblka.frozen 0
  have hra : gr ≠ ga := fun e => own_blk_ne hr8.1 hblka (by decide) (by rw [e]; rfl)
  have hn9 := net_byte (x := .int .u8 ((xa + 2) % 256)) hn8 hblka (fun p hp => pk_lt HM7.out hp hga)
  have hk9 := hk8.setNew (p := ⟨ga, 0, none⟩) (Nat.le_trans hk7.size hga) (.int .u8 ((xa + 2) % 256))
  have hk89 : Kept (Kone ga) w8 (w8.setCell ⟨ga, 0, none⟩ (.int .u8 ((xa + 2) % 256))) := Kept.setIn (S := Kone ga) (p := ⟨ga, 0, none⟩) (Kept.refl _ _) (Eq.refl ga) _
  have d93 := hk89.cell_some d83 (fun e => hra e)
  obtain ⟨curb', xb', hblkb', hcxb'⟩ : ∃ curb', ∃ xb' : Int, Blk (w8.setCell ⟨ga, 0, none⟩ (.int .u8 ((xa + 2) % 256))) gb 5 curb' ∧ curb'[0]? = some (.int .u8 xb') := by
    by_cases e : gb = ga
    · subst e
      refine ⟨cura.setIfInBounds 0 (.int .u8 ((xa + 2) % 256)), (xa + 2) % 256, hblka.set_ 0 _, ?_⟩
      have h0 : 0 < cura.size := by
        rcases Nat.eq_zero_or_pos cura.size with h | h
        · rw [Array.getElem?_eq_none (by omega)] at hcxa; cases hcxa
        · exact h
      simp [h0]
    · exact ⟨curb, xb, hblkb.far (p := ⟨ga, 0, none⟩) e _, hcxb⟩
  have eb := (hblkb'.cell 0).trans hcxb'
  have fb := hblkb'.frozen 0
  have hn10 := net_byte (x := .int .u8 ((xb' + 3) % 256)) hn9 hblkb' (fun p hp => pk_lt HM7.out hp hgb)
  have hk10 := hk9.setNew (p := ⟨gb, 0, none⟩) (Nat.le_trans hk7.size hgb) (.int .u8 ((xb' + 3) % 256))
  have HN10 := Lib.hid hn10
  have EB := Lib.hid eb
  have FB := Lib.hid fb
  have D93 := Lib.hid d93
  have HK10 := Lib.hid hk10
  have e2 : (2 : Int) = ([({ dst := 3, v := pv1, l := L } : Pk), { dst := 3, v := pv2, l := L }].length : Int) := rfl
  clear hn8 hr8 hb0 hb1 hva hvb hblka hblkb hcxa hcxb hblkb' hcxb' hn9 hn10 c80 c81 c82 c83 hv8 hv8' hA8' hk89 d93 hd0 hd1 hl0 hl1 eb fb hk9 hk10 e2
  simp only [List.length_cons, List.length_nil]
  go_upto_region 15 with fail
  generalize (w8.setCell ⟨ga, 0, none⟩ (.int .u8 ((xa + 2) % 256))) = w9 at HN10 EB FB D93 HK10
  have d93 := D93.out
  have eb := EB.out
  have fb := FB.out
  clear D93 EB FB d81 d83 ea fa
  go_wp2_with fail
  generalize (w9.setCell ⟨gb, 0, none⟩ (.int .u8 ((xb' + 3) % 256))) = w10 at HN10 HK10
  refine (take_yes w.heap.size w.heap.size 0 _ _ ⟨3, pv1, L⟩ 0 8 _ HN10.out rfl (by simp)).mono ?_
  rintro e w11 ⟨A11, cap11, v11, rfl, ho11, hn11, hkk11, hm11⟩
  have hk11 : Kept Kno w w11 := kept_net HK10.out HN10.out (Nat.le_refl _) hkk11
  simp only [List.eraseIdx_cons_zero] at hn11
  have hn12 := hn11.kept0 ((Kept.refl _ _).alloc (.cells #[.int .i64 3, .slice A11 L.length cap11] 44))
  have hk12' := hk11.alloc (.cells #[.int .i64 3, .slice A11 L.length cap11] 44)
  have ho12 : OwnB (w11.alloc (.cells #[.int .i64 3, .slice A11 L.length cap11] 44)) w10.heap.size 5 (.slice A11 L.length cap11) L := World.ownsRow.alloc ho11 _
  have hb12 := Blk.new w11 44 #[.int .i64 3, .slice A11 L.length cap11]
  have hv12 : ∀ k, v11.ownBlock = some k → k < w11.heap.size := fun k hk => (own_base hn11.2.2.1 hk).2
  have hB12 : w.heap.size < w11.heap.size := hn11.2.1.lt
  clear d93 eb fb hn11 hkk11 HN10 hLpos
  go_wp2_with fail
  generalize (w11.alloc (.cells #[.int .i64 3, .slice A11 L.length cap11] 44)) = w12 at hn12 hk12' ho12 hb12
  refine (take_yes w.heap.size w.heap.size 0 _ _ ⟨3, pv2, L⟩ 0 8 _ hn12 rfl (by simp)).mono ?_
  rintro e w13 ⟨A13, cap13, v13, rfl, ho13, hn13, hkk13, hm13⟩
  have hk13 : Kept Kno w w13 := kept_net hk12' hn12 (Nat.le_refl _) hkk13
  have hb13 : Blk w13 w11.heap.size 44 #[.int .i64 3, .slice A11 L.length cap11] := hb12.kept hkk13 (fun h => by
    rcases h with h | h
    · omega
    · have := hv12 _ h; omega)
  have ho13' : OwnB w13 w10.heap.size 5 (.slice A11 L.length cap11) L := own_kept ho12 hkk13 (fun k hk h => by
    rcases h with h | h
    · subst h; exact own_blk_ne ho12 hn12.2.1 (by decide) hk
    · exact byte_ne_pk (p := ⟨3, .slice A11 L.length cap11, L⟩) ⟨own_rebase ho12 (fun x hx => Nat.le_trans HK10.out.size (own_base ho12 hx).1), hll⟩ hn12.2.2.1 hk h)
  have lt13 : w11.heap.size < w13.heap.size := hb13.lt
  have d0 : w13.cell? ⟨w11.heap.size, 1, none⟩ = some (.slice A11 L.length cap11) := hb13.cell 1
  have t1 := run_string_bs (P := Try.prog) 39 9 5 (Rd.alloc ho13'.bs (.cells #[.int .i64 3, .slice A13 L.length cap13] 44)) Try.underlying39 Try.underlying5 Try.underlying9
  have t2 := run_string_bs (P := Try.prog) 39 9 5 (Rd.alloc ho13.bs (.cells #[.int .i64 3, .slice A13 L.length cap13] 44)) Try.underlying39 Try.underlying5 Try.underlying9
  clear hn12 ho12 hb12 hv12 hb13 ho13' ho13 hn13 hkk13 ho11
  go_wp2_with fail
  refine (begun_any _).mono ?_
  rintro e w14 ⟨rfl, hk14⟩
  go_wp2
  go_ret
  exact ⟨rfl, (hk13.alloc _).then0 hk14⟩

theorem owns_final (bv0 : Value) (l : List UInt8) (r : Int) (w : World) (hin : Bs w bv0 l ∧ l.length ≤ maxLen) (hr : (Lit.int .u8 r).wf = true) :
    Calls Try.prog 7 #[bv0, .int .u8 r] w (RetNew (.bool true) w) := by
  rw [u8_of hr]
  exact owns_walk bv0 l (UInt8.ofNat r.toNat) w hin.1 hin.2

theorem bytes_of_trod {H : Type} {enc : TypeId × Value → H} {w : World} {base : Nat} {spare : Nat → Bool} {held : Bool} {fuel : Nat} {v : Value} {x : DataW H × List MemPlace}
    (h : DataW.trod enc Try.prog w base spare held fuel 39 [v] = some x) : ∃ l : List UInt8, Bs w v l ∧ l.length ≤ maxLen :=
  bs_of_trod Try.underlying39 Try.underlying5 (by kernel_rfl) h
end Go.Proofs.Ytcpidgpjifmimaa
