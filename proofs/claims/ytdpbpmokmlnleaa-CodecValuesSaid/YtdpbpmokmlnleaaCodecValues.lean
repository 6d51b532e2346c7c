/-
  CodecValues: the walk.
-/
import Derived.Test.YtdpbpmokmlnleaaCodecL
import Derived.Test.YtdpbpmokmlnleaaCase3
import Derived.Test.YtdpbpmokmlnleaaCodecIn
namespace Go.Proofs.Ytdpbpmokmlnleaa
open Go.RowKit
set_option linter.unusedVariables false

theorem kept_case' {w w1 w2 : World} {K : Nat} (h : Kept Kno w w1) (h2 : Kept (Kone K) w1 w2) (hK : w.heap.size ≤ K) : Kept Kno w w2 :=
  h.trans h2 (fun k hk e => by unfold Kone at e; omega)

theorem CaseIs.bsk {w w' : World} {K a : Nat} {v : Value} {l : List UInt8} (h : CaseIs w K v l a) (hk : Kept (Kone K) w w') {u : Value} {m : List UInt8} (hu : Bs w u m) : Bs w' u m := by
  obtain ⟨A, cap, hv, -⟩ := h.bs
  have hb := h.blk
  rw [hv] at hb
  obtain ⟨A, cap, rfl, h1, h2, h3, h4⟩ := hu
  refine ⟨A, cap, rfl, h1, h2, h3, fun ad hA j x hj => ?_⟩
  have hc := h4 ad hA j x hj
  rw [List.getElem?_map] at hj
  cases hq : m[j]? with
  | none => rw [hq] at hj; cases hj
  | some c =>
    rw [hq] at hj
    simp only [Option.map_some, Option.some.injEq] at hj
    subst hj
    exact hk.cell_some hc (fun e => two_no_byte hb hc e)

theorem row2_in (w : World) (k1 n1 k2 n2 : Int) (s1 s2 : ByteArray) (h1 : okVal ⟨k1, n1, s1⟩) (h2 : okVal ⟨k2, n2, s2⟩) :
    RowIn (w.alloc (.cells #[.int .i64 k1, .int .i64 n1, .string s1, .int .i64 k2, .int .i64 n2, .string s2] 41)) (.slice (some ⟨w.heap.size, 0, none⟩) 2 2) [⟨k1, n1, s1⟩, ⟨k2, n2, s2⟩] := by
  have hb := Blk.new w 41 #[.int .i64 k1, .int .i64 n1, .string s1, .int .i64 k2, .int .i64 n2, .string s2]
  refine ⟨_, 2, rfl, by simp, by simp [maxLen], fun _ => ⟨w.heap.size, 0, rfl, fun i x hx => ?_⟩, ?_⟩
  · rcases i with _ | _ | i
    · simp at hx; subst hx; exact ⟨hb.cell 0, hb.cell 1, hb.cell 2⟩
    · simp at hx; subst hx; exact ⟨hb.cell 3, hb.cell 4, hb.cell 5⟩
    · simp at hx
  · intro x hx
    simp only [List.mem_cons, List.not_mem_nil, or_false] at hx
    rcases hx with rfl | rfl
    · exact h1
    · exact h2

def ValsRel (w : World) (i : Value) (wr : World) : Prop := ∃ k : Nat, k ≤ 2 ∧ i = .int .i64 k ∧ Kept Kno w wr

set_option maxRecDepth 100000 in
set_option maxHeartbeats 4000000 in
theorem values_walk (cv dv : Value) (lc l : List UInt8) (x : Val) (rv : Value) (rs : List Val) (w : World) (hc : Bs w cv lc) (hcl : lc.length ≤ maxLen) (hd : Bs w dv l) (hdl : l.length ≤ maxLen) (hx : okVal x) (hr : RowIn w rv rs) :
    Calls Try.prog 5 #[cv, dv, x.v, rv] w (RetNew (.bool true) w) := by
  have HC := Lib.hid hc
  have HD := Lib.hid hd
  have HR := Lib.hid hr
  have HX := Lib.hid hx
  obtain ⟨Ac, capc, rfl, -⟩ := hc
  obtain ⟨Ad, capd, rfl, -⟩ := hd
  obtain ⟨Ar, capr, rfl, -⟩ := hr
  obtain ⟨kind, n, s⟩ := x
  clear hx
  simp only [Val.v]
  go_enter Try.func5, Try.ntmps5
  go_wp2_with fail
  have hkA : Kept Kno w (w.alloc (.cells #[.int .i64 kind, .int .i64 n, .string s] 41)) := (Kept.refl _ _).alloc _
  have HQ := Lib.hid (Blk.new w 41 #[.int .i64 kind, .int .i64 n, .string s])
  generalize (w.alloc (.cells #[.int .i64 kind, .int .i64 n, .string s] 41)) = wA at hkA HQ ⊢
  refine (newCase_any _ lc wA (HC.out.kept0 hkA) hcl).mono ?_
  rintro e w1 ⟨K, v, l0, rfl, hcase, hK, hk1⟩
  have HCA := Lib.hid hcase
  have hkw1 : Kept Kno w w1 := hkA.then0 hk1
  have HQ1 : Hid (Blk w1 w.heap.size 41 #[.int .i64 kind, .int .i64 n, .string s]) := Lib.hid (HQ.out.kept hk1 (fun h => h))
  have hKw : w.heap.size < K := Nat.lt_of_lt_of_le HQ.out.lt hK
  clear hcase hkA hk1 HQ
  go_wp2_with fail
  refine (part_any _ l w1 (Rd.kept0 HD.out hkw1) hdl).mono ?_
  rintro e w4 ⟨u, rfl, hu, rfl⟩
  have hp : (l.take 200).length ≤ 200 := by rw [List.length_take]; omega
  generalize l.take 200 = p at hu hp
  have HU := Lib.hid hu
  obtain ⟨Au, capu, rfl, -⟩ := hu
  clear HC HD
  go_upto_region 3 with (fail)
  have d0 : w1.cell? ⟨w.heap.size, 0, none⟩ = some (.int .i64 kind) := HQ1.out.cell 0
  have d1 : w1.cell? ⟨w.heap.size, 1, none⟩ = some (.int .i64 n) := HQ1.out.cell 1
  have d2 : w1.cell? ⟨w.heap.size, 2, none⟩ = some (.string s) := HQ1.out.cell 2
  have HAN : Hid (∀ w', Kept Kno w1 w' → Calls Try.prog 25 #[.pointer (some ⟨K, 0, none⟩)] w' (AnyOk K v l0 w')) := Lib.hid (fun w' hk => any_any K 0 v l0 w' (HCA.out.kept0 hk))
  go_region_held3 (fun w' => w'.cell? ⟨w.heap.size, 0, none⟩ = some (.int .i64 kind) ∧ w'.cell? ⟨w.heap.size, 1, none⟩ = some (.int .i64 n) ∧ w'.cell? ⟨w.heap.size, 2, none⟩ = some (.string s)) (first | (exact ⟨d0, d1, d2⟩) | (exact ⟨f0, f1, f2⟩) | (exact ⟨g0 _, g1 _, g2 _⟩) | go_keep)
    (first | (go_at_call 25; refine (HAN.out _ ((Kept.refl _ w1).drew)).mono ?_; rintro e w2 ⟨⟨kind2, n2, s2⟩, hx2, rfl, ⟨a2, hc2⟩, hkk2⟩; simp only [Val.v]; have HX2 := Lib.hid hx2; have HC2 := Lib.hid hc2; have hk2 : Kept (Kone K) w1 w2 := ((Kept.refl _ w1).drew).trans hkk2 (fun _ _ h => h); have f0 := hk2.cell_some d0 (fun h => by simp only [Kone] at h; omega); have f1 := hk2.cell_some d1 (fun h => by simp only [Kone] at h; omega); have f2 := hk2.cell_some d2 (fun h => by simp only [Kone] at h; omega); have g0 := fun o => ((Kept.refl Kno w2).alloc o).cell_some f0 (fun h => h); have g1 := fun o => ((Kept.refl Kno w2).alloc o).cell_some f1 (fun h => h); have g2 := fun o => ((Kept.refl Kno w2).alloc o).cell_some f2 (fun h => h); clear hkk2 hx2 hc2))
  rename_i hHeld
  clear hHeld
  have HY := Lib.hid (row2_in w2 kind n kind2 n2 s s2 HX.out HX2.out.2)
  have HC3 := Lib.hid (HC2.out.kept0 ((Kept.refl Kno w2).alloc (.cells #[.int .i64 kind, .int .i64 n, .string s, .int .i64 kind2, .int .i64 n2, .string s2] 41)))
  have hk3 : Kept Kno w (w2.alloc (.cells #[.int .i64 kind, .int .i64 n, .string s, .int .i64 kind2, .int .i64 n2, .string s2] 41)) := (kept_case' hkw1 hk2 (Nat.le_of_lt hKw)).alloc _
  have HU3 : Hid (Bs (w2.alloc (.cells #[.int .i64 kind, .int .i64 n, .string s, .int .i64 kind2, .int .i64 n2, .string s2] 41)) (.slice Au p.length capu) p) := Lib.hid (Rd.alloc (HCA.out.bsk hk2 HU.out) _)
  generalize (w2.alloc (.cells #[.int .i64 kind, .int .i64 n, .string s, .int .i64 kind2, .int .i64 n2, .string s2] 41)) = w3 at HY HC3 hk3 HU3 ⊢
  clear g0 g1 g2 f0 f1 f2 d0 d1 d2 HAN HQ1 HC2 HCA HU
  obtain ⟨ys, hys⟩ : ∃ ys : List Val, ys = [⟨kind, n, s⟩, ⟨kind2, n2, s2⟩] := ⟨_, rfl⟩
  have hyl : ys.length = 2 := by rw [hys]; rfl
  rw [← hys] at HY
  have HYL := Lib.hid hyl
  clear hys hyl
  go_wp2_with fail
  go_loopw [32] (fun i wr => ValsRel w3 i wr) (fun i _ => 2 - (intOf i).toNat)
  case atStart => exact ⟨0, by omega, rfl, Kept.refl _ _⟩
  case round =>
    obtain ⟨k, hk2', rfl, hkr⟩ := hrel
    by_cases hlt : k < 2
    · have hk9 : (k : Int) < 2 := by omega
      have hk90 : (0 : Int) ≤ (k : Int) := by omega
      obtain ⟨A', cap', hv', -, -, hcell, hoks⟩ := HY.out.kept0 hkr
      rw [HYL.out] at hv' hcell
      injection hv' with e1 e2 e3
      subst e1 e3
      obtain ⟨g, o, hgo, hc⟩ := hcell (by omega)
      injection hgo with hgo
      injection hgo with hg ho _
      subst hg ho
      obtain ⟨y, hy⟩ : ∃ y, ys[k]? = some y := ⟨ys[k]'(by rw [HYL.out]; exact hlt), List.getElem?_eq_getElem _⟩
      obtain ⟨c0, c1, c2⟩ := hc k y hy
      have hok := hoks y (List.mem_of_getElem? hy)
      have HOK := Lib.hid hok
      clear hcell hoks hc hy e2 hok
      obtain ⟨kd, m, t⟩ := y
      simp only [Nat.zero_add] at c0 c1 c2
      go_wp2_with fail
      have hkA : Kept Kno w3 (wr.alloc (.cells #[.int .i64 kd, .int .i64 m, .string t] 41)) := hkr.alloc _
      have HQ := Lib.hid (Blk.new wr 41 #[.int .i64 kd, .int .i64 m, .string t])
      generalize (wr.alloc (.cells #[.int .i64 kd, .int .i64 m, .string t] 41)) = wB at hkA HQ ⊢
      clear c0 c1 c2
      refine (appendValue_any _ p ⟨kd, m, t⟩ wB (HU3.out.kept0 hkA) HOK.out (by omega)).mono ?_
      rintro e w5 ⟨A5, cap5, rfl, hown5, hk5⟩
      obtain ⟨q, hq⟩ : ∃ q, q = valRes p ⟨kd, m, t⟩ := ⟨_, rfl⟩
      rw [← hq] at hown5 ⊢
      have HQQ := Lib.hid hq
      clear hq
      have HO5 := Lib.hid hown5
      have hk5' : Kept Kno w3 w5 := hkA.then0 hk5
      have HQ5 : Hid (Blk w5 wr.heap.size 41 #[.int .i64 kd, .int .i64 m, .string t]) := Lib.hid (HQ.out.kept hk5 (fun h => h))
      have c0 : w5.cell? ⟨wr.heap.size, 0, none⟩ = some (.int .i64 kd) := HQ5.out.cell 0
      have c1 : w5.cell? ⟨wr.heap.size, 1, none⟩ = some (.int .i64 m) := HQ5.out.cell 1
      have c2 : w5.cell? ⟨wr.heap.size, 2, none⟩ = some (.string t) := HQ5.out.cell 2
      clear hown5 hk5 HQ hkA
      go_wp2_with fail
      refine (refAppendValue_any _ p ⟨kd, m, t⟩ w5 (HU3.out.kept0 hk5') HOK.out (by omega)).mono ?_
      rw [← HQQ.out]
      rintro e w6 ⟨A6, cap6, rfl, hown6, hk6⟩
      have hk6' : Kept Kno w3 w6 := hk5'.then0 hk6
      have HB5 : Hid (Bs w6 (.slice A5 q.1.length cap5) q.1) := Lib.hid (Rd.kept0 (OwnB.bs HO5.out) hk6)
      have HB6 : Hid (Bs w6 (.slice A6 q.1.length cap6) q.1) := Lib.hid (OwnB.bs hown6)
      have d0 := hk6.cell_some c0 (fun h => h)
      have d1 := hk6.cell_some c1 (fun h => h)
      have d2 := hk6.cell_some c2 (fun h => h)
      obtain ⟨qb, qe⟩ := q
      simp only at HB5 HB6 ⊢
      clear hown6 hk6 HO5 c0 c1 c2 HQ5 HQQ
      have HS : Hid (∀ w', Kept Kno w6 w' → Calls Try.prog 13 #[.slice A5 qb.length cap5, .slice A6 qb.length cap6] w' (fun e w'' => e = .returned (.bool true) ∧ w' = w'')) := Lib.hid (fun w' hk => by
        have h9 := same_any _ _ qb qb w' (HB5.out.kept0 hk) (HB6.out.kept0 hk)
        rwa [decide_eq_true (Eq.refl qb)] at h9)
      have HZ1 : Hid (∀ w', Calls Try.prog 27 #[.agg #[.int .i64 kd, .int .i64 m, .string t]] w' (RetNew (.int .i64 ((valRes [] ⟨kd, m, t⟩).1.length : Int)) w')) := Lib.hid (fun w' => size_any ⟨kd, m, t⟩ w' HOK.out)
      have HZ2 : Hid (∀ w', Calls Try.prog 28 #[.agg #[.int .i64 kd, .int .i64 m, .string t]] w' (RetNew (.int .i64 ((valRes [] ⟨kd, m, t⟩).1.length : Int)) w')) := Lib.hid (fun w' => refSize_any ⟨kd, m, t⟩ w' HOK.out)
      generalize ((valRes [] ⟨kd, m, t⟩).1.length : Int) = sz at HZ1 HZ2
      go_upto_region 8 with (fail)
      go_region_held3 (fun w' => w'.cell? ⟨wr.heap.size, 0, none⟩ = some (.int .i64 kd) ∧ w'.cell? ⟨wr.heap.size, 1, none⟩ = some (.int .i64 m) ∧ w'.cell? ⟨wr.heap.size, 2, none⟩ = some (.string t)) (first | (exact ⟨g0, g1, g2⟩) | (exact ⟨f0, f1, f2⟩) | (exact ⟨d0, d1, d2⟩) | go_keep)
        (first | (go_at_call 13; refine (HS.out _ ((Kept.refl _ w6).drew)).mono ?_; rintro e w7 ⟨rfl, rfl⟩)
               | (go_at_call 27; refine (HZ1.out _).mono ?_; rintro e w7 ⟨rfl, hk7⟩; have hk7' : Kept Kno w6 w7 := ((Kept.refl _ w6).drew).then0 hk7; have f0 := hk7'.cell_some d0 (fun h => h); have f1 := hk7'.cell_some d1 (fun h => h); have f2 := hk7'.cell_some d2 (fun h => h); clear hk7)
               | (go_at_call 28; refine (HZ2.out _).mono ?_; rintro e w8 ⟨rfl, hk8⟩; have g0 := hk8.cell_some f0 (fun h => h); have g1 := hk8.cell_some f1 (fun h => h); have g2 := hk8.cell_some f2 (fun h => h)))
      clear f0 f1 f2 g0 g1 g2 d0 d1 d2
      go_wp2
      go_roundw
      case rel => exact ⟨k + 1, by omega, by go_num, (hk6'.then0 hk7').then0 hk8⟩
      case measure => simp [intOf]; omega
    · have hk9 : ¬ (k : Int) < 2 := by omega
      have HC4 := Lib.hid (HC3.out.kept0 hkr)
      have HU4 : Hid (Bs wr (.slice Au p.length capu) p) := Lib.hid (HU3.out.kept0 hkr)
      have hk4 : Kept Kno w wr := hk3.then0 hkr
      clear HC3 HU3 hk3 hkr HY HYL
      go_wp2_with fail
      refine (int_any K a2 14 v l0 wr HC4.out (by omega) (by omega)).mono ?_
      rintro e w5 ⟨mm, hm, rfl, ⟨a5, hc5⟩, hkk5⟩
      have HC5 := Lib.hid hc5
      have HU5 := Lib.hid (HC4.out.bsk hkk5 HU4.out)
      have hk5 : Kept Kno w w5 := kept_case' hk4 hkk5 (Nat.le_of_lt hKw)
      clear hc5 hkk5 HC4 HU4 hk4
      go_wp2_with fail
      refine (cells_any K a5 mm v l0 w5 HC5.out (by omega)).mono ?_
      rintro e w6 ⟨Az, capz, zs, rfl, hrow, hzs, hall, -, hkk6⟩
      have HU6 := Lib.hid (HC5.out.bsk hkk6 HU5.out)
      have hk6 : Kept Kno w w6 := kept_case' hk5 hkk6 (Nat.le_of_lt hKw)
      have HZ : Hid (RowIn w6 (.slice Az zs.length capz) zs) := Lib.hid (hrow.row (fun x hx => (hall x hx).2))
      clear hrow hzs hkk6 HC5 hall hm HU5 hk5
      go_wp2_with fail
      have hkA : Kept Kno w6 (w6.alloc (.cells #[.slice Ar rs.length capr, .slice Az zs.length capz] 34)) := (Kept.refl _ _).alloc _
      have HQ := Lib.hid (Blk.new w6 34 #[.slice Ar rs.length capr, .slice Az zs.length capz])
      have HR7 : Hid (∀ w' (k : Nat), Kept Kno (w6.alloc (.cells #[.slice Ar rs.length capr, .slice Az zs.length capz] 34)) w' → k < 2 → ∃ A cap xs, w'.cell? ⟨w6.heap.size, k, none⟩ = some (.slice A xs.length cap) ∧ RowIn w' (.slice A xs.length cap) xs) := Lib.hid (fun w' k hk hk2 => by
        have q0 := hk.cell_some (HQ.out.cell 0) (fun h => h)
        have q1 := hk.cell_some (HQ.out.cell 1) (fun h => h)
        rcases k with _ | _ | k
        · exact ⟨Ar, capr, rs, q0, HR.out.kept0 ((hk6.then0 hkA).then0 hk)⟩
        · exact ⟨Az, capz, zs, q1, HZ.out.kept0 (hkA.then0 hk)⟩
        · omega)
      have HU7 := Lib.hid (HU6.out.kept0 hkA)
      have hk7 : Kept Kno w (w6.alloc (.cells #[.slice Ar rs.length capr, .slice Az zs.length capz] 34)) := hk6.then0 hkA
      generalize (w6.alloc (.cells #[.slice Ar rs.length capr, .slice Az zs.length capz] 34)) = w7 at HU7 hk7 HR7 ⊢
      clear HQ hkA HU6 HZ hk6 HR HX HX2
      go_loopw [72] (fun i wr => ValsRel w7 i wr) (fun i _ => 2 - (intOf i).toNat)
      case atStart => exact ⟨0, by omega, rfl, Kept.refl _ _⟩
      case round =>
        obtain ⟨k', hk2'', rfl, hkr'⟩ := hrel
        by_cases hlt' : k' < 2
        · have hk99 : (k' : Int) < 2 := by omega
          have hk90 : (0 : Int) ≤ (k' : Int) := by omega
          obtain ⟨A, cap, xs, c0, hrow⟩ := HR7.out wr k' hkr' hlt'
          have HROW := Lib.hid hrow
          clear hrow
          go_wp2_with fail
          refine (appendRow_any _ _ p xs wr (HU7.out.kept0 hkr') HROW.out (by omega)).mono ?_
          rintro e w8 ⟨A8, cap8, rfl, hown8, hk8⟩
          obtain ⟨q, hq⟩ : ∃ q, q = rowRes p xs := ⟨_, rfl⟩
          rw [← hq] at hown8 ⊢
          have HQQ := Lib.hid hq
          have HO8 := Lib.hid hown8
          have hk8' : Kept Kno w7 w8 := hkr'.then0 hk8
          have HROW8 := Lib.hid (HROW.out.kept0 hk8)
          clear hq hown8 hk8 HROW c0
          go_wp2_with fail
          refine (refAppendRow_any _ _ p xs w8 (HU7.out.kept0 hk8') HROW8.out (by omega)).mono ?_
          rw [← HQQ.out]
          rintro e w9 ⟨A9, cap9, rfl, hown9, hk9'⟩
          have hk9'' : Kept Kno w7 w9 := hk8'.then0 hk9'
          have HB8 : Hid (Bs w9 (.slice A8 q.1.length cap8) q.1) := Lib.hid (Rd.kept0 (OwnB.bs HO8.out) hk9')
          have HB9 : Hid (Bs w9 (.slice A9 q.1.length cap9) q.1) := Lib.hid (OwnB.bs hown9)
          have HROW9 := Lib.hid (HROW8.out.kept0 hk9')
          obtain ⟨qb, qe⟩ := q
          simp only at HB8 HB9 ⊢
          clear hown9 hk9' HO8 HQQ HROW8
          go_wp2_with fail
          refine (same_any _ _ qb qb w9 HB8.out HB9.out).mono ?_
          rw [decide_eq_true (Eq.refl qb)]
          rintro e w10 ⟨rfl, rfl⟩
          go_wp2_with fail
          refine (rowSize_any _ xs w9 HROW9.out).mono ?_
          rintro e w10 ⟨rfl, hk10⟩
          have HROW10 := Lib.hid (HROW9.out.kept0 hk10)
          obtain ⟨sz, hsz⟩ : ∃ sz : Int, sz = ((rowRes [] xs).1.length : Int) := ⟨_, rfl⟩
          rw [← hsz]
          have HSZ := Lib.hid hsz
          clear hsz
          go_wp2_with fail
          refine (refRowSize_any _ xs w10 HROW10.out).mono ?_
          rw [← HSZ.out]
          rintro e w11 ⟨rfl, hk11⟩
          go_wp2
          go_roundw
          case rel => exact ⟨k' + 1, by omega, by go_num, (hk9''.then0 hk10).then0 hk11⟩
          case measure => simp [intOf]; omega
        · have hk99 : ¬ (k' : Int) < 2 := by omega
          go_wp2_with fail
          refine (begun_any wr).mono ?_
          rintro e w8 ⟨rfl, hk8⟩
          go_wp2
          go_ret
          exact ⟨rfl, (hk7.then0 hkr').then0 hk8⟩

theorem values_final (cv : Value) (lc : List UInt8) (dv : Value) (l : List UInt8) (x : Val) (rv : Value) (rs : List Val) (w : World) (hc : Bs w cv lc ∧ lc.length ≤ maxLen) (hd : Bs w dv l ∧ l.length ≤ maxLen) (hx : okVal x) (hr : RowIn w rv rs) :
    Calls Try.prog 5 #[cv, dv, x.v, rv] w (RetNew (.bool true) w) :=
  values_walk cv dv lc l x rv rs w hc.1 hc.2 hd.1 hd.2 hx hr

end Go.Proofs.Ytdpbpmokmlnleaa
