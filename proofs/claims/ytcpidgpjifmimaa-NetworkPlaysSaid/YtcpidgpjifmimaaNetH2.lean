/-
  The reference's network: contracts of Take and Double.
-/
import Derived.Test.YtcpidgpjifmimaaNetH
import Derived.IntWalk
namespace Go.Proofs.Ytcpidgpjifmimaa
open Go.RowKit
set_option linter.unusedVariables false

/-- A row's beginning, and its rest, as slices that read. -/
theorem row_cut {w : World} {base g cap i : Nat} {ps : List Pk} (h : w.ownsRow base 44 2 (.slice (some ⟨g, 0, none⟩) ps.length cap) ps.length (pkCells ps)) (hi : i ≤ ps.length) (hc : ps.length ≤ cap) :
    Rd w 2 (.slice (some ⟨g, 0, none⟩) i cap) i ((pkCells ps).take (i * 2)) := by
  refine ⟨_, _, rfl, by omega, by rw [List.length_take, pkCells_length]; omega, (fun h => by cases h), fun ad hA j u hj => ?_⟩
  cases hA
  rw [List.getElem?_take] at hj
  split at hj
  · exact h.cells (g := g) rfl j u hj
  · cases hj

theorem row_rest {w : World} {base g cap i : Nat} {ps : List Pk} (h : w.ownsRow base 44 2 (.slice (some ⟨g, 0, none⟩) ps.length cap) ps.length (pkCells ps)) (hi : i < ps.length) (hc : ps.length ≤ cap) :
    ∃ ad : Addr, (if cap = i + 1 then (some ⟨g, 0, none⟩ : Option Addr) else some ⟨g, (i + 1) * 2, none⟩) = some ad ∧ Rd w 2 (.slice (some ad) (ps.length - (i + 1)) (cap - (i + 1))) (ps.length - (i + 1)) ((pkCells ps).drop ((i + 1) * 2)) := by
  have hl : ((pkCells ps).drop ((i + 1) * 2)).length = (ps.length - (i + 1)) * 2 := by rw [List.length_drop, pkCells_length]; omega
  by_cases hcap : cap = i + 1
  · refine ⟨⟨g, 0, none⟩, by rw [if_pos hcap], _, _, rfl, by omega, hl, (fun h => by cases h), fun ad hA j u hj => ?_⟩
    have : (pkCells ps).drop ((i + 1) * 2) = [] := List.drop_eq_nil_of_le (by rw [pkCells_length]; omega)
    rw [this] at hj
    cases hj
  · refine ⟨⟨g, (i + 1) * 2, none⟩, by rw [if_neg hcap], _, _, rfl, by omega, hl, (fun h => by cases h), fun ad hA j u hj => ?_⟩
    cases hA
    rw [List.getElem?_drop] at hj
    have := h.cells (g := g) rfl _ u hj
    rw [add_lit0] at this ⊢
    rwa [Nat.zero_add] at this

/-- Where the new row lies: where the old one lay, or in new memory. -/
def MovedW (w : World) (v v' : Value) : Prop := ∀ k, v'.ownBlock = some k → v.ownBlock = some k ∨ w.heap.size ≤ k
theorem Moved.w {w : World} {v v' : Value} (h : Moved w v v') : MovedW w v v' := fun k hk => by
  rcases h with h | ⟨k', h1, h2⟩
  · exact .inl (h ▸ hk)
  · rw [h1] at hk; injection hk with e; subst e; exact .inr h2

def RTakeYes (base B i : Nat) (v : Value) (ps : List Pk) (gone room : Int) (p : Pk) (w : World) (e : Ending) (w' : World) : Prop :=
  ∃ v', e = .returned (.tuple #[.agg #[.int .i64 p.dst, p.v], .bool true]) ∧ OwnB w' base 5 p.v p.l ∧
    RNet w' base B v' (ps.eraseIdx i) gone room ∧ Kept (NK B v) w w' ∧ MovedW w v v'

set_option maxHeartbeats 800000 in
theorem rtake_no (g n cap : Nat) (A : Option Addr) (i : Int) (w : World) (h : w.cell? ⟨g, 1, none⟩ = some (.slice A n cap)) (hi : i < 0 ∨ n ≤ i) :
    Calls Try.prog 18 #[.pointer (some ⟨g, 0, none⟩), .int .i64 i] w (RetNew (.tuple #[.agg #[.int .i64 0, .slice none 0 0], .bool false]) w) := by
  have hlt : g < w.heap.size := World.block_lt_of_cell? w _ h
  have c0 : (w.alloc (.cells #[.int .i64 0, .slice none 0 0] 44)).cell? ⟨g, 1, none⟩ = some (.slice A n cap) := (Kept.alloc (Kept.refl Kno w) _).cell_some h (fun h => h)
  go_enter Try.func18, Try.ntmps18
  go_wp2_with fail
  refine (rlook_no g n cap A i _ c0 hi).mono ?_
  rintro e w1 ⟨rfl, hk⟩
  have hb1 := (Blk.new w 44 #[.int .i64 0, .slice none 0 0]).kept hk (fun h => h)
  have q0 : w1.cell? ⟨w.heap.size, 0, none⟩ = some (.int .i64 0) := hb1.cell 0
  have q1 : w1.cell? ⟨w.heap.size, 1, none⟩ = some (.slice none 0 0) := hb1.cell 1
  have q2 := hb1.frozen 0
  have q3 := hb1.frozen 1
  have lt1 : w.heap.size < w1.heap.size := hb1.lt
  clear hb1
  go_wp2
  refine bodyPost_ret (v := .tuple #[.agg #[.int .i64 0, .slice none 0 0], .bool false]) (by simp [results, Try.results18, go_sem, q0, q1, lt1]) rfl ⟨rfl, ?_⟩
  exact ((((Kept.then0 (Kept.alloc (Kept.refl _ _) _) hk).setNew (Nat.le_refl _) _).setNew (Nat.le_refl _) _).alloc _)

theorem close_rtake {w wL wb : World} {base B i x1 : Nat} {v : Value} {ps : List Pk} {gone room : Int} {A2 : Option Addr} {cap2 : Nat} {cs1 cs2 : Array Value}
    (lB : B < w.heap.size) (hlt : i < ps.length) (lt1 : w.heap.size < x1) (hbase : base ≤ w.heap.size) (hk1 : Kept Kno w wL)
    (hnl : RNet wL base B v ps gone room) (hb1 : Blk wL w.heap.size 44 cs1) (hb2 : Blk wL x1 44 cs2) (hkb : Kept Kno wL wb)
    (hown2 : wb.ownsRow wL.heap.size 44 2 (.slice A2 (i + (ps.length - (i + 1))) cap2) (i + (ps.length - (i + 1))) ((pkCells ps).take (i * 2) ++ (pkCells ps).drop ((i + 1) * 2))) :
    ∀ wc, wc = wb.setCell ⟨B, 1, none⟩ (.slice A2 (i + (ps.length - (i + 1))) cap2) →
      RNet wc base B (.slice A2 (i + (ps.length - (i + 1))) cap2) (ps.eraseIdx i) gone room ∧ Blk wc w.heap.size 44 cs1 ∧ Blk wc x1 44 cs2 ∧ Kept (NK B v) w wc ∧
        (∀ k, (Value.slice A2 (i + (ps.length - (i + 1))) cap2).ownBlock = some k → wL.heap.size ≤ k) ∧ (∀ p ∈ ps, PkIn wc base p) ∧ Kept (Kone B) w wc := by
  rintro wc rfl
  have hnb := hnl.kept0 hkb
  have hkc : Kept (Kone B) w (wb.setCell ⟨B, 1, none⟩ (.slice A2 (i + (ps.length - (i + 1))) cap2)) := Kept.setIn (S := Kone B) (p := ⟨B, 1, none⟩) ((hk1.then0 hkb).mono (fun _ _ h => h.elim)) (Eq.refl B) _
  have hlen : i + (ps.length - (i + 1)) = (ps.eraseIdx i).length := by rw [List.length_eraseIdx, if_pos hlt]; omega
  have hrow : Row wb base (.slice A2 (i + (ps.length - (i + 1))) cap2) (ps.eraseIdx i) := by
    refine ⟨own_rebase (base := wL.heap.size) ?_ (fun k hk => by have := (own_base hown2 hk).1; have := hk1.size; omega), fun p hp => hnb.2.2.2 p (List.mem_of_mem_eraseIdx hp)⟩
    rw [pkCells_erase ps i hlt, ← hlen, show i * 2 + 2 = (i + 1) * 2 from by omega]
    exact hown2
  refine ⟨⟨hnl.1, hnb.2.1.set_ 1 _, hrow.far hnb.2.1 (by decide) (by decide) 1 _⟩, (hb1.kept hkb (fun h => h)).far (p := ⟨B, 1, none⟩) (by show w.heap.size ≠ B; omega) _, (hb2.kept hkb (fun h => h)).far (p := ⟨B, 1, none⟩) (by show x1 ≠ B; omega) _,
    hkc.mono (fun k _ e => .inl e), fun k hk => (own_base hown2 hk).1, fun p hp => ?_, hkc⟩
  exact ⟨own_far (hnb.2.2.2 p hp).1 (own_blk_ne (hnb.2.2.2 p hp).1 hnb.2.1 (by decide)) _, (hnb.2.2.2 p hp).2⟩

/-- The result's cell is written last. -/
theorem close_rtake2 {w wc : World} {base B i : Nat} {v v' : Value} {ps : List Pk} {p : Pk} {gone room : Int} {b1 : Nat} {cs : Array Value}
    (lB : B < w.heap.size) (hbase : base ≤ w.heap.size) (hr : RNet wc base B v' (ps.eraseIdx i) gone room) (hb : Blk wc w.heap.size 44 cs) (hk : Kept (NK B v) w wc) (hv : ∀ k, v'.ownBlock = some k → b1 ≤ k) (hb1 : w.heap.size < b1) (hp : PkIn wc base p) :
    RTakeYes base B i v ps gone room p w (.returned (.tuple #[.agg #[.int .i64 p.dst, p.v], .bool true]))
      ((wc.setCell ⟨w.heap.size, 0, none⟩ (.int .i64 p.dst)).setCell ⟨w.heap.size, 1, none⟩ p.v) := by
  have hk3 : Kept (Kone w.heap.size) wc ((wc.setCell ⟨w.heap.size, 0, none⟩ (.int .i64 p.dst)).setCell ⟨w.heap.size, 1, none⟩ p.v) :=
    Kept.setIn (S := Kone w.heap.size) (p := ⟨w.heap.size, 1, none⟩) (Kept.setIn (S := Kone w.heap.size) (p := ⟨w.heap.size, 0, none⟩) (Kept.refl _ _) (Eq.refl w.heap.size) _) (Eq.refl w.heap.size) _
  generalize (wc.setCell ⟨w.heap.size, 0, none⟩ (.int .i64 p.dst)).setCell ⟨w.heap.size, 1, none⟩ p.v = w3 at hk3
  refine ⟨v', rfl, own_kept hp.1 hk3 (fun k hk h => ?_), hr.kept hk3 ?_ ?_ ?_, hk.trans hk3 (fun k hk h => by unfold Kone at h; omega), ?_⟩
  · unfold Kone at h; subst h; exact own_blk_ne hp.1 hb (by decide) hk
  · intro h; unfold Kone at h; omega
  · intro k hk h; have := hv k hk; unfold Kone at h; omega
  · intro q hq k hk h; unfold Kone at h; subst h; exact own_blk_ne (hr.2.2.2 q hq).1 hb (by decide) hk
  · exact fun k hk => .inr (by have := hv k hk; omega)

set_option maxHeartbeats 3200000 in
theorem rtake_yes (base B i : Nat) (v : Value) (ps : List Pk) (d : Int) (Ap : Option Addr) (capp : Nat) (pl : List UInt8) (gone room : Int) (w : World) (h : RNet w base B v ps gone room) (hp : ps[i]? = some ⟨d, .slice Ap pl.length capp, pl⟩) (hbase : base ≤ w.heap.size) (hn : ps.length ≤ 1000000) :
    Calls Try.prog 18 #[.pointer (some ⟨B, 0, none⟩), .int .i64 i] w (RTakeYes base B i v ps gone room ⟨d, .slice Ap pl.length capp, pl⟩ w) := by
  obtain ⟨i0, hi, hz0, hz1, hz2⟩ := info_parts info_pk
  have hlt : i < ps.length := (List.getElem?_eq_some_iff.1 hp).1
  have HP := Lib.hid hp
  have H := Lib.hid h
  have c1 : w.cell? ⟨B, 1, none⟩ = some v := h.2.1.cell 1
  have lB : B < w.heap.size := h.2.1.lt
  clear h hp
  go_enter Try.func18, Try.ntmps18
  go_wp2_with fail
  refine (rlook_yes base B i v ps d Ap capp pl _ ((Kept.alloc (Kept.refl Kno w) _).cell_some c1 (fun h => h)) (H.out.kept0 ((Kept.refl _ _).alloc _)).2.2 HP.out hn).mono ?_
  rintro e w1 ⟨rfl, hk⟩
  have hk1 : Kept Kno w (w1.alloc (.cells #[.int .i64 d, .slice Ap pl.length capp] 44)) := ((Kept.alloc (Kept.refl _ _) _).then0 hk).alloc _
  have hb1 := ((Blk.new w 44 #[.int .i64 0, .slice none 0 0]).kept hk (fun h => h)).alloc (.cells #[.int .i64 d, .slice Ap pl.length capp] 44)
  have hb2 := Blk.new w1 44 #[.int .i64 d, .slice Ap pl.length capp]
  have lt1 : w.heap.size < w1.heap.size := ((Blk.new w 44 #[.int .i64 0, .slice none 0 0]).kept hk (fun h => h)).lt
  have hnl := H.out.kept0 hk1
  rcases hnl.2.2.1.2 with ⟨_, h0⟩ | ⟨g, cap, cur, rfl, hbg, hh, hnc, hcm, hs, ht⟩
  · omega
  go_wp2_with fail
  generalize (w1.alloc (.cells #[.int .i64 d, .slice Ap pl.length capp] 44)) = wL at hk1 hb1 hb2 hnl hh
  have d1 : wL.cell? ⟨B, 1, none⟩ = some (.slice (some ⟨g, 0, none⟩) ps.length cap) := hnl.2.1.cell 1
  have f1 : wL.frozen? ⟨B, 1, none⟩ = false := hnl.2.1.frozen 1
  have lBL : B < wL.heap.size := hnl.2.1.lt
  have hcut := row_cut hnl.2.2.1 (Nat.le_of_lt hlt) hnc
  obtain ⟨ad, had, hrest⟩ := row_rest hnl.2.2.1 hlt hnc
  have M0 := Lib.hid (World.ownsRow_made (base := wL.heap.size) (e := 44) (size := 2) wL #[] 0 (Nat.le_refl _) (by decide) rfl)
  have hone := pk_one hnl.2.2
  have O1 := Lib.hid (show ∀ u ∈ (pkCells ps).take (i * 2), u.oneCell' = true from fun u hu => hone u (List.mem_of_mem_take hu))
  have O2 := Lib.hid (show ∀ u ∈ (pkCells ps).drop ((i + 1) * 2), u.oneCell' = true from fun u hu => hone u (List.mem_of_mem_drop hu))
  have HCUT := Lib.hid hcut
  have HREST := Lib.hid hrest
  have HNL := Lib.hid hnl
  have HB1 := Lib.hid hb1
  have HB2 := Lib.hid hb2
  have k1 : i ≤ cap := by omega
  have k2 : i + 1 ≤ ps.length := by omega
  have k3 : ((i : Int) + 1).toNat = i + 1 := by omega
  have k4 : (0 : Int) ≤ (i : Int) + 1 := by omega
  have k5 : (i : Int) + 1 ≤ (ps.length : Int) := by omega
  have k6 : (0 : Int) ≤ (i : Int) := by omega
  have k7 : (i : Int) ≤ (cap : Int) := by omega
  have m1 : 0 + i ≤ maxLen := by simp only [maxLen]; omega
  have kw : IntKind.i64.wrap ((i : Int) + 1) = (i : Int) + 1 := IntWalk.i64_in _ (by omega)
  have m2 : i + (ps.length - (i + 1)) ≤ maxLen := by simp only [maxLen]; omega
  have m4 : cap ≤ 9223372036854775807 := by simp only [maxLen] at hcm; omega
  clear hcut hrest hnl hb1 hb2 hone hh hs ht hcm c1
  go_region_law (first
     | (refine step_append_rd _ (by rfl) (.tmp 16) (.tmp 22) 31 (by rfl) wL.heap.size 44 i0 _ 2 32 Try.underlying31 hi hz0 hz1 hz2 rfl (by omega) (.slice (some ⟨wL.heap.size, 0, none⟩) 0 0) 0 [] (by rfl) M0.out _ i ((pkCells ps).take (i * 2)) (by rfl) (Rd.alloc HCUT.out _) O1.out m1 (by omega) (by simp) ?_
        intro A1 cap1 wa hown1 hg1 hat1
        have hka : Kept Kno wL wa := (Kept.drew (Kept.alloc (Kept.refl _ wL) _)).grown hg1 (fun k hk e => by cases e; exact absurd hk (Nat.lt_irrefl _))
        have q : wa.cell? ⟨B, 1, none⟩ = some (.slice (some ⟨g, 0, none⟩) ps.length cap) := hka.cell_some d1 (fun h => h)
        have q' : wa.frozen? ⟨B, 1, none⟩ = false := hka.frozen_no f1 lBL (fun h => h)
        simp only [Nat.zero_add, List.nil_append] at hown1
        rw [Nat.zero_add])
     | (refine step_append_rd _ (by rfl) (.tmp 23) (.tmp 30) 31 (by rfl) wL.heap.size 44 i0 _ 2 32 Try.underlying31 hi hz0 hz1 hz2 rfl (by omega) (.slice A1 i cap1) i _ (by rfl) hown1 _ (ps.length - (i + 1)) ((pkCells ps).drop ((i + 1) * 2)) (by rfl) (Rd.kept0 HREST.out hka) O2.out m2 (by omega) hka.size ?_
        intro A2 cap2 wb hown2 hg2 hat2
        have hkb : Kept Kno wL wb := hka.grown hg2 (fun k hk e => by have := (own_base hown1 e).1; omega)
        have q0 : wb.cell? ⟨B, 1, none⟩ = some (.slice (some ⟨g, 0, none⟩) ps.length cap) := hkb.cell_some d1 (fun h => h)
        have q1 : wb.frozen? ⟨B, 1, none⟩ = false := hkb.frozen_no f1 lBL (fun h => h)))
  all_goals
    obtain ⟨hrn, hbc, hbt, hkc, hvc, hpc, -⟩ := close_rtake lB hlt lt1 hbase hk1 HNL.out HB1.out HB2.out hkb hown2 _ rfl
    generalize (wb.setCell ⟨B, 1, none⟩ (.slice A2 (i + (ps.length - (i + 1))) cap2)) = wc at hrn hbc hbt hkc hpc
    have r0 : wc.cell? ⟨w.heap.size, 0, none⟩ = some (.int .i64 0) := hbc.cell 0
    have r1 : wc.cell? ⟨w.heap.size, 1, none⟩ = some (.slice none 0 0) := hbc.cell 1
    have r2 := hbc.frozen 0
    have r3 := hbc.frozen 1
    have r4 : wc.cell? ⟨w1.heap.size, 0, none⟩ = some (.int .i64 d) := hbt.cell 0
    have r5 : wc.cell? ⟨w1.heap.size, 1, none⟩ = some (.slice Ap pl.length capp) := hbt.cell 1
    have HRN := Lib.hid hrn
    have HBC := Lib.hid hbc
    have HVC := Lib.hid hvc
    have HPC := Lib.hid (hpc _ (List.mem_of_getElem? HP.out))
    clear hrn hbc hbt hvc hpc had kw k3
    go_wp2
    exact bodyPost_ret (v := .tuple #[.agg #[.int .i64 d, .slice Ap pl.length capp], .bool true]) (by simp [results, Try.results18, go_sem, r0, r1]) rfl
      (close_rtake2 (p := ⟨d, .slice Ap pl.length capp, pl⟩) lB hbase HRN.out HBC.out hkc HVC.out (HB1.out.lt) HPC.out)


set_option maxHeartbeats 400000 in
theorem rdouble_out (g n cap : Nat) (A : Option Addr) (i : Int) (w : World) (h : w.cell? ⟨g, 1, none⟩ = some (.slice A n cap)) (hi : i < 0 ∨ n ≤ i) :
    Calls Try.prog 20 #[.pointer (some ⟨g, 0, none⟩), .int .i64 i] w (RetNew (.bool false) w) := by
  go_enter Try.func20, Try.ntmps20
  go_wp2_with fail
  refine (rlook_no g n cap A i _ h hi).mono ?_
  rintro e w1 ⟨rfl, hk⟩
  go_wp2_with fail
  go_quiet (fail)
  go_wp2
  go_ret
  exact ⟨rfl, (hk.alloc _).drewN _⟩

set_option maxHeartbeats 800000 in
theorem rdouble_full (base B i : Nat) (v : Value) (ps : List Pk) (d : Int) (Ap : Option Addr) (capp : Nat) (pl : List UInt8) (gone room : Int) (w : World) (h : RNet w base B v ps gone room) (hp : ps[i]? = some ⟨d, .slice Ap pl.length capp, pl⟩) (hn : ps.length ≤ 1000000) (hr : room ≤ ps.length) :
    Calls Try.prog 20 #[.pointer (some ⟨B, 0, none⟩), .int .i64 i] w (RetNew (.bool false) w) := by
  obtain ⟨hB, hb, hrow⟩ := h
  obtain ⟨A, cap, rfl⟩ := own_form hrow.1
  have c0 : w.cell? ⟨B, 0, none⟩ = some (.int .i64 room) := hb.cell 0
  have c1 : w.cell? ⟨B, 1, none⟩ = some (.slice A ps.length cap) := hb.cell 1
  have HR := Lib.hid hrow
  have HP := Lib.hid hp
  clear hrow hb hp
  go_enter Try.func20, Try.ntmps20
  go_wp2_with fail
  refine (rlook_yes base B i _ ps d Ap capp pl _ c1 HR.out HP.out hn).mono ?_
  rintro e w1 ⟨rfl, hk⟩
  have d0 : w1.cell? ⟨B, 0, none⟩ = some (.int .i64 room) := hk.cell_some c0 (fun h => h)
  have d1 : w1.cell? ⟨B, 1, none⟩ = some (.slice A ps.length cap) := hk.cell_some c1 (fun h => h)
  have l0 : B < w1.heap.size := World.block_lt_of_cell? w1 _ d0
  have hr2 : decide ((ps.length : Int) < room) = false := by simp; omega
  go_wp2_with fail
  go_quiet (fail)
  go_wp2
  go_ret
  exact ⟨rfl, (hk.alloc _).drewN _⟩

def RDoubleYes (base B : Nat) (v : Value) (ps : List Pk) (gone room dst : Int) (l : List UInt8) (w : World) (e : Ending) (w' : World) : Prop :=
  e = .returned (.bool true) ∧ ∃ v' p, p.dst = dst ∧ p.l = l ∧ RNet w' base B v' (ps ++ [p]) gone room ∧ Kept (NK B v) w w' ∧ MovedW w v v'

set_option maxHeartbeats 1600000 in
theorem rdouble_yes (base B i : Nat) (v : Value) (ps : List Pk) (d : Int) (Ap : Option Addr) (capp : Nat) (pl : List UInt8) (gone room : Int) (w : World) (h : RNet w base B v ps gone room) (hp : ps[i]? = some ⟨d, .slice Ap pl.length capp, pl⟩) (hbase : base ≤ w.heap.size) (hn : ps.length ≤ 1000000) (hl : pl.length ≤ 1000000) (hr : ps.length < room) :
    Calls Try.prog 20 #[.pointer (some ⟨B, 0, none⟩), .int .i64 i] w (RDoubleYes base B v ps gone room d pl w) := by
  have H := Lib.hid h
  obtain ⟨hB, hb, hrow⟩ := h
  obtain ⟨A, cap, rfl⟩ := own_form hrow.1
  have c0 : w.cell? ⟨B, 0, none⟩ = some (.int .i64 room) := hb.cell 0
  have c1 : w.cell? ⟨B, 1, none⟩ = some (.slice A ps.length cap) := hb.cell 1
  have HR := Lib.hid hrow
  have HP := Lib.hid hp
  clear hrow hb hp
  go_enter Try.func20, Try.ntmps20
  go_wp2_with fail
  refine (rlook_yes base B i _ ps d Ap capp pl _ c1 HR.out HP.out hn).mono ?_
  rintro e w1 ⟨rfl, hk⟩
  have hkL : Kept Kno w (w1.alloc (.cells #[.int .i64 d, .slice Ap pl.length capp] 44)) := hk.alloc _
  have hb2 := Blk.new w1 44 #[.int .i64 d, .slice Ap pl.length capp]
  have hnl := H.out.kept0 hkL
  go_wp2_with fail
  generalize (w1.alloc (.cells #[.int .i64 d, .slice Ap pl.length capp] 44)) = wL at hkL hb2 hnl
  have d0 : wL.cell? ⟨B, 0, none⟩ = some (.int .i64 room) := hnl.2.1.cell 0
  have d1 : wL.cell? ⟨B, 1, none⟩ = some (.slice A ps.length cap) := hnl.2.1.cell 1
  have d2 : wL.cell? ⟨w1.heap.size, 0, none⟩ = some (.int .i64 d) := hb2.cell 0
  have d3 : wL.cell? ⟨w1.heap.size, 1, none⟩ = some (.slice Ap pl.length capp) := hb2.cell 1
  have hbs : Bs wL.drew (.slice Ap pl.length capp) pl := (hnl.2.2.2 _ (List.mem_of_getElem? HP.out)).1.bs
  have hnd : RNet wL.drew base B (.slice A ps.length cap) ps gone room := hnl
  have hbl : base ≤ wL.drew.heap.size := Nat.le_trans hbase hkL.size
  have hr2 : decide ((ps.length : Int) < room) = true := by simpa using hr
  have HBS := Lib.hid hbs
  have HND := Lib.hid hnd
  clear hb2 hnl hbs hnd
  go_region_law ((go_simp; go_at_call 17; refine (rsend_yes base B _ _ ps gone room d pl _ HND.out HBS.out hl hbl hn hr).mono ?_; rintro e w2 ⟨rfl, v2, p2, hp1, hp2, hn2, hk2, hm2⟩))
  all_goals
    go_wp2
    go_ret
    exact ⟨rfl, v2, p2, hp1, hp2, hn2, (hkL.drew.mono (fun _ _ h => h.elim)).trans hk2 (fun _ _ h => h), fun k hk' => (hm2.w k hk').imp id (fun h => Nat.le_trans hkL.size h)⟩

end Go.Proofs.Ytcpidgpjifmimaa
