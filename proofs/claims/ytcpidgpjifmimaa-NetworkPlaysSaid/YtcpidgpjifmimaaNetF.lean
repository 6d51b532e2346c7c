/-
  Network: contracts of Drop and Take.
-/
import Derived.Test.YtcpidgpjifmimaaNetE
import Derived.BigRegion
namespace Go.Proofs.Ytcpidgpjifmimaa
open Go.RowKit
set_option linter.unusedVariables false

theorem pkCells_erase (ps : List Pk) (i : Nat) (hi : i < ps.length) : pkCells (ps.eraseIdx i) = (pkCells ps).take (i * 2) ++ (pkCells ps).drop (i * 2 + 2) := by
  induction ps generalizing i with
  | nil => simp at hi
  | cons q ps ih =>
    cases i with
    | zero => simp [pkCells]
    | succ i =>
      have h2 := ih i (by simpa using hi)
      rw [List.eraseIdx_cons_succ, show (i + 1) * 2 = i * 2 + 1 + 1 from by omega, show i * 2 + 1 + 1 + 2 = i * 2 + 2 + 1 + 1 from by omega]
      simpa [pkCells] using h2

theorem pk_one {w : World} {base : Nat} {v : Value} {ps : List Pk} (h : Row w base v ps) : ∀ u ∈ pkCells ps, u.oneCell' = true := by
  intro u hu
  obtain ⟨p, hp, hu⟩ := List.mem_flatMap.1 hu
  obtain ⟨A, cap, hv⟩ := own_form (h.2 p hp).1
  simp only [List.mem_cons, List.not_mem_nil, or_false] at hu
  rcases hu with rfl | rfl
  · rfl
  · rw [hv]; rfl

set_option maxHeartbeats 400000 in
theorem drop_no (g n cap : Nat) (A : Option Addr) (i : Int) (w : World) (h : w.cell? ⟨g, 0, none⟩ = some (.slice A n cap)) (hi : i < 0 ∨ n ≤ i) :
    Calls Try.prog 15 #[.pointer (some ⟨g, 0, none⟩), .int .i64 i] w fun e w' => e = .returned (.bool false) ∧ w = w' := by
  rcases hi with hi | hi
  · go_enter Try.func15, Try.ntmps15
    go_wp2_with fail
    go_ret
    exact ⟨rfl, rfl⟩
  · have h' : ¬ i < 0 := by omega
    go_enter Try.func15, Try.ntmps15
    go_wp2_with fail
    go_ret
    exact ⟨rfl, rfl⟩

def DropYes (base B i : Nat) (v : Value) (ps : List Pk) (lost room : Int) (w : World) (e : Ending) (w' : World) : Prop :=
  e = .returned (.bool true) ∧ ∃ v', Net w' base B v' (ps.eraseIdx i) lost room ∧ Kept (NK B v) w w' ∧ v'.ownBlock = v.ownBlock

set_option maxHeartbeats 800000 in
theorem drop_yes (base B i : Nat) (v : Value) (ps : List Pk) (lost room : Int) (w : World) (h : Net w base B v ps lost room) (hi : i < ps.length) (hn : ps.length ≤ 1000000) :
    Calls Try.prog 15 #[.pointer (some ⟨B, 0, none⟩), .int .i64 i] w (DropYes base B i v ps lost room w) := by
  have H := Lib.hid h
  obtain ⟨hB, hb, hrow⟩ := h
  have hone := pk_one hrow
  have hne := own_blk_ne hrow.1 hb (by decide)
  rcases hrow.1.2 with ⟨_, h0⟩ | ⟨g, cap, cur, rfl, hbg, hh, hnc, hcm, hs, ht⟩
  · omega
  have c0 : w.cell? ⟨B, 0, none⟩ = some (.slice (some ⟨g, 0, none⟩) ps.length cap) := hb.cell 0
  have f0 := hb.frozen 0
  have m0 : (0 : Int) ≤ (i : Int) := by omega
  have m1 : (i : Int) < (ps.length : Int) := by omega
  have HH := Lib.hid hh
  have HS := Lib.hid hs
  have HT := Lib.hid ht
  have H1 := Lib.hid hone
  have hgB : g ≠ B := fun e => hne (by rw [e]; rfl)
  clear hh hs ht hb hrow hone hne
  go_enter Try.func15, Try.ntmps15
  go_wp2_with fail
  refine (delete_one base g ps.length cap i cur (pkCells ps) _ hbg HH.out hi hnc hcm HS.out HT.out H1.out hn).mono ?_
  rintro e w1 ⟨rfl, hown, hk⟩
  have d0 : w1.cell? ⟨B, 0, none⟩ = some (.slice (some ⟨g, 0, none⟩) ps.length cap) := hk.cell_some c0 (fun e => hgB e.symm)
  have d1 : w1.frozen? ⟨B, 0, none⟩ = false := hk.frozen_no f0 (World.block_lt_of_cell? w _ c0) (fun e => hgB e.symm)
  go_wp2
  go_ret
  obtain ⟨_, hb, hrow⟩ := H.out
  have hb1 := hb.kept hk (fun e => hgB e.symm)
  have hlen : (ps.eraseIdx i).length = ps.length - 1 := by rw [List.length_eraseIdx, if_pos hi]
  have hrow1 : Row w1 base (.slice (some ⟨g, 0, none⟩) (ps.length - 1) cap) (ps.eraseIdx i) := by
    refine ⟨by rw [hlen, pkCells_erase ps i hi]; exact hown, fun p hp => ?_⟩
    have hpi := hrow.2 p (List.mem_of_mem_eraseIdx hp)
    exact hpi.kept hk (fun k hk' e => by unfold Kone at e; subst e; exact byte_ne_pk hpi hrow.1 hk' rfl)
  refine ⟨rfl, _, ⟨hB, hb1.set_ 0 _, hrow1.far hb1 (by decide) (by decide) 0 _⟩, (hk.mono (fun k _ e => .inr (by unfold Kone at e; rw [e]; rfl))).setIn (.inl rfl) _, rfl⟩

def TakeYes (base B i : Nat) (v : Value) (ps : List Pk) (lost room : Int) (p : Pk) (w : World) (e : Ending) (w' : World) : Prop :=
  ∃ A cap v', e = .returned (.tuple #[.agg #[.int .i64 p.dst, .slice A p.l.length cap], .bool true]) ∧ OwnB w' w.heap.size 5 (.slice A p.l.length cap) p.l ∧
    Net w' base B v' (ps.eraseIdx i) lost room ∧ Kept (NK B v) w w' ∧ v'.ownBlock = v.ownBlock

set_option maxHeartbeats 800000 in
theorem take_no (g n cap : Nat) (A : Option Addr) (i : Int) (w : World) (h : w.cell? ⟨g, 0, none⟩ = some (.slice A n cap)) (hi : i < 0 ∨ n ≤ i) :
    Calls Try.prog 14 #[.pointer (some ⟨g, 0, none⟩), .int .i64 i] w (RetNew (.tuple #[.agg #[.int .i64 0, .slice none 0 0], .bool false]) w) := by
  have hlt : g < w.heap.size := World.block_lt_of_cell? w _ h
  have c0 : (w.alloc (.cells #[.int .i64 0, .slice none 0 0] 44)).cell? ⟨g, 0, none⟩ = some (.slice A n cap) := (Kept.alloc (Kept.refl Kno w) _).cell_some h (fun h => h)
  go_enter Try.func14, Try.ntmps14
  go_wp2_with fail
  refine (look_no g n cap A i _ c0 hi).mono ?_
  rintro e w1 ⟨rfl, hk⟩
  have hb1 := (Blk.new w 44 #[.int .i64 0, .slice none 0 0]).kept hk (fun h => h)
  have q0 : w1.cell? ⟨w.heap.size, 0, none⟩ = some (.int .i64 0) := hb1.cell 0
  have q1 : w1.cell? ⟨w.heap.size, 1, none⟩ = some (.slice none 0 0) := hb1.cell 1
  have q2 := hb1.frozen 0
  have q3 := hb1.frozen 1
  have lt1 : w.heap.size < w1.heap.size := hb1.lt
  have HB := Lib.hid hb1
  clear hb1
  go_wp2_with fail
  go_region
  go_wp2
  refine bodyPost_ret (v := .tuple #[.agg #[.int .i64 0, .slice none 0 0], .bool false]) (by simp [results, Try.results14, go_sem, q0, q1, lt1]) rfl ⟨rfl, ?_⟩
  exact ((((Kept.then0 (Kept.alloc (Kept.refl _ _) _) hk).setNew (Nat.le_refl _) _).setNew (Nat.le_refl _) _).alloc _).drew

theorem close_take {w w1 w2 : World} {base B i : Nat} {v v2 : Value} {ps : List Pk} {p : Pk} {lost room : Int} {A1 : Option Addr} {cap1 : Nat} {o : Obj} {cs : Array Value} {b0 : Nat}
    (lB : B < w.heap.size) (hv : ∀ k, v.ownBlock = some k → k < w.heap.size) (hk1 : Kept Kno w w1) (lt1 : w.heap.size < w1.heap.size) (hb0 : w.heap.size + 1 ≤ b0)
    (hown : OwnB w1 b0 5 (.slice A1 p.l.length cap1) p.l)
    (hn2 : Net w2 base B v2 (ps.eraseIdx i) lost room) (hk2 : Kept (NK B v) (w1.alloc o).drew w2) (hm2 : v2.ownBlock = v.ownBlock) (hr : Blk w2 w.heap.size 44 cs) :
    TakeYes base B i v ps lost room p w (.returned (.tuple #[.agg #[.int .i64 p.dst, .slice A1 p.l.length cap1], .bool true]))
      ((w2.setCell ⟨w.heap.size, 0, none⟩ (.int .i64 p.dst)).setCell ⟨w.heap.size, 1, none⟩ (.slice A1 p.l.length cap1)) := by
  have hk3 : Kept (Kone w.heap.size) w2 ((w2.setCell ⟨w.heap.size, 0, none⟩ (.int .i64 p.dst)).setCell ⟨w.heap.size, 1, none⟩ (.slice A1 p.l.length cap1)) :=
    Kept.setIn (S := Kone w.heap.size) (p := ⟨w.heap.size, 1, none⟩) (Kept.setIn (S := Kone w.heap.size) (p := ⟨w.heap.size, 0, none⟩) (Kept.refl _ _) (Eq.refl w.heap.size) _) (Eq.refl w.heap.size) _
  generalize (w2.setCell ⟨w.heap.size, 0, none⟩ (.int .i64 p.dst)).setCell ⟨w.heap.size, 1, none⟩ (.slice A1 p.l.length cap1) = w3 at hk3
  refine ⟨A1, cap1, v2, rfl, ?_, ?_, ?_, hm2⟩
  · have hb : ∀ k, (Value.slice A1 p.l.length cap1).ownBlock = some k → w.heap.size + 1 ≤ k := fun k hk => by have := (own_base hown hk).1; omega
    refine own_rebase (own_kept (own_kept (own_kept (S := Kno) hown ((Kept.alloc (Kept.refl _ _) o).drew) (fun _ _ h => h)) hk2 ?_) hk3 ?_) (fun k hk => by have := hb k hk; omega)
    · intro k hk h
      have := hb k hk
      rcases h with h | h
      · omega
      · have := hv k h; omega
    · intro k hk h
      have := hb k hk
      unfold Kone at h
      omega
  · refine hn2.kept hk3 ?_ ?_ ?_
    · intro h; unfold Kone at h; omega
    · intro k hk h; rw [hm2] at hk; have := hv k hk; unfold Kone at h; omega
    · intro q hq k hk h
      unfold Kone at h
      subst h
      exact own_blk_ne (hn2.2.2.2 q hq).1 hr (by decide) hk
  · have h1 : Kept (NK B v) w w2 := ((Kept.mono hk1 (fun _ _ h => h.elim)).alloc o).drew.trans hk2 (fun _ _ h => h)
    exact h1.trans hk3 (fun k hk h => by unfold Kone at h; omega)

set_option maxHeartbeats 1600000 in
theorem take_yes (base B i : Nat) (v : Value) (ps : List Pk) (p : Pk) (lost room : Int) (w : World) (h : Net w base B v ps lost room) (hp : ps[i]? = some p) (hn : ps.length ≤ 1000000) :
    Calls Try.prog 14 #[.pointer (some ⟨B, 0, none⟩), .int .i64 i] w (TakeYes base B i v ps lost room p w) := by
  have hlt : i < ps.length := (List.getElem?_eq_some_iff.1 hp).1
  have HP := Lib.hid hp
  have H := Lib.hid h
  have lB : B < w.heap.size := h.2.1.lt
  have c0 : w.cell? ⟨B, 0, none⟩ = some v := h.2.1.cell 0
  clear h hp
  go_enter Try.func14, Try.ntmps14
  go_wp2_with fail
  refine (look_yes base B i v ps p _ ((Kept.alloc (Kept.refl Kno w) _).cell_some c0 (fun h => h)) (H.out.kept0 ((Kept.refl _ _).alloc _)).2.2 HP.out hn).mono ?_
  rintro e w1 ⟨A1, cap1, rfl, hown, hk⟩
  have hb1 := (Blk.new w 44 #[.int .i64 0, .slice none 0 0]).kept hk (fun h => h)
  have q0 : w1.cell? ⟨w.heap.size, 0, none⟩ = some (.int .i64 0) := hb1.cell 0
  have q1 : w1.cell? ⟨w.heap.size, 1, none⟩ = some (.slice none 0 0) := hb1.cell 1
  have q2 := hb1.frozen 0
  have q3 := hb1.frozen 1
  have lt1 : w.heap.size < w1.heap.size := hb1.lt
  have hk1 : Kept Kno w w1 := (Kept.alloc (Kept.refl _ _) _).then0 hk
  have hv0 : ∀ k, v.ownBlock = some k → k < w.heap.size := fun k hk => (own_base H.out.2.2.1 hk).2
  have HV := Lib.hid hv0
  have HB := Lib.hid hb1
  have HO := Lib.hid hown
  clear hb1 hv0 hown hk c0
  go_wp2_with fail
  have HN := Lib.hid (((H.out.kept0 hk1).kept0 ((Kept.refl _ _).alloc (.cells #[.int .i64 p.dst, .slice A1 p.l.length cap1] 44))).kept0 (Kept.drew (Kept.refl _ _)))
  have nk1 := Lib.hid (show ¬ NK B v w.heap.size from fun h => by
    rcases h with h | h
    · omega
    · have := HV.out _ h; omega)
  have nk2 := Lib.hid (show ¬ NK B v w1.heap.size from fun h => by
    rcases h with h | h
    · omega
    · have := HV.out _ h; omega)
  have HBR := Lib.hid ((HB.out.alloc (.cells #[.int .i64 p.dst, .slice A1 p.l.length cap1] 44)).drew)
  have HBT := Lib.hid ((Blk.new w1 44 #[.int .i64 p.dst, .slice A1 p.l.length cap1]).drew)
  go_region_law ((go_simp; go_at_call 15; refine (drop_yes base B i v ps lost room _ HN.out hlt hn).mono ?_; rintro e w2 ⟨rfl, v2, hn2, hk2, hm2⟩
                  have hbr := HBR.out.kept hk2 nk1.out
                  have hbt := HBT.out.kept hk2 nk2.out
                  have r0 : w2.cell? ⟨w.heap.size, 0, none⟩ = some (.int .i64 0) := hbr.cell 0
                  have r1 : w2.cell? ⟨w.heap.size, 1, none⟩ = some (.slice none 0 0) := hbr.cell 1
                  have r2 := hbr.frozen 0
                  have r3 := hbr.frozen 1
                  have r4 : w2.cell? ⟨w1.heap.size, 0, none⟩ = some (.int .i64 p.dst) := hbt.cell 0
                  have r5 : w2.cell? ⟨w1.heap.size, 1, none⟩ = some (.slice A1 p.l.length cap1) := hbt.cell 1
                  have HR2 := Lib.hid hbr
                  have HN2 := Lib.hid hn2
                  clear hbr hbt hn2))
  all_goals
    go_wp2
    exact bodyPost_ret (v := .tuple #[.agg #[.int .i64 p.dst, .slice A1 p.l.length cap1], .bool true]) (by simp [results, Try.results14, go_sem, r0, r1]) rfl (close_take lB HV.out hk1 lt1 (by simp) HO.out HN2.out hk2 hm2 HR2.out)

end Go.Proofs.Ytcpidgpjifmimaa
