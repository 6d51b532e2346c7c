/-
  Journal: a journal in memory; note, size, Len, Records.
-/
import Derived.Test.YteoodgcpkgfomaaJourH
import Derived.Test.YteoodgcpkgfomaaDiskJ
namespace Go.Proofs.Yteoodgcpkgfomaa
open Go.RowKit
set_option linter.unusedVariables false

/-- Block J is a journal of the records rs over the disk in block B. -/
structure Jr (w : World) (base J B : Nat) (file : Int) (rv ev : Value) (us : List Value) (rs : List (List UInt8)) (off : Bool) : Prop where
  low : base ≤ J
  blk : Blk w J 90 (jCells B file rv ev off)
  rr : RR w base rv us rs
  er : ER w base ev rs
  fit : (frames rs).length ≤ 20000000
/-- The blocks of a journal. -/
def JOwn (J : Nat) (rv ev : Value) (us : List Value) : Nat → Prop := fun k => k = J ∨ rv.ownBlock = some k ∨ ev.ownBlock = some k ∨ ∃ u ∈ us, u.ownBlock = some k

section
variable {w w' : World} {base J B : Nat} {file : Int} {rv ev : Value} {us : List Value} {rs : List (List UInt8)} {off : Bool} {S : Nat → Prop}
theorem Jr.kept (h : Jr w base J B file rv ev us rs off) (hk : Kept S w w') (hS : ∀ k, JOwn J rv ev us k → ¬ S k) : Jr w' base J B file rv ev us rs off :=
  ⟨h.low, h.blk.kept hk (hS _ (.inl rfl)), h.rr.kept hk (fun k e => hS k (.inr (.inl e))) (fun u hu k e => hS k (.inr (.inr (.inr ⟨u, hu, e⟩)))), h.er.kept hk (fun k e => hS k (.inr (.inr (.inl e)))), h.fit⟩
theorem Jr.kept0 (h : Jr w base J B file rv ev us rs off) (hk : Kept Kno w w') : Jr w' base J B file rv ev us rs off := h.kept hk (fun _ _ h => h)
theorem Jr.own_low (h : Jr w base J B file rv ev us rs off) {k : Nat} (hk : JOwn J rv ev us k) : base ≤ k ∧ k < w.heap.size := by
  rcases hk with rfl | e | e | ⟨u, hu, e⟩
  · exact ⟨h.low, h.blk.lt⟩
  · exact own_base h.rr.row e
  · exact own_base h.er e
  · obtain ⟨b, hb⟩ := h.rr.at hu
    exact ⟨(hb.2 k e).1, (hb.2 k e).2.lt⟩
theorem Jr.c_off (h : Jr w base J B file rv ev us rs off) : w.cell? ⟨J, 4, none⟩ = some (.bool off) := h.blk.cell 4
theorem Jr.c_disk (h : Jr w base J B file rv ev us rs off) : w.cell? ⟨J, 0, none⟩ = some (.pointer (some ⟨B, 0, none⟩)) := h.blk.cell 0
theorem Jr.c_file (h : Jr w base J B file rv ev us rs off) : w.cell? ⟨J, 1, none⟩ = some (.int .i64 file) := h.blk.cell 1
theorem Jr.c_recs (h : Jr w base J B file rv ev us rs off) : w.cell? ⟨J, 2, none⟩ = some rv := h.blk.cell 2
theorem Jr.c_ends (h : Jr w base J B file rv ev us rs off) : w.cell? ⟨J, 3, none⟩ = some ev := h.blk.cell 3
theorem Jr.cnt (h : Jr w base J B file rv ev us rs off) : rs.length ≤ 20000000 := Nat.le_trans (frames_ge rs) h.fit
theorem mem_frames {b : List UInt8} {rs : List (List UInt8)} (h : b ∈ rs) : b.length ≤ (frames rs).length := by
  induction rs with
  | nil => simp at h
  | cons r rs ih =>
    rw [frames_cons, List.length_append]
    rcases List.mem_cons.1 h with rfl | h
    · rw [frame_length]; omega
    · have := ih h; omega
/-- The power is noted. -/
theorem Jr.set_off (h : Jr w base J B file rv ev us rs off) (o : Bool) : Jr (w.setCell ⟨J, 4, none⟩ (.bool o)) base J B file rv ev us rs o := by
  have hk : Kept (Kone J) w (w.setCell ⟨J, 4, none⟩ (.bool o)) := Kept.setIn (S := Kone J) (Kept.refl _ _) (p := ⟨J, 4, none⟩) (Eq.refl J) _
  have hb := h.blk.bt
  refine ⟨h.low, h.blk.set_ 4 (.bool o), h.rr.kept hk (fun k e e' => ?_) (fun u hu k e e' => ?_), h.er.kept hk (fun k e e' => ?_), h.fit⟩
  · unfold Kone at e'; subst e'; exact absurd (hb.one (own_bt h.rr.row e)) (by decide)
  · unfold Kone at e'; subst e'
    obtain ⟨b, hb'⟩ := h.rr.at hu
    exact absurd (hb.one (hb'.2 _ e).2) (by decide)
  · unfold Kone at e'; subst e'; exact absurd (hb.one (own_bt h.er e)) (by decide)
end

/-- What note leaves. -/
def noteTo (J : Nat) (c : Int) (w : World) : World := if c = 220 then w.setCell ⟨J, 4, none⟩ (.bool true) else w
set_option maxHeartbeats 400000 in
theorem note_any (J : Nat) (c : Int) (off : Bool) (w : World) (h : w.cell? ⟨J, 4, none⟩ = some (.bool off)) (hf : w.frozen? ⟨J, 4, none⟩ = false) :
    Calls Try.prog 63 #[.pointer (some ⟨J, 0, none⟩), .int .i64 c] w fun e w' => e = .returned (.int .i64 c) ∧ w' = noteTo J c w := by
  unfold noteTo
  by_cases hc : c = 220
  · subst hc
    rw [if_pos rfl]
    go_enter Try.func63, Try.ntmps63
    go_wp2
    go_ret
    exact ⟨rfl, rfl⟩
  · rw [if_neg hc]
    go_enter Try.func63, Try.ntmps63
    go_wp2
    go_ret
    exact ⟨rfl, rfl⟩

set_option maxHeartbeats 400000 in
theorem jlen_any {w : World} {base J B : Nat} {file : Int} {rv ev : Value} {us : List Value} {rs : List (List UInt8)} {off : Bool} (h : Jr w base J B file rv ev us rs off) :
    Calls Try.prog 40 #[.pointer (some ⟨J, 0, none⟩)] w fun e w' => e = .returned (.int .i64 rs.length) ∧ w = w' := by
  have c1 := h.c_recs
  obtain ⟨A, c, rfl⟩ := own_form h.rr.row
  clear h
  go_enter Try.func40, Try.ntmps40
  go_wp2
  go_ret
  exact ⟨rfl, rfl⟩

set_option maxHeartbeats 400000 in
theorem records_any {w : World} {base J B : Nat} {file : Int} {rv ev : Value} {us : List Value} {rs : List (List UInt8)} {off : Bool} (h : Jr w base J B file rv ev us rs off) :
    Calls Try.prog 29 #[.pointer (some ⟨J, 0, none⟩)] w (RetLs rs w) := by
  have c1 := h.c_recs
  have H := Lib.hid h
  obtain ⟨A, c, rfl⟩ := own_form h.rr.row
  clear h
  go_enter Try.func29, Try.ntmps29
  go_wp2_with fail
  refine (clone_any _ us rs w H.out.rr.r (by have := H.out.cnt; omega) (fun b hb => by have := mem_frames hb; have := H.out.fit; omega)).mono ?_
  rintro e w1 ⟨A1, cap1, vs, rfl, hls, hk⟩
  go_wp2
  go_ret
  exact ⟨A1, cap1, vs, rfl, hls, hk⟩

set_option maxHeartbeats 1000000 in
theorem size_j {w : World} {base J B : Nat} {file : Int} {rv ev : Value} {us : List Value} {rs : List (List UInt8)} {off : Bool} (h : Jr w base J B file rv ev us rs off) :
    Calls Try.prog 64 #[.pointer (some ⟨J, 0, none⟩)] w fun e w' => e = .returned (.int .i64 ((frames rs).length : Nat)) ∧ ∃ n, w' = w.drewN n := by
  have c1 := h.c_ends
  obtain ⟨A, c, rfl⟩ := own_form h.er
  have hrd := Rd.of_own h.er
  have hcn := h.cnt
  by_cases h0 : rs = []
  · subst h0
    clear h hrd
    simp only [List.length_nil] at c1
    go_enter Try.func64, Try.ntmps64
    go_wp2
    go_ret
    exact ⟨rfl, 0, rfl⟩
  · have hl : 0 < rs.length := by rcases rs with _ | ⟨r, rs⟩ <;> simp_all
    obtain ⟨A', cap', hv, h1, h2, h3, h4⟩ := hrd
    injection hv with e1 e2 e3
    subst e1 e3
    rcases A with _ | ad
    · have := (h3 rfl).1; omega
    · have hlast : (eVal rs)[rs.length - 1]? = some (.int .i64 ((frames rs).length : Nat)) := by
        unfold eVal
        rw [List.getElem?_map, ends_at 0 _ rs (by omega), show rs.length - 1 + 1 = rs.length by omega, List.take_length, Nat.zero_add]
        rfl
      have hc := h4 ad rfl _ _ hlast
      have hfirst := h4 ad rfl 0 _ (List.getElem?_eq_getElem (by unfold eVal; rw [List.length_map, ends_length]; exact hl))
      have hs := World.cell?_spot hfirst
      obtain ⟨g, o, spot⟩ := ad
      have hs' : spot = none := by simpa [Addr.add] using hs
      subst hs'
      rw [add_lit0] at hc
      obtain ⟨m, hm⟩ : ∃ m, rs.length = m + 1 := ⟨rs.length - 1, by omega⟩
      rw [hm] at c1 hcn hc
      rw [show m + 1 - 1 = m by omega] at hc
      have hmm : m + 1 ≤ c := by omega
      have HM := Lib.hid hm
      generalize hF : (frames rs).length = F at hc
      have HF := Lib.hid hF
      clear h h1 h2 h3 h4 hl hlast hfirst hs h0 e2 hm hF
      have hw : wrap64 (((m + 1 : Nat) : Int) - 1) = (m : Int) := by unfold wrap64; omega
      have hm0 : (0 : Int) ≤ (m : Int) := by omega
      have hm1 : (m : Int) < ((m + 1 : Nat) : Int) := by omega
      go_enter Try.func64, Try.ntmps64
      go_wp2_with fail
      go_quiet (fail)
      go_wp2
      go_ret
      exact ⟨rfl, _, rfl⟩

end Go.Proofs.Yteoodgcpkgfomaa
