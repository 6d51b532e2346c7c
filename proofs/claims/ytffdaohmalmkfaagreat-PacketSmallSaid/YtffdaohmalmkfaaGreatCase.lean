/-
  Cases: what partsynccase draws out of a list of numbers: valid values and rows of them.
-/
import Derived.Test.YtffdaohmalmkfaaGreatCodecI
namespace Go.Proofs.YtffdaohmalmkfaaGreat
open Go.RowKit
set_option linter.unusedVariables false

/-- Block K is a case that reads the bytes l, its index a. -/
structure CaseIs (w : World) (K : Nat) (v : Value) (l : List UInt8) (a : Nat) : Prop where
  blk : Blk w K 79 #[v, .int .i64 (a : Int)]
  bs : Bs w v l
  len : l.length ≤ 1000
theorem two_no_byte {w : World} {D : Nat} {t : TypeId} {A : Option Addr} {m cap : Nat} {n : Int} (h : Blk w D t #[.slice A m cap, .int .i64 n]) {p : Addr} {x : Int} (hc : w.cell? p = some (.int .u8 x)) : p.block ≠ D := by
  obtain ⟨g, o, spot⟩ := p
  rintro rfl
  have hs := World.cell?_spot hc
  simp only at hs
  subst hs
  rw [Blk.cell h] at hc
  rcases o with _ | _ | o
  · simp at hc
  · simp at hc
  · simp at hc
theorem CaseIs.kept {w w' : World} {K a a' : Nat} {v : Value} {l : List UInt8} (h : CaseIs w K v l a) (hk : Kept (Kone K) w w') (hb : Blk w' K 79 #[v, .int .i64 (a' : Int)]) : CaseIs w' K v l a' := by
  refine ⟨hb, ?_, h.len⟩
  obtain ⟨A, cap, rfl, h1, h2, h3, h4⟩ := h.bs
  refine ⟨A, cap, rfl, h1, h2, h3, fun ad hA j x hj => ?_⟩
  have hc := h4 ad hA j x hj
  rw [List.getElem?_map] at hj
  cases hq : l[j]? with
  | none => rw [hq] at hj; cases hj
  | some c =>
    rw [hq] at hj
    simp only [Option.map_some, Option.some.injEq] at hj
    subst hj
    exact hk.cell_some hc (fun e => two_no_byte h.blk hc e)
theorem CaseIs.kept0 {w w' : World} {K a : Nat} {v : Value} {l : List UInt8} (h : CaseIs w K v l a) (hk : Kept Kno w w') : CaseIs w' K v l a := ⟨h.blk.kept hk (fun h => h), Rd.kept0 h.bs hk, h.len⟩

/-- The case goes on: nothing but it has changed. -/
def Goes (K : Nat) (v : Value) (l : List UInt8) (w w' : World) : Prop := (∃ a, CaseIs w' K v l a) ∧ Kept (Kone K) w w'
theorem Goes.trans {K : Nat} {v : Value} {l : List UInt8} {w w1 w2 : World} (h : Kept (Kone K) w w1) (h2 : Goes K v l w1 w2) : Goes K v l w w2 := ⟨h2.1, h.trans h2.2 (fun _ _ e => e)⟩

def IntOk (K : Nat) (v : Value) (l : List UInt8) (n : Nat) (w : World) (e : Ending) (w' : World) : Prop := ∃ m : Nat, m < n ∧ e = .returned (.int .i64 m) ∧ Goes K v l w w'

set_option maxRecDepth 100000 in
set_option maxHeartbeats 2000000 in
theorem int_any (K a n : Nat) (v : Value) (l : List UInt8) (w : World) (h : CaseIs w K v l a) (hn : 1 ≤ n) (hn2 : n ≤ 1000000) :
    Calls Tryz.prog 25 #[.pointer (some ⟨K, 0, none⟩), .int .i64 n] w (IntOk K v l n w) := by
  have H := Lib.hid h
  obtain ⟨A, cap, rfl, hlc, h2, h3, h4⟩ := h.bs
  have c0 : w.cell? ⟨K, 0, none⟩ = some (.slice A l.length cap) := h.blk.cell 0
  have c1 : w.cell? ⟨K, 1, none⟩ = some (.int .i64 (a : Int)) := h.blk.cell 1
  have f1 := h.blk.frozen 1
  have hll := h.len
  by_cases hge : l.length ≤ a
  · have hge2 : (l.length : Int) ≤ (a : Int) := by omega
    have u1 : decide (l.length ≤ a) = true := by simpa using hge
    clear h h2 h3 h4
    go_enter Tryz.func25, Tryz.ntmps25
    go_wp2_with fail
    go_quiet (fail)
    go_wp2
    go_ret
    exact ⟨0, by omega, rfl, ⟨a, H.out.kept0 ((Kept.refl _ _).drewN _)⟩, (Kept.refl _ _).drewN _⟩
  · have hge2 : ¬ (l.length : Int) ≤ (a : Int) := by omega
    have u1 : decide (l.length ≤ a) = false := by simpa using hge
    have hn3 : ¬ (n : Int) < 1 := by omega
    have hn4 : (0 : Int) < (n : Int) := by omega
    rcases A with _ | ad
    · have := (h3 rfl).1; omega
    · obtain ⟨c, hc⟩ : ∃ c, l[a]? = some c := ⟨_, List.getElem?_eq_getElem (by omega)⟩
      have hcc := h4 ad rfl a (bv c) (by rw [List.getElem?_map, hc]; rfl)
      obtain ⟨g, o, spot⟩ := ad
      have hs : spot = none := by
        have h0 := h4 ⟨g, o, spot⟩ rfl 0 (bv (l[0]'(by omega))) (by rw [List.getElem?_map, List.getElem?_eq_getElem (by omega)]; rfl)
        have := World.cell?_spot h0
        simpa [Addr.add] using this
      subst hs
      rw [add_lit0] at hcc
      have hcc' : w.cell? ⟨g, o + a, none⟩ = some (.int .u8 c.toNat) := hcc
      have hgK : g ≠ K := two_no_byte H.out.blk hcc'
      have c256 : c.toNat < 256 := c.toNat_lt
      clear h h2 h3 h4 hcc hc
      go_enter Tryz.func25, Tryz.ntmps25
      go_wp2_with fail
      go_quiet (fail)
      have hq : Kept Kno w (w.drewN nq) := (Kept.refl _ _).drewN nq
      have d0 : (w.drewN nq).cell? ⟨K, 0, none⟩ = some (.slice (some ⟨g, o, none⟩) l.length cap) := c0
      have d1 : (w.drewN nq).cell? ⟨K, 1, none⟩ = some (.int .i64 (a : Int)) := c1
      have d2 : (w.drewN nq).cell? ⟨g, o + a, none⟩ = some (.int .u8 c.toNat) := hcc'
      have d3 : (w.drewN nq).frozen? ⟨K, 1, none⟩ = false := f1
      have HR := Lib.hid (H.out.kept0 hq)
      generalize w.drewN nq = wq at hq d0 d1 d2 d3 HR ⊢
      clear c0 c1 hcc' f1
      have ha9 : (a : Int) + 1 ≤ 1001 := by omega
      go_upto_region 4 with (fail)
      have hb2 : Blk (wq.setCell ⟨K, 1, none⟩ (.int .i64 ((a : Int) + 1))) K 79 #[.slice (some ⟨g, o, none⟩) l.length cap, .int .i64 ((a + 1 : Nat) : Int)] := HR.out.blk.set_ 1 _
      have hk2 : Kept (Kone K) w (wq.setCell ⟨K, 1, none⟩ (.int .i64 ((a : Int) + 1))) := (hq.mono (T := Kone K) (fun _ _ e => e.elim)).setIn (p := ⟨K, 1, none⟩) (Eq.refl K) _
      have hk3 : Kept (Kone K) wq (wq.setCell ⟨K, 1, none⟩ (.int .i64 ((a : Int) + 1))) := Kept.setIn (S := Kone K) (Kept.refl _ _) (p := ⟨K, 1, none⟩) (Eq.refl K) _
      have e0 : (wq.setCell ⟨K, 1, none⟩ (.int .i64 ((a : Int) + 1))).cell? ⟨K, 0, none⟩ = some (.slice (some ⟨g, o, none⟩) l.length cap) := hb2.cell 0
      have e1 : (wq.setCell ⟨K, 1, none⟩ (.int .i64 ((a : Int) + 1))).cell? ⟨K, 1, none⟩ = some (.int .i64 ((a : Int) + 1)) := hb2.cell 1
      have e2 : (wq.setCell ⟨K, 1, none⟩ (.int .i64 ((a : Int) + 1))).cell? ⟨g, o + a, none⟩ = some (.int .u8 c.toNat) := hk3.cell_some d2 (fun h => hgK h)
      have HC2 := Lib.hid (HR.out.kept hk3 hb2)
      generalize (wq.setCell ⟨K, 1, none⟩ (.int .i64 ((a : Int) + 1))) = wz at hk2 e0 e1 e2 HC2 ⊢
      clear d0 d1 d2 d3 hb2 hk3
      have s1 : IntKind.i64.wrap ((a : Int) + 1 - 1) = (a : Int) := by rw [IntWalk.i64_in _ (by omega)]; omega
      have s2 : (a : Int) + 1 - 1 = (a : Int) := by omega
      have ha0 : (0 : Int) ≤ (a : Int) := by omega
      have ha1 : (a : Int) < (l.length : Int) := by omega
      have hmd : ((c.toNat : Int)).tmod (n : Int) = ((c.toNat % n : Nat) : Int) := by
        rw [Int.tmod_eq_emod_of_nonneg (by omega)]; rfl
      have hmd2 : (c.toNat : Int) % (n : Int) = ((c.toNat % n : Nat) : Int) := rfl
      have hml : c.toNat % n < n := Nat.mod_lt _ (by omega)
      generalize c.toNat % n = r at hmd hmd2 hml
      go_quiet (fail)
      clear s1 s2
      go_wp2
      go_ret
      exact ⟨r, hml, rfl, ⟨a + 1, HC2.out.kept0 ((Kept.refl _ _).drewN _)⟩, hk2.drewN _⟩

end Go.Proofs.YtffdaohmalmkfaaGreat
