/-
  Journal: what the laws share: same, cut, begun.
-/
import Derived.Test.YteoodgcpkgfomaaJourM
import Derived.Test.YteoodgcpkgfomaaDiskK
namespace Go.Proofs.Yteoodgcpkgfomaa
open Go.RowKit
set_option linter.unusedVariables false

theorem equal_quiet {v u : Value} {l m : List UInt8} {w : World} (hv : Bs w v l) (hu : Bs w u m) (n : Nat) :
    Calls Try.prog 23 #[v, u] (w.drewN n) fun e w' => e = .returned (.bool (decide (l = m))) ∧ w' = w.drewN n :=
  (equal_any v u l m (w.drewN n) (Rd.drewN hv n) (Rd.drewN hu n)).mono fun _ _ ⟨a, b⟩ => ⟨a, b.symm⟩
def SameRel (la lb : List (List UInt8)) (w : World) (i : Value) (wr : World) : Prop :=
  ∃ k : Nat, k ≤ la.length ∧ i = .int .i64 k ∧ la.take k = lb.take k ∧ Kept Kno w wr
theorem take_next {α : Type} {la lb : List α} {k : Nat} {x y : α} (h : la.take k = lb.take k) (hx : la[k]? = some x) (hy : lb[k]? = some y) (e : x = y) : la.take (k + 1) = lb.take (k + 1) := by
  rw [List.take_add_one, List.take_add_one, h, hx, hy, e]

set_option maxHeartbeats 2000000 in
theorem same_j (va vb : Value) (xs ys : List Value) (la lb : List (List UInt8)) (w : World) (ha : LsR w va xs la) (hb : LsR w vb ys lb) (hn : la.length ≤ 100000000) (hm : lb.length ≤ 100000000) :
    Calls Try.prog 30 #[va, vb] w fun e w' => e = .returned (.bool (decide (la = lb))) ∧ Kept Kno w w' := by
  have HA := Lib.hid ha
  have HB := Lib.hid hb
  obtain ⟨Aa, capa, rfl, hca⟩ := ha.form
  obtain ⟨Ab, capb, rfl, hcb⟩ := hb.form
  clear ha hb
  by_cases hl : la.length = lb.length
  · have HL := Lib.hid hl
    have hl1 : ((la.length : Int) == (lb.length : Int)) = true := by rw [hl]; simp
    have hl2 : ((la.length : Int) != (lb.length : Int)) = false := by rw [hl]; simp
    clear hl
    go_enter Try.func30, Try.ntmps30
    go_wp2_with fail
    go_loopw [13] (fun i wr => SameRel la lb w i wr) (fun i _ => la.length - (intOf i).toNat)
    case atStart => exact ⟨0, Nat.zero_le _, rfl, rfl, Kept.refl _ _⟩
    case round =>
      obtain ⟨k, hk, rfl, htk, hkk⟩ := hrel
      have HT := Lib.hid htk
      clear htk
      by_cases hlt : k < la.length
      · have ha := HA.out.kept0 hkk
        have hb := HB.out.kept0 hkk
        have hlb : k < lb.length := by have := HL.out; omega
        have hla := List.getElem?_eq_getElem hlt
        have hlb' := List.getElem?_eq_getElem hlb
        generalize la[k] = p at hla
        generalize lb[k] = q at hlb'
        obtain ⟨ga, oa, ca, x, hva, hx, c1⟩ := ha.at hlt
        obtain ⟨gb, ob, cb, y, hvb, hy, c2⟩ := hb.at hlb
        have hox := ha.2 k x p hx hla
        have hoy := hb.2 k y q hy hlb'
        have HBX := Lib.hid hox
        have HBY := Lib.hid hoy
        obtain ⟨Ax, cx, rfl, -⟩ := hox
        obtain ⟨Ay, cy, rfl, -⟩ := hoy
        injection hva with e1 e2 e3
        injection hvb with e4 e5 e6
        subst e1 e3 e4 e6
        have HLA := Lib.hid hla
        have HLB := Lib.hid hlb'
        have hk0 : (0 : Int) ≤ (k : Int) := by omega
        have hk1 : (k : Int) < (la.length : Int) := by omega
        have hk2 : (k : Int) < (lb.length : Int) := by omega
        clear ha hb hx hy hla hlb' e2 e5
        by_cases hpq : p = q
        · have HPQ := Lib.hid hpq
          have hdec : decide (p = q) = true := by simp [hpq]
          have hq : ∀ n, Calls Try.prog 23 #[.slice Ax p.length cx, .slice Ay q.length cy] (wr.drewN n) fun e w' => e = .returned (.bool true) ∧ w' = wr.drewN n := fun n => by have h9 := equal_quiet HBX.out HBY.out n; rwa [hdec] at h9
          have HQ := Lib.hid hq
          clear hq
          clear hpq
          go_wp2_with fail
          go_quiet ((go_at_call 23; exact Calls.quiet_of_same (HQ.out _)))
          go_wp2
          go_roundw
          case rel => exact ⟨k + 1, by omega, by go_num, take_next HT.out HLA.out HLB.out HPQ.out, hkk.drewN _⟩
          case measure => simp [intOf]; omega
        · have hdec : decide (p = q) = false := by simp [hpq]
          have hq : ∀ n, Calls Try.prog 23 #[.slice Ax p.length cx, .slice Ay q.length cy] (wr.drewN n) fun e w' => e = .returned (.bool false) ∧ w' = wr.drewN n := fun n => by have h9 := equal_quiet HBX.out HBY.out n; rwa [hdec] at h9
          have HQ := Lib.hid hq
          clear hq
          have hne : decide (la = lb) = false := by
            simp only [decide_eq_false_iff_not]
            intro e
            have h1 := HLA.out
            have h2 := HLB.out
            rw [e, h2] at h1
            injection h1 with h1
            exact hpq h1.symm
          have HNE := Lib.hid hne
          clear hpq hne
          go_wp2_with fail
          go_quiet ((go_at_call 23; exact Calls.quiet_of_same (HQ.out _)))
          go_wp2
          go_ret
          exact ⟨by rw [HNE.out]; rfl, hkk.drewN _⟩
      · have hk9 : ¬ (k : Int) < (la.length : Int) := by omega
        have hka : k = la.length := by omega
        have hee : decide (la = lb) = true := by
          have := HT.out
          rw [List.take_of_length_le (by omega), List.take_of_length_le (by have := HL.out; omega)] at this
          simp [this]
        have HEE := Lib.hid hee
        clear hee hka
        go_wp2
        go_ret
        exact ⟨by rw [HEE.out]; rfl, hkk⟩
  · have e2 : decide (la = lb) = false := by simp; exact fun h => hl (by rw [h])
    rw [e2]
    have hl1 : ((la.length : Int) == (lb.length : Int)) = false := by simp; omega
    have hl2 : ((la.length : Int) != (lb.length : Int)) = true := by simp; omega
    clear e2
    go_enter Try.func30, Try.ntmps30
    go_wp2
    go_ret
    exact ⟨rfl, Kept.refl _ _⟩

theorem jappend_any {w : World} {base J B : Nat} {file : Int} {rv ev : Value} {us : List Value} {fs : List File} (s : JA) (v : Value) (b : List UInt8) (hj : Jr w base J B file rv ev us s.rs s.off) (hi : Is w base B fs s.a) (ha : JApart J B fs rv ev us) (hb : Bs w v b)
    (hbJ : ∀ w1, Kept (fun k => JOwn J rv ev us k ∨ DK B fs k) w w1 → Bs w1 v b) (hfit : s.off = false → b.length ≤ 1048576 → (s.a.append file (frame b)).2 = 0 → (frames (s.rs ++ [b])).length ≤ 20000000) (hbase : base ≤ w.heap.size) :
    Calls Try.prog 28 #[.pointer (some ⟨J, 0, none⟩), v] w (JRet base J B file fs rv ev us (s.append file b) w) := by
  by_cases hno : s.off = true ∨ 1048576 < b.length
  · exact jappend_no s v b hj hi ha hb hno
  · obtain ⟨a, rs, off⟩ := s
    simp only [not_or, Bool.not_eq_true] at hno
    obtain ⟨h1, h2⟩ := hno
    subst h1
    simp only [JA.append, Bool.false_eq_true, if_false, if_neg h2]
    exact jappend_yes a rs v b hj hi ha hb hbJ (by omega) (hfit rfl (by omega)) hbase

end Go.Proofs.Yteoodgcpkgfomaa
