/-
  Network: the contract of All.
-/
import Derived.Test.YtcpidgpjifmimaaNetC
import Derived.LoopTactic
import Derived.Deep.LoopGhost
namespace Go.Proofs.Ytcpidgpjifmimaa
open Go.RowKit
set_option linter.unusedVariables false

def AllOk (ps : List Pk) (w : World) (e : Ending) (w' : World) : Prop :=
  ∃ A cap qs, e = .returned (.slice A ps.length cap) ∧ Row w' w.heap.size (.slice A ps.length cap) qs ∧ qs.map Pk.abs = ps.map Pk.abs ∧ Kept Kno w w'

def AllRel (ps : List Pk) (w : World) (s i : Value) (wr : World) : Prop :=
  ∃ (k : Nat) (A : Option Addr) (cap : Nat) (qs : List Pk), k ≤ ps.length ∧ i = .int .i64 k ∧ s = .slice A k cap ∧ Row wr w.heap.size (.slice A k cap) qs ∧ qs.map Pk.abs = (ps.take k).map Pk.abs ∧ Kept Kno w wr

set_option maxHeartbeats 2000000 in
theorem all_any (base B : Nat) (v : Value) (ps : List Pk) (w : World) (hc : w.cell? ⟨B, 0, none⟩ = some v) (h : Row w base v ps) (hn : ps.length ≤ 1000000) :
    Calls Try.prog 24 #[.pointer (some ⟨B, 0, none⟩)] w (AllOk ps w) := by
  obtain ⟨i0, hi, hz0, hz1, hz2⟩ := info_parts info_pk
  have H := Lib.hid h
  obtain ⟨Av, capv, rfl⟩ := own_form h.1
  clear h
  go_enter Try.func24, Try.ntmps24
  go_wp2_with fail
  go_loopg [3, 11] ps.length (fun g s i wr => g + (intOf i).toNat = ps.length ∧ AllRel ps w s i wr)
  case atStart => exact ⟨by simp [intOf], 0, none, 0, [], Nat.zero_le _, rfl, rfl, ⟨World.ownsRow_nil _ _ _ _, fun p hp => by cases hp⟩, rfl, Kept.refl _ _⟩
  case round =>
    obtain ⟨hg, k, A, cap, qs, hk, rfl, rfl, hrow, habs, hkr⟩ := hrel
    have hql : qs.length = k := by
      have := congrArg List.length habs
      simp only [List.length_map, List.length_take] at this
      omega
    have HG := Lib.hid hg
    have HA := Lib.hid habs
    have HQL := Lib.hid hql
    have HR := Lib.hid hrow
    clear hg habs hql hrow
    by_cases hlt : k < ps.length
    · have h0 : (0 : Int) ≤ (k : Int) := by omega
      have h1 : (k : Int) < (ps.length : Int) := by omega
      obtain ⟨p, hp⟩ : ∃ p, ps[k]? = some p := ⟨ps[k], List.getElem?_eq_getElem hlt⟩
      have hrw : Row wr base (.slice Av ps.length capv) ps := H.out.kept hkr (fun _ _ h => h) (fun _ _ _ _ h => h)
      obtain ⟨g, capg, hv, j1, j2, c1, c2⟩ := row_at hrw hp
      have hpi := hrw.2 p (List.mem_of_getElem? hp)
      injection hv with e1 e2 e3
      subst e1 e3
      obtain ⟨Ap, capp, hpv⟩ := own_form hpi.1
      rw [hpv] at c2
      have lg : g < wr.heap.size := World.block_lt_of_cell? wr _ c1
      have m4 : capv ≤ 9223372036854775807 := by simp only [maxLen] at j2; omega
      have HPI := Lib.hid hpi
      have HPV := Lib.hid hpv
      have HP := Lib.hid hp
      have m1 : k + 1 ≤ maxLen := by simp only [maxLen]; omega
      have hbase : w.heap.size ≤ wr.heap.size := hkr.size
      clear hrw hpi hpv hp j2 e2
      go_wp2_with fail
      refine (duplicate_any p.dst _ p.l _ (Rd.alloc (HPV.out ▸ HPI.out.1.bs) _) HPI.out.2).mono ?_
      rintro e w1 ⟨A1, cap1, rfl, hown, hk1⟩
      have hkw : Kept Kno wr w1 := ((Kept.refl _ _).alloc _).then0 hk1
      have hro : Row w1 w.heap.size (.slice A k cap) qs := HR.out.kept hkw (fun _ _ h => h) (fun _ _ _ _ h => h)
      have hro' : w1.ownsRow w.heap.size 44 2 (.slice A k cap) k (pkCells qs) := by have := hro.1; rwa [HQL.out] at this
      have HRO := Lib.hid hro
      have HRO' := Lib.hid hro'
      have hb1 : w.heap.size ≤ w1.heap.size := Nat.le_trans hbase hkw.size
      clear hro hro'
      go_wp2_with (at_builtin; go_must (refine wpList_append_rd _ rfl _ _ 31 rfl w.heap.size 44 i0 _ 2 32 Try.underlying31 hi hz0 hz1 hz2 rfl (by decide) (.slice A k cap) k (pkCells qs) rfl (HRO'.out.alloc _) _ 1 [.int .i64 p.dst, .slice A1 p.l.length cap1] rfl (Rd.one _ _ _ rfl) (by simp [Value.oneCell']) m1 (by omega) (by simp; omega) ?_); intro A2 cap2 w2 hown2 hg2 hat2)
      have hg := HG.out
      simp [intOf] at hg
      go_roundg (gk - 1)
      case measure => omega
      case rel =>
        have hpk : PkIn w1 w.heap.size ⟨p.dst, .slice A1 p.l.length cap1, p.l⟩ := ⟨own_rebase hown (fun x hx => by have := (own_base hown hx).1; simp at this; omega), HPI.out.2⟩
        refine ⟨by simp [intOf]; omega, k + 1, A2, cap2, qs ++ [⟨p.dst, .slice A1 p.l.length cap1, p.l⟩], by omega, by go_num, rfl, ?_, ?_, ?_⟩
        · refine row_append (p := ⟨p.dst, .slice A1 p.l.length cap1, p.l⟩) HRO.out hpk ?_ hg2
          rw [HQL.out]
          exact hown2
        · rw [List.map_append, HA.out, List.take_add_one, HP.out]
          simp [Pk.abs]
        · exact ((hkr.then0 hkw).alloc _).grown hg2 (fun x hx e => by have := (own_base HR.out.1 e).1; omega)
    · have hn' : ¬ (k : Int) < (ps.length : Int) := by omega
      have hke : ps.length = k := by omega
      go_wp2_with fail
      go_ret
      subst hke
      exact ⟨A, cap, qs, rfl, HR.out, by rw [HA.out, List.take_length], hkr⟩

end Go.Proofs.Ytcpidgpjifmimaa
