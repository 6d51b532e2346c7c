/-
  Network: contracts of same and SamePackets at equal messages.
-/
import Derived.Test.YtcpidgpjifmimaaNetC
import Derived.Test.YtcpidgpjifmimaaBase3
import Derived.LoopTactic
import Derived.Deep.LoopGhost
namespace Go.Proofs.Ytcpidgpjifmimaa
open Go.RowKit
set_option linter.unusedVariables false

set_option maxHeartbeats 800000 in
theorem same_yes (d : Int) (va vb : Value) (l : List UInt8) (w : World) (ha : Bs w va l) (hb : Bs w vb l) :
    Calls Try.prog 19 #[.agg #[.int .i64 d, va], .agg #[.int .i64 d, vb]] w (RetNew (.bool true) w) := by
  have HA := Lib.hid ha
  have HB := Lib.hid hb
  obtain ⟨A, ca, rfl, -⟩ := ha
  obtain ⟨B, cb, rfl, -⟩ := hb
  have t1 := run_string_bs (P := Try.prog) 39 9 5 (Rd.alloc (Rd.alloc HA.out (.cells #[.int .i64 d, .slice A l.length ca] 44)) (.cells #[.int .i64 d, .slice B l.length cb] 44)) Try.underlying39 Try.underlying5 Try.underlying9
  have t2 := run_string_bs (P := Try.prog) 39 9 5 (Rd.alloc (Rd.alloc HB.out (.cells #[.int .i64 d, .slice A l.length ca] 44)) (.cells #[.int .i64 d, .slice B l.length cb] 44)) Try.underlying39 Try.underlying5 Try.underlying9
  go_enter Try.func19, Try.ntmps19
  go_wp2
  go_ret
  exact ⟨rfl, ((Kept.refl _ _).alloc _).alloc _⟩

set_option maxHeartbeats 2000000 in
theorem samePackets_yes (ba bb : Nat) (u v : Value) (ps qs : List Pk) (w : World) (hu : Row w ba u ps) (hv : Row w bb v qs) (habs : ps.map Pk.abs = qs.map Pk.abs) (hn : ps.length ≤ 1000000) :
    Calls Try.prog 23 #[u, v] w (RetNew (.bool true) w) := by
  have hlen : qs.length = ps.length := by have := congrArg List.length habs; simpa using this.symm
  have HU := Lib.hid hu
  have HV := Lib.hid hv
  have HA := Lib.hid habs
  obtain ⟨A, ca, rfl⟩ := own_form hu.1
  obtain ⟨B, cb, rfl⟩ := own_form hv.1
  have HL := Lib.hid hlen
  rw [hlen]
  clear hu hv habs hlen
  go_enter Try.func23, Try.ntmps23
  go_wp2_with fail
  go_loopg [13] ps.length (fun g i wr => g + (intOf i).toNat = ps.length ∧ ∃ k : Nat, k ≤ ps.length ∧ i = .int .i64 k ∧ ∃ x : Nat, wr = w.drewN x)
  case atStart => exact ⟨by simp [intOf], 0, Nat.zero_le _, rfl, 0, rfl⟩
  case round =>
    obtain ⟨hg, k, hk, rfl, x, rfl⟩ := hrel
    have HG := Lib.hid hg
    clear hg
    by_cases hlt : k < ps.length
    · have h0 : (0 : Int) ≤ (k : Int) := by omega
      have h1 : (k : Int) < (ps.length : Int) := by omega
      obtain ⟨p, hp⟩ : ∃ p, ps[k]? = some p := ⟨ps[k], List.getElem?_eq_getElem hlt⟩
      obtain ⟨q, hq⟩ : ∃ q, qs[k]? = some q := ⟨qs[k]'(by rw [HL.out]; exact hlt), List.getElem?_eq_getElem (by rw [HL.out]; exact hlt)⟩
      have hpq : p.abs = q.abs := by
        have := congrArg (fun l => l[k]?) HA.out
        simpa [hp, hq] using this
      obtain ⟨g1, c1, hv1, -, j2, a1, a2⟩ := row_at HU.out hp
      obtain ⟨g2, c2, hv2, -, j3, b1, b2⟩ := row_at HV.out hq
      obtain ⟨e1, -, e3⟩ := Value.slice.inj hv1
      obtain ⟨f1, -, f3⟩ := Value.slice.inj hv2
      subst e1 e3 f1 f3
      have hpi := (HU.out.2 p (List.mem_of_getElem? hp)).1
      have hqi := (HV.out.2 q (List.mem_of_getElem? hq)).1
      obtain ⟨Ap, capp, hpv⟩ := own_form hpi
      obtain ⟨Aq, capq, hqv⟩ := own_form hqi
      obtain ⟨pd, pv, pl⟩ := p
      obtain ⟨qd, qv, ql⟩ := q
      simp only [Pk.abs, Prod.mk.injEq] at hpq
      obtain ⟨rfl, rfl⟩ := hpq
      simp only at hpv hqv a1 a2 b1 b2 hpi hqi
      subst hpv hqv
      have t1 : ∀ y : Nat, (convert 39 9 (.slice Ap pl.length capp)).run Try.prog (w.drewN y) = .ok (.string ⟨pl.toArray⟩) (w.drewN y) :=
        fun y => run_string_bs 39 9 5 (Rd.drewN hpi.bs y) Try.underlying39 Try.underlying5 Try.underlying9
      have t2 : ∀ y : Nat, (convert 39 9 (.slice Aq pl.length capq)).run Try.prog (w.drewN y) = .ok (.string ⟨pl.toArray⟩) (w.drewN y) :=
        fun y => run_string_bs 39 9 5 (Rd.drewN hqi.bs y) Try.underlying39 Try.underlying5 Try.underlying9
      have m4 : ca ≤ 9223372036854775807 := by simp only [maxLen] at j2; omega
      have m5 : cb ≤ 9223372036854775807 := by simp only [maxLen] at j3; omega
      clear hp hq hpi hqi j2 j3 hv1 hv2
      go_wp2_with fail
      go_quiet (fail)
      go_wp2_with fail
      have hg := HG.out
      simp [intOf] at hg
      go_roundg (gk - 1)
      case measure => omega
      case rel => exact ⟨by simp [intOf]; omega, k + 1, by omega, by go_num, _, rfl⟩
    · have hn' : ¬ (k : Int) < (ps.length : Int) := by omega
      go_wp2_with fail
      go_ret
      exact ⟨rfl, (Kept.refl _ _).drewN _⟩

end Go.Proofs.Ytcpidgpjifmimaa
