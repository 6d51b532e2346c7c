/-
  Journal: begun.
-/
import Derived.Test.YteoodgcpkgfomaaJourN
import Derived.Lib.SlBytesConst
namespace Go.Proofs.Yteoodgcpkgfomaa
open Go.RowKit
set_option linter.unusedVariables false

section
variable {W w w' : World} {base J B : Nat} {file : Int} {rv ev : Value} {us : List Value} {fs : List File} {rs : List (List UInt8)} {off : Bool} {a : Ab} {s' : JA}
theorem jkept (hW : Kept Kno W w) (hb : W.heap.size ≤ base) (hj : Jr w base J B file rv ev us rs off) (hi : Is w base B fs a) (hk : Kept (fun k => JOwn J rv ev us k ∨ DK B fs k) w w') : Kept Kno W w' :=
  hW.trans hk (fun i hi' e => by
    rcases e with e | e
    · have := (hj.own_low e).1; omega
    · have := (hi.low e).1; omega)
/-- Bytes in a block that neither the journal nor its disk owns. -/
theorem bs_new {v : Value} {b : List UInt8} (hj : Jr w base J B file rv ev us rs off) (hi : Is w base B fs a) {w1 : World} (hk1 : Kept Kno w w1) (hb : Bs w1 v b) (hv : ∀ k, v.ownBlock = some k → w.heap.size ≤ k) :
    ∀ w2, Kept (fun k => JOwn J rv ev us k ∨ DK B fs k) w1 w2 → Bs w2 v b := fun w2 hk => Rd.kept hb hk (fun k e e' => by
  have := hv k e
  rcases e' with e' | e'
  · have := (hj.own_low e').2; omega
  · have := (hi.low e').2; omega)
end

theorem jopen_empty (a : Ab) (f : Int) (h : a.read f = ([], 0)) : jopen a f = (a, 0, some []) := by
  unfold jopen
  rw [h]
  rfl

set_option maxRecDepth 100000 in
set_option maxHeartbeats 4000000 in
theorem begun_j (w : World) : Calls Try.prog 31 #[] w (RetNew (.bool true) w) := by
  have kc := fun (w : World) (C : Array Value) (n c : Nat) => Lib.run_convert_bytes_const (P := Try.prog) w 30 5 C n c Try.underlying30 Try.underlying5
  go_enter Try.func31, Try.ntmps31
  go_wp2_with fail
  refine (new_ok 100 _ (by omega) (by omega)).mono ?_
  rintro e w1 ⟨rfl, hw1⟩
  have hk1 : Kept Kno w w1 := by rw [hw1]; exact (Kept.refl _ _).alloc _
  have hn1 : Is w1 w.heap.size w.heap.size (List.replicate 8 noFile) (ab0 100) := by rw [hw1]; exact is_new w _ 100 (Nat.le_refl _) (by omega) (by omega)
  have HN1 := Lib.hid hn1
  clear hw1 hn1
  go_wp2_with fail
  refine (open_any w.heap.size w.heap.size 2 _ (ab0 100) w1 HN1.out (by decide)).mono ?_
  rw [jopen_empty (ab0 100) 2 (by decide)]
  rintro e w2 ⟨fs2, hi2, hkk2, hd2, J, rv, ev, us, rfl, hj2, ha2⟩
  have hk2 : Kept Kno w w2 := HN1.out.kept hk1 (Nat.le_refl _) hkk2
  have HI2 := Lib.hid hi2
  have HJ2 := Lib.hid (hj2.rebase hk1.size)
  have HA2 := Lib.hid ha2
  clear hi2 hj2 ha2 hkk2 hd2 HN1
  go_wp2_with fail
  have hkl2 : Kept Kno w2 (w2.alloc (.cells #[.int .u8 97] 5 (1, 2))) := (Kept.refl _ _).alloc _
  have hlit2 : Bs (w2.alloc (.cells #[.int .u8 97] 5 (1, 2))) (.slice (some ⟨w2.heap.size, 0, none⟩) 1 1) [97] := bs_lit w2 [97] _ _
  refine (jappend_any (⟨ab0 100, [], false⟩ : JA) _ [97] (HJ2.out.kept0 hkl2) (HI2.out.kept0 hkl2) HA2.out hlit2 (bs_new HJ2.out HI2.out hkl2 hlit2 (fun k e => by simp [Value.ownBlock] at e; omega)) (fun _ _ _ => by decide) (Nat.le_trans hk2.size hkl2.size)).mono ?_
  rintro e w3 ⟨he, fs3, rv3, ev3, us3, hi3, hj3, ha3, hkk3, -, -⟩
  have ec : ((⟨ab0 100, [], false⟩ : JA).append 2 [97]).2 = 0 := by decide
  rw [ec] at he
  subst he
  have hk3 : Kept Kno w w3 := jkept (hk2.then0 hkl2) (Nat.le_refl _) (HJ2.out.kept0 hkl2) (HI2.out.kept0 hkl2) hkk3
  have HI3 := Lib.hid hi3
  have HJ3 := Lib.hid hj3
  have HA3 := Lib.hid ha3
  clear hi3 hj3 ha3 hkk3 ec hkl2 hlit2 HI2 HJ2 HA2
  go_wp2_with fail
  refine (jsync_any ((⟨ab0 100, [], false⟩ : JA).append 2 [97]).1 HJ3.out HI3.out HA3.out).mono ?_
  rintro e w4 ⟨he, fs4, rv4, ev4, us4, hi4, hj4, ha4, hkk4, -, -⟩
  have ec : (((⟨ab0 100, [], false⟩ : JA).append 2 [97]).1.sync 2).2 = 0 := by decide
  rw [ec] at he
  subst he
  have hk4 : Kept Kno w w4 := jkept hk3 (Nat.le_refl _) HJ3.out HI3.out hkk4
  have HI4 := Lib.hid hi4
  have HJ4 := Lib.hid hj4
  have HA4 := Lib.hid ha4
  clear hi4 hj4 ha4 hkk4 ec HI3 HJ3 HA3
  go_wp2_with fail
  have hkl4 : Kept Kno w4 (w4.alloc (.cells #[.int .u8 98, .int .u8 99] 5 (2, 3))) := (Kept.refl _ _).alloc _
  have hlit4 : Bs (w4.alloc (.cells #[.int .u8 98, .int .u8 99] 5 (2, 3))) (.slice (some ⟨w4.heap.size, 0, none⟩) 2 2) [98, 99] := bs_lit w4 [98, 99] _ _
  refine (jappend_any (((⟨ab0 100, [], false⟩ : JA).append 2 [97]).1.sync 2).1 _ [98, 99] (HJ4.out.kept0 hkl4) (HI4.out.kept0 hkl4) HA4.out hlit4 (bs_new HJ4.out HI4.out hkl4 hlit4 (fun k e => by simp [Value.ownBlock] at e; omega)) (fun _ _ _ => by decide) (Nat.le_trans hk4.size hkl4.size)).mono ?_
  rintro e w5 ⟨he, fs5, rv5, ev5, us5, hi5, hj5, ha5, hkk5, -, -⟩
  have ec : ((((⟨ab0 100, [], false⟩ : JA).append 2 [97]).1.sync 2).1.append 2 [98, 99]).2 = 0 := by decide
  rw [ec] at he
  subst he
  have hk5 : Kept Kno w w5 := jkept (hk4.then0 hkl4) (Nat.le_refl _) (HJ4.out.kept0 hkl4) (HI4.out.kept0 hkl4) hkk5
  have HI5 := Lib.hid hi5
  have HJ5 := Lib.hid hj5
  have HA5 := Lib.hid ha5
  clear hi5 hj5 ha5 hkk5 ec hkl4 hlit4 HI4 HJ4 HA4
  go_wp2_with fail
  refine (read_any 2 HI5.out).mono ?_
  have ec : (((((⟨ab0 100, [], false⟩ : JA).append 2 [97]).1.sync 2).1.append 2 [98, 99]).1).a.read 2 = ([1, 97, 2, 98, 99], 0) := by decide
  rw [ec]
  rintro e w6 ⟨A, cap, rfl, hown, hk6⟩
  have t1 := run_string_bs (P := Try.prog) 30 9 5 hown.bs Try.underlying30 Try.underlying5 Try.underlying9
  simp only [List.length_cons, List.length_nil, Nat.zero_add, Nat.reduceAdd] at t1
  have HJ6 := Lib.hid (HJ5.out.kept0 hk6)
  clear hown ec HI5
  go_wp2_with fail
  refine (jlen_any HJ6.out).mono ?_
  have ec : (((((⟨ab0 100, [], false⟩ : JA).append 2 [97]).1.sync 2).1.append 2 [98, 99]).1).rs.length = 2 := by decide
  rw [ec]
  rintro e w7 ⟨rfl, rfl⟩
  go_wp2
  go_ret
  exact ⟨rfl, hk5.then0 hk6⟩

end Go.Proofs.Yteoodgcpkgfomaa
