/-
  Contracts and plain laws that the claim's theorem rests on, some texts in one file.
-/
import Derived.Test.YteoodgcpkgfomaaM9
import Derived.Lib.SlBytesConst
import Derived.Test.YteoodgcpkgfomaaRows
import Derived.ProofKit
import Derived.OpenShut
import Derived.ShutString
import Derived.ChangeOld
import Derived.ChangeSame
import Derived.Carry
import Derived.JoinedCond
import Derived.Deep.Slices
import Derived.Deep.Fields
import Derived.KernelRfl
/-
  Journal: begun.
-/
namespace Go.Proofs.Yteoodgcpkgfomaa
open Go.RowKit
set_option linter.unusedVariables false

section
variable {W w w' : World} {base J B : Nat} {file : Int} {rv ev : Value} {us : List Value} {fs : List File} {rs : List (List UInt8)} {off : Bool} {a : Ab} {s' : JA}
theorem jkept (hW : Kept Kno W w) (hb : W.heap.size ≤ base) (hj : Jr w base J B file rv ev us rs off) (hi : Is w base B fs a) (hk : Kept (fun k => JOwn J rv ev us k ∨ DK B fs k) w w') : Kept Kno W w' :=
  hW.trans hk (fun i hi' e => by
    rcases e with e | e
    · have := (hj.own_low e).1; omega
    · have := (hi.low e).1; omega)
/-- Bytes in a block that neither the journal nor its disk owns. -/
theorem bs_new {v : Value} {b : List UInt8} (hj : Jr w base J B file rv ev us rs off) (hi : Is w base B fs a) {w1 : World} (hk1 : Kept Kno w w1) (hb : Bs w1 v b) (hv : ∀ k, v.ownBlock = some k → w.heap.size ≤ k) :
    ∀ w2, Kept (fun k => JOwn J rv ev us k ∨ DK B fs k) w1 w2 → Bs w2 v b := fun w2 hk => Rd.kept hb hk (fun k e e' => by
  have := hv k e
  rcases e' with e' | e'
  · have := (hj.own_low e').2; omega
  · have := (hi.low e').2; omega)
end

theorem jopen_empty (a : Ab) (f : Int) (h : a.read f = ([], 0)) : jopen a f = (a, 0, some []) := by
  unfold jopen
  rw [h]
  rfl

set_option maxRecDepth 100000 in
set_option maxHeartbeats 4000000 in
theorem begun_j (w : World) : Calls Try.prog 31 #[] w (RetNew (.bool true) w) := by
  have kc := fun (w : World) (C : Array Value) (n c : Nat) => Lib.run_convert_bytes_const (P := Try.prog) w 30 5 C n c Try.underlying30 Try.underlying5
  go_enter Try.func31, Try.ntmps31
  go_wp2_with fail
  refine (new_ok 100 _ (by omega) (by omega)).mono ?_
  rintro e w1 ⟨rfl, hw1⟩
  have hk1 : Kept Kno w w1 := by rw [hw1]; exact (Kept.refl _ _).alloc _
  have hn1 : Is w1 w.heap.size w.heap.size (List.replicate 8 noFile) (ab0 100) := by rw [hw1]; exact is_new w _ 100 (Nat.le_refl _) (by omega) (by omega)
  have HN1 := Lib.hid hn1
  clear hw1 hn1
  go_wp2_with fail
  refine (open_any w.heap.size w.heap.size 2 _ (ab0 100) w1 HN1.out (by decide)).mono ?_
  rw [jopen_empty (ab0 100) 2 (by decide)]
  rintro e w2 ⟨fs2, hi2, hkk2, hd2, J, rv, ev, us, rfl, hj2, ha2⟩
  have hk2 : Kept Kno w w2 := HN1.out.kept hk1 (Nat.le_refl _) hkk2
  have HI2 := Lib.hid hi2
  have HJ2 := Lib.hid (hj2.rebase hk1.size)
  have HA2 := Lib.hid ha2
  clear hi2 hj2 ha2 hkk2 hd2 HN1
  go_wp2_with fail
  have hkl2 : Kept Kno w2 (w2.alloc (.cells #[.int .u8 97] 5 (1, 2))) := (Kept.refl _ _).alloc _
  have hlit2 : Bs (w2.alloc (.cells #[.int .u8 97] 5 (1, 2))) (.slice (some ⟨w2.heap.size, 0, none⟩) 1 1) [97] := bs_lit w2 [97] _ _
  refine (jappend_any (⟨ab0 100, [], false⟩ : JA) _ [97] (HJ2.out.kept0 hkl2) (HI2.out.kept0 hkl2) HA2.out hlit2 (bs_new HJ2.out HI2.out hkl2 hlit2 (fun k e => by simp [Value.ownBlock] at e; omega)) (fun _ _ _ => by decide) (Nat.le_trans hk2.size hkl2.size)).mono ?_
  rintro e w3 ⟨he, fs3, rv3, ev3, us3, hi3, hj3, ha3, hkk3, -, -⟩
  have ec : ((⟨ab0 100, [], false⟩ : JA).append 2 [97]).2 = 0 := by decide
  rw [ec] at he
  subst he
  have hk3 : Kept Kno w w3 := jkept (hk2.then0 hkl2) (Nat.le_refl _) (HJ2.out.kept0 hkl2) (HI2.out.kept0 hkl2) hkk3
  have HI3 := Lib.hid hi3
  have HJ3 := Lib.hid hj3
  have HA3 := Lib.hid ha3
  clear hi3 hj3 ha3 hkk3 ec hkl2 hlit2 HI2 HJ2 HA2
  go_wp2_with fail
  refine (jsync_any ((⟨ab0 100, [], false⟩ : JA).append 2 [97]).1 HJ3.out HI3.out HA3.out).mono ?_
  rintro e w4 ⟨he, fs4, rv4, ev4, us4, hi4, hj4, ha4, hkk4, -, -⟩
  have ec : (((⟨ab0 100, [], false⟩ : JA).append 2 [97]).1.sync 2).2 = 0 := by decide
  rw [ec] at he
  subst he
  have hk4 : Kept Kno w w4 := jkept hk3 (Nat.le_refl _) HJ3.out HI3.out hkk4
  have HI4 := Lib.hid hi4
  have HJ4 := Lib.hid hj4
  have HA4 := Lib.hid ha4
  clear hi4 hj4 ha4 hkk4 ec HI3 HJ3 HA3
  go_wp2_with fail
  have hkl4 : Kept Kno w4 (w4.alloc (.cells #[.int .u8 98, .int .u8 99] 5 (2, 3))) := (Kept.refl _ _).alloc _
  have hlit4 : Bs (w4.alloc (.cells #[.int .u8 98, .int .u8 99] 5 (2, 3))) (.slice (some ⟨w4.heap.size, 0, none⟩) 2 2) [98, 99] := bs_lit w4 [98, 99] _ _
  refine (jappend_any (((⟨ab0 100, [], false⟩ : JA).append 2 [97]).1.sync 2).1 _ [98, 99] (HJ4.out.kept0 hkl4) (HI4.out.kept0 hkl4) HA4.out hlit4 (bs_new HJ4.out HI4.out hkl4 hlit4 (fun k e => by simp [Value.ownBlock] at e; omega)) (fun _ _ _ => by decide) (Nat.le_trans hk4.size hkl4.size)).mono ?_
  rintro e w5 ⟨he, fs5, rv5, ev5, us5, hi5, hj5, ha5, hkk5, -, -⟩
  have ec : ((((⟨ab0 100, [], false⟩ : JA).append 2 [97]).1.sync 2).1.append 2 [98, 99]).2 = 0 := by decide
  rw [ec] at he
  subst he
  have hk5 : Kept Kno w w5 := jkept (hk4.then0 hkl4) (Nat.le_refl _) (HJ4.out.kept0 hkl4) (HI4.out.kept0 hkl4) hkk5
  have HI5 := Lib.hid hi5
  have HJ5 := Lib.hid hj5
  have HA5 := Lib.hid ha5
  clear hi5 hj5 ha5 hkk5 ec hkl4 hlit4 HI4 HJ4 HA4
  go_wp2_with fail
  refine (read_any 2 HI5.out).mono ?_
  have ec : (((((⟨ab0 100, [], false⟩ : JA).append 2 [97]).1.sync 2).1.append 2 [98, 99]).1).a.read 2 = ([1, 97, 2, 98, 99], 0) := by decide
  rw [ec]
  rintro e w6 ⟨A, cap, rfl, hown, hk6⟩
  have t1 := run_string_bs (P := Try.prog) 30 9 5 hown.bs Try.underlying30 Try.underlying5 Try.underlying9
  simp only [List.length_cons, List.length_nil, Nat.zero_add, Nat.reduceAdd] at t1
  have HJ6 := Lib.hid (HJ5.out.kept0 hk6)
  clear hown ec HI5
  go_wp2_with fail
  refine (jlen_any HJ6.out).mono ?_
  have ec : (((((⟨ab0 100, [], false⟩ : JA).append 2 [97]).1.sync 2).1.append 2 [98, 99]).1).rs.length = 2 := by decide
  rw [ec]
  rintro e w7 ⟨rfl, rfl⟩
  go_wp2
  go_ret
  exact ⟨rfl, hk5.then0 hk6⟩

end Go.Proofs.Yteoodgcpkgfomaa
/-
  Journal: cut.
-/
namespace Go.Proofs.Yteoodgcpkgfomaa
open Go.RowKit
set_option linter.unusedVariables false

/-- The records as cut leaves them. -/
def cutR (rs : List (List UInt8)) : List (List UInt8) := (rs.take 8).map fun r => r.take 300
theorem cutR_len (rs : List (List UInt8)) : (cutR rs).length ≤ 8 := by simp [cutR]; omega
theorem cutR_mem {rs : List (List UInt8)} {b : List UInt8} (h : b ∈ cutR rs) : b.length ≤ 300 := by
  obtain ⟨r, _, rfl⟩ := List.mem_map.1 h
  simp; omega
theorem cutR_short (rs : List (List UInt8)) : Short (cutR rs) := fun b hb => by have := cutR_mem hb; omega
theorem frames_small (rs : List (List UInt8)) (m : Nat) (h : ∀ b ∈ rs, b.length ≤ m) : (frames rs).length ≤ rs.length * (m + 11) := by
  induction rs with
  | nil => simp [frames]
  | cons r rs ih =>
    have h1 := ih (fun b hb => h b (List.mem_cons_of_mem _ hb))
    have h2 := h r (List.mem_cons_self ..)
    have h3 := (leb_length r.length).2
    rw [frames_cons, List.length_append, frame_length, List.length_cons, Nat.succ_mul]
    omega
theorem cutR_frames (rs : List (List UInt8)) : (frames (cutR rs)).length ≤ 2488 := by
  have h1 := frames_small (cutR rs) 300 (fun b hb => cutR_mem hb)
  have h2 := cutR_len rs
  have h3 : (cutR rs).length * (300 + 11) ≤ 8 * 311 := Nat.mul_le_mul_right _ h2
  omega

def CutRel (rs : List (List UInt8)) (w : World) (c0 c1 c2 c3 c4 : Value) (m : Nat) (l i : Value) (wr : World) : Prop :=
  ∃ (k : Nat) (A : Option Addr) (cap : Nat) (us : List Value), k ≤ m ∧ i = .int .i64 (k : Nat) ∧ l = .slice A k cap ∧ wr.ownsRow (w.heap.size + 2) 30 1 (.slice A k cap) k us ∧
    (∀ (j : Nat) (x : Value) (b : List UInt8), us[j]? = some x → ((rs.take k).map fun r => r.take 300)[j]? = some b → Bs w x b) ∧
    Blk wr w.heap.size 47 #[c0, c1, c2, c3, c4] ∧ Blk wr (w.heap.size + 1) 47 #[.int .i64 0, .int .i64 0, .slice none 0 0, .slice none 0 0, .slice none 0 0] ∧ Kept Kno w wr

/-- What cut returns. -/
def CutOk (kk n : Int) (l : List UInt8) (rs : List (List UInt8)) (keep : Value) (w : World) (e : Ending) (w' : World) : Prop :=
  ∃ A1 n1 c1 A2 c2 us, e = .returned (.agg #[.int .i64 kk, .int .i64 n, .slice A1 n1 c1, .slice A2 (cutR rs).length c2, keep]) ∧ Bs w' (.slice A1 n1 c1) (l.take 300) ∧
    w'.ownsRow w.heap.size 30 1 (.slice A2 (cutR rs).length c2) (cutR rs).length us ∧ (∀ (j : Nat) (x : Value) (b : List UInt8), us[j]? = some x → (cutR rs)[j]? = some b → Bs w' x b) ∧ Kept Kno w w'

theorem take_min {α : Type} (l : List α) (n : Nat) : l.take (min l.length n) = l.take n := by
  by_cases hq : l.length ≤ n
  · rw [Nat.min_eq_left hq, List.take_of_length_le (Nat.le_refl _), List.take_of_length_le hq]
  · rw [Nat.min_eq_right (by omega)]

set_option maxRecDepth 100000 in
set_option maxHeartbeats 4000000 in
theorem cut_any (kk n : Int) (bv rv : Value) (l : List UInt8) (us : List Value) (rs : List (List UInt8)) (Ak : Option Addr) (nk ck : Nat) (w : World) (hb : Bs w bv l) (hr : LsR w rv us rs) (hll : l.length ≤ maxLen) (hrl : rs.length ≤ maxLen) (hrm : ∀ b ∈ rs, b.length ≤ maxLen) :
    Calls Try.prog 25 #[.agg #[.int .i64 kk, .int .i64 n, bv, rv, .slice Ak nk ck]] w (CutOk kk n l rs (.slice Ak nk ck) w) := by
  obtain ⟨j0, hj0, hy0, hy1, hy2⟩ := info_parts info_recs
  have HB := Lib.hid hb
  have HR := Lib.hid hr
  have HM := Lib.hid hrm
  obtain ⟨Ab, cb, rfl, hlc, -⟩ := hb
  obtain ⟨Ar, cr, rfl, hrc⟩ := hr.form
  have hmin : (if (300 : Int) < (l.length : Int) then (300 : Int) else (l.length : Int)) = ((min l.length 300 : Nat) : Int) := min_natw l.length 300
  have q1 : min l.length 300 ≤ l.length := Nat.min_le_left _ _
  have hcut := Bs.cut HB.out q1
  rw [take_min] at hcut
  have HC := Lib.hid hcut
  generalize min l.length 300 = m1 at hmin q1 HC
  have hmin2 : (if (8 : Int) < (rs.length : Int) then (8 : Int) else (rs.length : Int)) = ((min rs.length 8 : Nat) : Int) := min_natw rs.length 8
  have q2 : min rs.length 8 ≤ rs.length := Nat.min_le_left _ _
  have q2' : min rs.length 8 ≤ 8 := Nat.min_le_right _ _
  have hm8 : rs.take (min rs.length 8) = rs.take 8 := take_min rs 8
  have HM8 := Lib.hid hm8
  generalize min rs.length 8 = m2 at hmin2 q2 q2' HM8
  have q3 : m1 ≤ cb := by omega
  have q4 : (m1 : Int) ≤ (cb : Int) := by omega
  have q5 : (0 : Int) ≤ (m1 : Int) := by omega
  have q6 : m2 ≤ cr := by omega
  have q7 : (m2 : Int) ≤ (cr : Int) := by omega
  have q8 : (0 : Int) ≤ (m2 : Int) := by omega
  have n60 : l.length ≤ 9223372036854775807 := by simp only [maxLen] at hll; omega
  have n61 : rs.length ≤ 9223372036854775807 := by simp only [maxLen] at hrl; omega
  clear hr hrm hcut hm8 hll hrl
  go_enter Try.func25, Try.ntmps25
  go_wp2_with fail
  have hk1 : Kept Kno w (((w.alloc (.cells #[.int .i64 kk, .int .i64 n, .slice Ab m1 cb, .slice Ar rs.length cr, .slice Ak nk ck] 47)).alloc (.cells #[.int .i64 0, .int .i64 0, .slice none 0 0, .slice none 0 0, .slice none 0 0] 47)).alloc (.cells #[] 30)) := (((Kept.refl Kno w).alloc _).alloc _).alloc _
  have hb0 := ((Blk.new w 47 #[.int .i64 kk, .int .i64 n, .slice Ab m1 cb, .slice Ar rs.length cr, .slice Ak nk ck]).alloc (.cells #[.int .i64 0, .int .i64 0, .slice none 0 0, .slice none 0 0, .slice none 0 0] 47)).alloc (.cells #[] 30)
  have hb1 := (Blk.new (w.alloc (.cells #[.int .i64 kk, .int .i64 n, .slice Ab m1 cb, .slice Ar rs.length cr, .slice Ak nk ck] 47)) 47 #[.int .i64 0, .int .i64 0, .slice none 0 0, .slice none 0 0, .slice none 0 0]).alloc (.cells #[] 30)
  have hM0 := World.ownsRow_made (base := w.heap.size + 2) (e := 30) (size := 1) ((w.alloc (.cells #[.int .i64 kk, .int .i64 n, .slice Ab m1 cb, .slice Ar rs.length cr, .slice Ak nk ck] 47)).alloc (.cells #[.int .i64 0, .int .i64 0, .slice none 0 0, .slice none 0 0, .slice none 0 0] 47)) #[] 0 (by simp) (by decide) rfl
  simp only [World.size_alloc] at hb1 hM0
  generalize (((w.alloc (.cells #[.int .i64 kk, .int .i64 n, .slice Ab m1 cb, .slice Ar rs.length cr, .slice Ak nk ck] 47)).alloc (.cells #[.int .i64 0, .int .i64 0, .slice none 0 0, .slice none 0 0, .slice none 0 0] 47)).alloc (.cells #[] 30)) = W1 at hk1 hb0 hb1 hM0 ⊢
  have HK1 := Lib.hid hk1
  have HB0 := Lib.hid hb0
  have HB1 := Lib.hid hb1
  have HM0 := Lib.hid hM0
  clear hk1 hb0 hb1 hM0
  go_loopw [3, 23] (fun l i wr => CutRel rs w (.int .i64 kk) (.int .i64 n) (.slice Ab m1 cb) (.slice Ar rs.length cr) (.slice Ak nk ck) m2 l i wr) (fun _ i _ => m2 - (intOf i).toNat)
  case atStart => exact ⟨0, _, 0, [], by omega, rfl, rfl, HM0.out, fun j x b hx => by simp at hx, HB0.out, HB1.out, HK1.out⟩
  case round =>
    obtain ⟨k, A, cap, vs, hk, rfl, rfl, hown, hel, hc0, hc1, hkk⟩ := hrel
    have HOWN := Lib.hid hown
    have HEL := Lib.hid hel
    have HC0 := Lib.hid hc0
    have HC1 := Lib.hid hc1
    have HKK := Lib.hid hkk
    have hsz : w.heap.size + 2 ≤ wr.heap.size := by have := hc1.lt; omega
    clear hown hel
    by_cases hlt : k < m2
    · have hR := HR.out.kept0 hkk
      obtain ⟨g, o, c2, x, hv, hx, hcell⟩ := hR.at (i := k) (by omega)
      injection hv with e1 e2 e3
      subst e1 e3
      have hbk : rs[k]? = some (rs[k]'(by omega)) := List.getElem?_eq_getElem (by omega)
      have hml := HM.out (rs[k]'(by omega)) (List.getElem_mem _)
      generalize (rs[k]'(by omega)) = b at hbk hml
      have hbs := HR.out.2 k x b hx hbk
      have HBS := Lib.hid hbs
      obtain ⟨Ax, cx, rfl, hcx, -⟩ := hbs
      have HBK := Lib.hid hbk
      have hmin3 : (if (300 : Int) < (b.length : Int) then (300 : Int) else (b.length : Int)) = ((min b.length 300 : Nat) : Int) := min_natw b.length 300
      have p1 : min b.length 300 ≤ b.length := Nat.min_le_left _ _
      have hcut := Bs.cut HBS.out p1
      rw [take_min] at hcut
      have HCB := Lib.hid hcut
      generalize min b.length 300 = m3 at hmin3 p1 HCB
      have p3 : m3 ≤ cx := by omega
      have p4 : (m3 : Int) ≤ (cx : Int) := by omega
      have p5 : (0 : Int) ≤ (m3 : Int) := by omega
      have n62 : b.length ≤ 9223372036854775807 := by simp only [maxLen] at hml; omega
      have hk0 : (0 : Int) ≤ (k : Int) := by omega
      have hk1 : (k : Int) < (m2 : Int) := by omega
      have mm : k + 1 ≤ maxLen := by simp only [maxLen]; omega
      clear hR hx hbk hkk e2 hml hcut hc0 hc1
      go_wp2_with (at_builtin; (refine wpList_append_rd _ rfl _ _ 45 rfl (w.heap.size + 2) 30 j0 _ 1 24 Try.underlying45 hj0 hy0 hy1 hy2 rfl (by decide) (.slice A k cap) k vs rfl (World.ownsRow.alloc HOWN.out _) _ 1 [.slice Ax m3 cx] rfl (Rd.one _ _ _ rfl) (by simp [Value.oneCell']) mm (by omega) (by simp; omega) ?_); intro A3 cap3 w3 hown3 hg3 hat3)
      go_roundw
      case rel =>
        have hkA : Kept Kno wr (wr.alloc (.cells #[.slice Ax m3 cx] 30)) := (Kept.refl _ _).alloc _
        have hk3 : Kept (Kown (.slice A k cap)) wr w3 := (hkA.mono (T := Kown (.slice A k cap)) (fun _ _ h => h.elim)).grown hg3 (fun q _ e => e)
        have hno : ∀ q, Kown (.slice A k cap) q → w.heap.size + 2 ≤ q := fun q e => (own_base HOWN.out e).1
        have hvl : vs.length = k := by have := HOWN.out.1; omega
        refine ⟨k + 1, A3, cap3, vs ++ [.slice Ax m3 cx], by omega, by go_num, rfl, hown3, fun j x c hx hc => ?_, HC0.out.kept hk3 (fun e => by have := hno _ e; omega), HC1.out.kept hk3 (fun e => by have := hno _ e; omega), HKK.out.trans hk3 (fun q hq e => by have := hno q e; omega)⟩
        rw [List.take_add_one, HBK.out, Option.toList_some, List.map_append, List.map_singleton] at hc
        rcases Nat.lt_or_ge j k with hj | hj
        · rw [List.getElem?_append_left (by omega)] at hx
          rw [List.getElem?_append_left (by simp; omega)] at hc
          exact HEL.out j x c hx hc
        · rw [List.getElem?_append_right (by omega)] at hx
          rw [List.getElem?_append_right (by simp; omega)] at hc
          have h0 : j - vs.length = 0 := by
            rcases Nat.eq_zero_or_pos (j - vs.length) with h0 | h0
            · exact h0
            · rw [List.getElem?_eq_none (by simp; omega)] at hx; cases hx
          rw [h0] at hx
          rw [show j - ((rs.take k).map fun r => r.take 300).length = 0 by simp; omega] at hc
          simp only [List.getElem?_cons_zero, Option.some.injEq] at hx hc
          subst hx hc
          exact HCB.out
      case measure => simp [intOf]; omega
    · have hk1 : ¬ (k : Int) < (m2 : Int) := by omega
      obtain rfl : k = m2 := by omega
      have d0 := hc0.cell 0
      have d1 := hc0.cell 1
      have d2 := hc0.cell 2
      have d3 := hc0.cell 3
      have d4 := hc0.cell 4
      have g3 := hc0.frozen 3
      have e0 := hc1.cell 0
      have e1 := hc1.cell 1
      have e2 := hc1.cell 2
      have e3 := hc1.cell 3
      have e4 := hc1.cell 4
      have h0 := hc1.frozen 0
      have h1 := hc1.frozen 1
      have h2 := hc1.frozen 2
      have h3 := hc1.frozen 3
      have h4 := hc1.frozen 4
      simp only [List.getElem?_toArray, List.getElem?_cons_zero, List.getElem?_cons_succ] at d0 d1 d2 d3 d4 e0 e1 e2 e3 e4
      clear hc0 hc1 hkk
      go_wp2
      have hfin : Blk ((((((wr.setCell ⟨w.heap.size, 3, none⟩ (.slice A k cap)).setCell ⟨w.heap.size + 1, 0, none⟩ (.int .i64 kk)).setCell ⟨w.heap.size + 1, 1, none⟩ (.int .i64 n)).setCell ⟨w.heap.size + 1, 2, none⟩ (.slice Ab m1 cb)).setCell ⟨w.heap.size + 1, 3, none⟩ (.slice A k cap)).setCell ⟨w.heap.size + 1, 4, none⟩ (.slice Ak nk ck)) (w.heap.size + 1) 47 #[.int .i64 kk, .int .i64 n, .slice Ab m1 cb, .slice A k cap, .slice Ak nk ck] := (((((HC1.out.far (p := ⟨w.heap.size, 3, none⟩) (by simp) _).set_ 0 (.int .i64 kk)).set_ 1 (.int .i64 n)).set_ 2 (.slice Ab m1 cb)).set_ 3 (.slice A k cap)).set_ 4 (.slice Ak nk ck)
      have hkF : Kept (fun q => q = w.heap.size ∨ q = w.heap.size + 1) wr ((((((wr.setCell ⟨w.heap.size, 3, none⟩ (.slice A k cap)).setCell ⟨w.heap.size + 1, 0, none⟩ (.int .i64 kk)).setCell ⟨w.heap.size + 1, 1, none⟩ (.int .i64 n)).setCell ⟨w.heap.size + 1, 2, none⟩ (.slice Ab m1 cb)).setCell ⟨w.heap.size + 1, 3, none⟩ (.slice A k cap)).setCell ⟨w.heap.size + 1, 4, none⟩ (.slice Ak nk ck)) := (((((((Kept.refl _ wr).setIn (p := ⟨w.heap.size, 3, none⟩) (.inl rfl) _).setIn (p := ⟨w.heap.size + 1, 0, none⟩) (.inr rfl) _).setIn (p := ⟨w.heap.size + 1, 1, none⟩) (.inr rfl) _).setIn (p := ⟨w.heap.size + 1, 2, none⟩) (.inr rfl) _).setIn (p := ⟨w.heap.size + 1, 3, none⟩) (.inr rfl) _).setIn (p := ⟨w.heap.size + 1, 4, none⟩) (.inr rfl) _)
      generalize ((((((wr.setCell ⟨w.heap.size, 3, none⟩ (.slice A k cap)).setCell ⟨w.heap.size + 1, 0, none⟩ (.int .i64 kk)).setCell ⟨w.heap.size + 1, 1, none⟩ (.int .i64 n)).setCell ⟨w.heap.size + 1, 2, none⟩ (.slice Ab m1 cb)).setCell ⟨w.heap.size + 1, 3, none⟩ (.slice A k cap)).setCell ⟨w.heap.size + 1, 4, none⟩ (.slice Ak nk ck)) = wF at hfin hkF ⊢
      have hkW : Kept Kno w wF := HKK.out.trans hkF (fun q hq e => by rcases e with e | e <;> omega)
      have hcl : (cutR rs).length = k := by unfold cutR; rw [← HM8.out, List.length_map, List.length_take]; omega
      have hcr : ((rs.take k).map fun r => r.take 300) = cutR rs := by rw [HM8.out]; rfl
      refine bodyPost_ret (results_cell_row rfl _ _ (w.heap.size + 1) 47 _ (0, 0) _ rfl hfin Try.underlying47 rfl (by kernel_rfl)) rfl ?_
      refine ⟨Ab, m1, cb, A, cap, vs, by rw [hcl], Rd.kept0 HC.out hkW, ?_, fun j x b hx hb => ?_, hkW⟩
      · rw [hcl]
        exact own_rebase (own_kept HOWN.out hkF (fun q e e' => by have := (own_base HOWN.out e).1; rcases e' with e' | e' <;> omega)) (fun q e => by have := (own_base HOWN.out e).1; omega)
      · rw [← hcr] at hb
        exact Rd.kept0 (HEL.out j x b hx hb) hkW

end Go.Proofs.Yteoodgcpkgfomaa
/-
  The frame of every law of this seat: if the call returns true and changes nothing that was there, the row's post holds: results, arguments read again, memory kept.
-/
namespace Go.Proofs.Yteoodgcpkgfomaa
open Go.ChangeShapes Go.WideShapes Go.ChangeAt Go.RowKit

theorem law_own : ownKnob Try.prog.godebug = none := by kernel_rfl
theorem law_laid : laidOutB Try.prog = true := by kernel_rfl

section
variable {H : Type} {enc : TypeId × Value → H} {P : Program}

theorem post_of_below {f : Func} {s : ChangeSpec} {apart fresh handsOn again : Bool} {W W' : World} {args : Array Value} {v : Value} {ds gs : List (DataW H)} {before pa pv : List MemPlace}
    (hW : DataW.Whole enc P f.params.toList s.vars apart W args.toList ds gs before)
    (hres : ∀ (b : Nat) (sp : Nat → Bool) (hd : Bool), DataW.TrodAll enc P W' b sp hd f.resultTypes.toList (v.resultList f.resultTypes.size) (s.fn H (ds ++ gs)).results [])
    (hargs : ∀ sp : Nat → Bool, (∀ p ∈ before, sp p.block = true) → DataW.TrodAll enc P W' 0 sp true f.params.toList args.toList (s.fn H (ds ++ gs)).args pa)
    (hvars : ∀ sp : Nat → Bool, (∀ p ∈ before, sp p.block = true) → DataW.TrodVars enc P W' sp s.vars (s.fn H (ds ++ gs)).vars pv)
    (hps : before = pa ++ pv) (hb : Below W.heap.size W W')
    (hok : ∀ (j : Nat) (t : TypeId) (r : Value), f.resultTypes[j]? = some t → (v.resultList f.resultTypes.size)[j]? = some r → Value.okWide P W' .any 0 t r) :
    s.post enc P f apart fresh handsOn again W args v W' := by
  have hlt : ∀ p ∈ before, p.block < W.heap.size := fun p hp => hW.lt p hp
  have hold : ∀ p ∈ before, (fun b => decide (b < W.heap.size)) p.block = true := fun p hp => by simpa using hlt p hp
  refine ⟨ds, gs, before, [], pa, pv, hW, hres _ _ _, hargs _ hold, hvars _ hold, World.keptBut_mono (fun p hp => ⟨hp, ?_⟩) (hb.frame (· ∈ before)), fun _ => ?_⟩
  · rw [hps, List.mem_append] at hp
    exact Or.inr hp
  · obtain ⟨_, _, _, _, _, hz, hn⟩ := hW
    refine ⟨hok, _, _, ([] ++ pa) ++ pv, ⟨[] ++ pa, pv, trodAll_append (hargs _ (fun _ _ => rfl)) (hres _ _ _), hvars _ (fun _ _ => rfl), rfl, ?_, ?_⟩, ?_⟩
    · intro b off hp
      have hin : MemPlace.cell b off ∈ before := by rw [hps]; simpa using hp
      rw [hb.frozen (hlt _ hin)]
      exact hz b off hin
    · intro ha
      have := hn ha
      rw [hps] at this
      simpa using this
    · intro p hp _
      rw [hps]
      simpa using hp

/-- All arguments read again. -/
theorem trodAll_below (hl : laidOutB P = true) {W W' : World} (hb : Below W.heap.size W W') {sp : Nat → Bool} : ∀ (ts : List TypeId) (vs : List Value) (ds : List (DataW H)) (ps : List MemPlace),
    (∀ t ∈ ts, P.readableRec t = true ∧ t < P.types.size) → (∀ p ∈ ps, p.block < W.heap.size) → (∀ p ∈ ps, sp p.block = true) →
    DataW.TrodAll enc P W 0 (fun _ => true) true ts vs ds ps → DataW.TrodAll enc P W' 0 sp true ts vs ds ps
  | [], vs, ds, ps, _, _, _, h => by obtain ⟨rfl, rfl, rfl⟩ := trodAll_nil h; exact trodAll_mk0
  | t :: ts, vs, ds, ps, ht, hlt, hsp, h => by
    obtain ⟨v, vs', d, ds', p, q, rfl, rfl, rfl, h0, r⟩ := trodAll_cons h
    obtain ⟨h1, h2⟩ := ht t (List.mem_cons_self ..)
    exact trodAll_cons_mk (WideElems.Trod_stays hl h1 h2 h0 (fun x hx => hb.same (hlt x (List.mem_append_left _ hx))) (fun x hx => hsp x (List.mem_append_left _ hx)))
      (trodAll_below hl hb ts vs' ds' q (fun t' h' => ht t' (List.mem_cons_of_mem _ h')) (fun x hx => hlt x (List.mem_append_right _ hx)) (fun x hx => hsp x (List.mem_append_right _ hx)) r)

/-- The post of a law. -/
theorem post_law {f : Func} {s : ChangeSpec} {W W' : World} {args : Array Value} {ds gs : List (DataW H)} {before : List MemPlace} {tb : TypeId}
    (hl : laidOutB P = true) (hparB : f.params.toList.all (fun t => P.readableRec t && decide (t < P.types.size)) = true) (hres : f.resultTypes = #[tb]) (htb : P.underlying tb = some .bool) (hvars : s.vars = [])
    (hfn : s.fn H ds = { results := [.lit (.bool true)], args := ds })
    (hW : DataW.Whole enc P f.params.toList s.vars false W args.toList ds gs before) (hb : Below W.heap.size W W') :
    s.post enc P f false true false false W args (.bool true) W' := by
  have hpar : ∀ t ∈ f.params.toList, P.readableRec t = true ∧ t < P.types.size := fun t ht => by simpa using List.all_eq_true.1 hparB t ht
  have hW0 := hW
  have hlt : ∀ p ∈ before, p.block < W.heap.size := fun p hp => hW.lt p hp
  obtain ⟨p, q, hA, hV, rfl, hfz, hnd⟩ := hW
  have hV' := hV
  rw [hvars] at hV'
  obtain ⟨rfl, rfl⟩ := trodVars_none hV'
  simp only [List.append_nil] at hlt
  refine post_of_below (pa := p) (pv := []) hW0 ?_ ?_ ?_ rfl hb ?_
  · intro b sp hd
    rw [List.append_nil, hfn, hres]
    exact trodAll_cons_mk (shut_bool htb true) trodAll_mk0
  · intro sp hsp
    rw [List.append_nil, hfn]
    exact trodAll_below hl hb _ _ _ _ hpar hlt (fun x hx => hsp x (by simpa using hx)) hA
  · intro sp _
    rw [List.append_nil, hfn, hvars]
    rfl
  · rw [hres]
    intro j t r hj hr
    have h0 : j = 0 := by
      rcases j with _ | j
      · rfl
      · simp at hj
    subst h0
    simp only [List.getElem?_toArray, List.getElem?_cons_zero, Option.some.injEq] at hj
    subst hj
    have : r = .bool true := by simpa [Value.resultList] using hr.symm
    subst this
    exact okWide_bool_mk htb true
end
end Go.Proofs.Yteoodgcpkgfomaa
/-
  How arguments read: plain facts on the cells: a slice of structs, a slice of bytes.
-/
namespace Go.Proofs.Yteoodgcpkgfomaa
open Go.RowKit Go.ChangeShapes Go.WideShapes Go.ChangeAt Go.Deep
set_option linter.unusedVariables false

section
variable {H : Type} {enc : TypeId × Value → H} {P : Program} {w : World} {base : Nat} {spare : Nat → Bool} {held : Bool}
theorem open_slice_fields {t e : TypeId} {fs : Array Field} {fuel : Nat} {cs : List Value} {x : DataW H × List MemPlace} (ht : P.underlying t = some (.slice e)) (he : P.underlying e = some (.struct fs))
    (hone : oneCellFields P fs = true) (hC : P.cellsOf e = fs.size) (h : DataW.trod enc P w base spare held fuel t cs = some x) :
    (cs = [.slice none 0 0] ∧ x = (.nil, [])) ∨
    ∃ (a : Addr) (len cap m : Nat) (D : Nat → DataW H) (Pl : Nat → List MemPlace), cs = [.slice (some a) len cap] ∧ base ≤ a.block ∧ len ≤ cap ∧ cap ≤ maxLen ∧ m = (if spare a.block then cap else len) ∧
      x = (.slice ((List.range len).map D) ((List.range (m - len)).map fun j => D (len + j)), MemPlace.row a (m * fs.size) ++ (List.range m).flatMap Pl) ∧
      ∀ i, i < m → ∃ (ys : List (DataW H × List MemPlace)) (n : Nat), D i = .agg (ys.map (·.1)) ∧ Pl i = ys.flatMap (·.2) ∧ ys.length = fs.size ∧
        ∀ (j : Nat) (f : Field), fs[j]? = some f → ∃ (v : Value) (y : DataW H × List MemPlace), w.cell? (a.add (i * fs.size + j)) = some v ∧ ys[j]? = some y ∧ DataW.trod enc P w base spare held n f.type [v] = some y := by
  rcases open_slice ht h with h0 | ⟨a, len, cap, m, n, D, Pl, hcs, hb, hl, hm, hmm, hx, hi⟩
  · exact .inl h0
  · refine .inr ⟨a, len, cap, m, D, Pl, hcs, hb, hl, hm, hmm, by rw [hC] at hx; exact hx, fun i him => ?_⟩
    obtain ⟨cs', hc, ht'⟩ := hi i him
    rw [hC] at hc
    obtain ⟨ys, n', hn', hy, hlen, hyl, hf⟩ := DataW.trod_struct he ht'
    obtain ⟨_, hcl, hat⟩ := World.cells?_some hc
    simp only [Prod.mk.injEq] at hy
    refine ⟨ys, n', hy.1, hy.2, hyl, fun j f hj => ?_⟩
    obtain ⟨ho, hk⟩ := hone_of hone j f hj
    have hjl : j < fs.size := (Array.getElem?_eq_some_iff.1 hj).1
    have hcell := hat j hjl
    have hv : cs'[j]? = some (cs'[j]'(by omega)) := List.getElem?_eq_getElem (by omega)
    have h1 := hf j f hj
    rw [ho, hk] at h1
    have hone' : (cs'.drop j).take 1 = [cs'[j]'(by omega)] := by
      rw [List.drop_eq_getElem_cons (by omega)]
      rfl
    rw [hone'] at h1
    have hys : ys[j]? = some (ys[j]'(by omega)) := List.getElem?_eq_getElem (by omega)
    refine ⟨_, _, ?_, hys, h1.trans hys⟩
    rw [← Go.Deep.add_add, hcell, hv]

theorem u8_of {z : Int} (h : (Lit.int .u8 z).wf = true) : Value.int .u8 z = bv (UInt8.ofNat z.toNat) := by
  have hx : 0 ≤ z ∧ z ≤ 255 := by simpa [Lit.wf, IntKind.min, IntKind.max, IntKind.signed, IntKind.bits] using h
  have e : ((UInt8.ofNat z.toNat).toNat : Int) = z := by
    rw [UInt8.toNat_ofNat']
    omega
  rw [bv, e]

/-- A slice of bytes reads as bytes. -/
theorem bs_of_trod {t e : TypeId} {fuel : Nat} {v : Value} {x : DataW H × List MemPlace} (ht : P.underlying t = some (.slice e)) (he : P.underlying e = some (.int .u8)) (hC : P.cellsOf e = 1)
    (h : DataW.trod enc P w base spare held fuel t [v] = some x) : ∃ l : List UInt8, Bs w v l ∧ l.length ≤ maxLen := by
  rcases open_ints ht he hC h with ⟨hcs, _⟩ | ⟨a, len, cap, zs, hcs, _, hl, hm, hz, _, hcell, hwz⟩
  · injection hcs with hcs _
    subst hcs
    exact ⟨[], ⟨none, 0, rfl, by simp, rfl, fun _ => ⟨rfl, rfl⟩, (fun ad h => by cases h)⟩, by simp⟩
  · injection hcs with hcs _
    subst hcs
    have hlen : len ≤ zs.length := by rw [hz]; split <;> omega
    have hl' : ((zs.take len).map fun z => UInt8.ofNat z.toNat).length = len := by rw [List.length_map, List.length_take]; omega
    refine ⟨(zs.take len).map fun z => UInt8.ofNat z.toNat, ⟨some a, cap, by rw [hl'], by rw [hl']; exact hl, by simp, (fun h => by cases h), fun ad hA j u hj => ?_⟩, by rw [hl']; omega⟩
    cases hA
    rw [List.getElem?_map, List.getElem?_map, List.getElem?_take] at hj
    split at hj
    · rename_i hjl
      have hjz : j < zs.length := by omega
      rw [List.getElem?_eq_getElem hjz] at hj
      simp only [Option.map_some, Option.some.injEq] at hj
      have hc := hcell j hjz
      have hg : zs.getD j 0 = zs[j] := by simp [List.getD, List.getElem?_eq_getElem hjz]
      rw [hg] at hc
      rw [hc, ← hj, u8_of (hwz _ (List.getElem_mem hjz))]
    · simp at hj
end

theorem list_choose {α : Type} (n : Nat) (Q : Nat → α → Prop) (h : ∀ i, i < n → ∃ x, Q i x) : ∃ l : List α, l.length = n ∧ ∀ i x, l[i]? = some x → Q i x := by
  induction n with
  | zero => exact ⟨[], rfl, fun i x h => by simp at h⟩
  | succ n ih =>
    obtain ⟨l, hl, hq⟩ := ih (fun i hi => h i (by omega))
    obtain ⟨x, hx⟩ := h n (by omega)
    refine ⟨l ++ [x], by simp [hl], fun i y hy => ?_⟩
    by_cases hi : i < l.length
    · rw [List.getElem?_append_left hi] at hy
      exact hq i y hy
    · rw [List.getElem?_append_right (by omega)] at hy
      have : i - l.length = 0 := by
        rcases Nat.eq_zero_or_pos (i - l.length) with h0 | h0
        · exact h0
        · rw [List.getElem?_eq_none (by simp; omega)] at hy; cases hy
      rw [this] at hy
      simp at hy
      subst hy
      have : i = n := by omega
      rw [this]; exact hx

theorem spot_none {w : World} {a : Addr} {v : Value} (h : w.cell? a = some v) : a.spot = none := World.cell?_spot h

theorem bytes_of_trod {H : Type} {enc : TypeId × Value → H} {w : World} {base : Nat} {spare : Nat → Bool} {held : Bool} {fuel : Nat} {v : Value} {x : DataW H × List MemPlace}
    (h : DataW.trod enc Try.prog w base spare held fuel 30 [v] = some x) : ∃ l : List UInt8, Bs w v l ∧ l.length ≤ maxLen :=
  bs_of_trod Try.underlying30 Try.underlying5 (by kernel_rfl) h
end Go.Proofs.Yteoodgcpkgfomaa
/-
  Journal: plain laws of a disk that does not fail; how an argument '[][]byte' reads.
-/
namespace Go.Proofs.Yteoodgcpkgfomaa
open Go.RowKit Go.ChangeShapes Go.WideShapes Go.ChangeAt Go.Deep
set_option linter.unusedVariables false

/-- A disk that is on and has no plan to fail. -/
structure Calm (a : Ab) : Prop where
  off : a.off = false
  plan : a.plan = 0
  len : a.fs.length = 8
theorem calm0 (room : Int) : Calm (ab0 room) := ⟨rfl, rfl, rfl⟩
def Ab.put (a : Ab) (f : Nat) (x : List UInt8 × Nat) : Ab := ⟨a.room, a.fs.set f x, false, 0⟩
section
variable {a : Ab} {f : Nat}
theorem Calm.put (h : Calm a) (x : List UInt8 × Nat) : Calm (a.put f x) := ⟨rfl, rfl, by simp [Ab.put, h.len]⟩
theorem Calm.file_put (h : Calm a) (hf : f < 8) (x : List UInt8 × Nat) : (a.put f x).file f = x := by
  have hl := h.len
  simp only [Ab.file, Ab.put, List.getD, List.getElem?_set_self (show f < a.fs.length by omega), Option.getD_some]
theorem file_put_ne {g : Nat} (x : List UInt8 × Nat) (hg : f ≠ g) : (a.put f x).file g = a.file g := by
  simp only [Ab.file, Ab.put, List.getD, List.getElem?_set_ne hg]
theorem Calm.check (h : Calm a) (hf : f < 8) : checkOf a.off (f : Int) = 0 := by
  rw [h.off]; simp only [checkOf, Bool.false_eq_true, if_false]; rw [if_neg (by omega)]
theorem Calm.read (h : Calm a) (hf : f < 8) : a.read f = ((a.file f).1, 0) := by
  unfold Ab.read
  rw [h.check hf, if_neg (by simp), Int.toNat_natCast]
theorem Calm.gate (h : Calm a) (t : Bool) (x : List UInt8 × Nat) : gateOf a t f x = (a.put f x, 0) := by
  unfold gateOf
  rw [if_pos h.plan, h.off]; rfl
theorem Calm.append (h : Calm a) (hf : f < 8) (l : List UInt8) (hr : (a.used : Int) + l.length ≤ a.room) : a.append f l = (a.put f ((a.file f).1 ++ l, (a.file f).2), 0) := by
  unfold Ab.append
  rw [h.check hf, if_neg (by simp), if_neg (by omega), Int.toNat_natCast, h.gate]
theorem Calm.replace (h : Calm a) (hf : f < 8) (l : List UInt8) (hr : (a.used : Int) + l.length ≤ a.room) : a.replace f l = (a.put f (l, l.length), 0) := by
  unfold Ab.replace
  rw [h.check hf, if_neg (by simp), if_neg (by rw [Int.toNat_natCast]; omega), Int.toNat_natCast, h.gate]
theorem Calm.trunc (h : Calm a) (hf : f < 8) (n : Nat) (hn : n ≤ (a.file f).1.length) : a.trunc f (n : Int) = (a.put f ((a.file f).1.take n, n), 0) := by
  unfold Ab.trunc
  rw [h.check hf, if_neg (by simp), if_neg (by rw [Int.toNat_natCast]; omega), Int.toNat_natCast, Int.toNat_natCast, h.gate]
theorem Calm.sync (h : Calm a) (hf : f < 8) : a.sync f = (a.put f ((a.file f).1, (a.file f).1.length), 0) := by
  unfold Ab.sync
  rw [h.check hf, if_neg (by simp), Int.toNat_natCast, h.gate]

/-- Open over a beginning of frames. -/
theorem jopen_calm (h : Calm a) (hf : f < 8) {L : List (List UInt8)} {k : Nat} (hc : Cut L (a.file f).1 k) :
    ∃ a', jopen a f = (a', 0, some (L.take k)) ∧ Calm a' ∧ a'.room = a.room ∧ (a'.file f).1 = frames (L.take k) ∧ ∀ g, f ≠ g → a'.file g = a.file g := by
  obtain ⟨k1, k2, k3, k4, k5, k6⟩ := hc
  have hs := scan_any (a.file f).1
  unfold jopen
  rw [h.read hf]
  simp only [ne_eq, not_true_eq_false, if_false]
  rcases k4 with ⟨c1, c2⟩ | ⟨c1, c2, c3⟩
  · rw [if_pos c2, k2]
    refine ⟨a, rfl, h, rfl, ?_, fun _ _ => rfl⟩
    have h2 := hs.2.1
    rw [c2, List.take_length, k2] at h2
    exact h2
  · have ht : (loadAt (a.file f).1).2 = true := by simp only [loadAt, c1, c3, decide_true, Bool.true_and]
    rw [if_neg (by omega), if_neg (by rw [ht]; decide), h.trunc hf _ (by omega)]
    simp only [if_true]
    refine ⟨_, by rw [k2], h.put _, rfl, ?_, fun g hg => file_put_ne _ hg⟩
    rw [h.file_put hf, k3]
    have h2 := hs.2.1
    rw [k3, k2] at h2
    exact h2
end

theorem recs_of_trod {H : Type} {enc : TypeId × Value → H} {w : World} {base : Nat} {spare : Nat → Bool} {held : Bool} {fuel : Nat} {v : Value} {x : DataW H × List MemPlace}
    (h : DataW.trod enc Try.prog w base spare held fuel 45 [v] = some x) : ∃ p : List Value × List (List UInt8), LsR w v p.1 p.2 ∧ p.2.length ≤ maxLen ∧ ∀ b ∈ p.2, b.length ≤ maxLen := by
  rcases open_slice Try.underlying45 h with ⟨hcs, _⟩ | ⟨a, len, cap, m, n, D, Pl, hcs, _, hl, hm, hmm, _, hi⟩
  · injection hcs with hcs _
    subst hcs
    exact ⟨([], []), ⟨⟨none, 0, rfl, by simp, rfl, fun _ => ⟨rfl, rfl⟩, (fun ad h => by cases h)⟩, fun i x b hx => by simp at hx⟩, by simp, by simp⟩
  · injection hcs with hcs _
    subst hcs
    have hC : Try.prog.cellsOf 30 = 1 := by kernel_rfl
    have hlm : len ≤ m := by rw [hmm]; split <;> omega
    have hall : ∀ i, i < len → ∃ p : Value × List UInt8, w.cell? (a.add i) = some p.1 ∧ Bs w p.1 p.2 ∧ p.2.length ≤ maxLen := by
      intro i hil
      obtain ⟨cs', hc, ht⟩ := hi i (by omega)
      rw [hC, Nat.mul_one] at hc
      obtain ⟨_, hcl, hat⟩ := World.cells?_some hc
      obtain ⟨y, rfl⟩ : ∃ y, cs' = [y] := by
        match cs', hcl with
        | [y], _ => exact ⟨y, rfl⟩
      have hcell := hat 0 (by omega)
      obtain ⟨l, hbs, hll⟩ := bytes_of_trod ht
      refine ⟨(y, l), ?_, hbs, hll⟩
      simpa [Addr.add] using hcell
    obtain ⟨ps, hpl, hps⟩ := list_choose len _ hall
    refine ⟨(ps.map (·.1), ps.map (·.2)), ⟨⟨some a, cap, by simp [hpl], by simp [hpl]; exact hl, by simp, (fun h => by cases h), fun ad hA j u hj => ?_⟩, fun i x b hx hb => ?_⟩, by simp [hpl]; omega, fun b hb => ?_⟩
    · cases hA
      rw [List.getElem?_map] at hj
      cases hq : ps[j]? with
      | none => rw [hq] at hj; cases hj
      | some p =>
        rw [hq] at hj
        simp only [Option.map_some, Option.some.injEq] at hj
        subst hj
        exact (hps j p hq).1
    · rw [List.getElem?_map] at hx hb
      cases hq : ps[i]? with
      | none => rw [hq] at hx; cases hx
      | some p =>
        rw [hq] at hx hb
        simp only [Option.map_some, Option.some.injEq] at hx hb
        subst hx hb
        exact (hps i p hq).2.1
    · obtain ⟨p, hp, rfl⟩ := List.mem_map.1 hb
      obtain ⟨i, hq⟩ := List.mem_iff_getElem?.1 hp
      exact (hps i p hq).2.2

theorem nil_bs (w : World) : Bs w (.slice none 0 0) [] := ⟨none, 0, rfl, by simp, by simp, fun _ => ⟨rfl, rfl⟩, (fun ad h => by cases h)⟩
theorem used0 (room : Int) : (ab0 room).used = 0 := by simp [ab0, Ab.used]

end Go.Proofs.Yteoodgcpkgfomaa
/-
  Journal: Rewrite.
-/
namespace Go.Proofs.Yteoodgcpkgfomaa
open Go.RowKit
set_option linter.unusedVariables false

def RewRel (bs : List (List UInt8)) (w : World) (b ends i : Value) (wr : World) : Prop :=
  ∃ (k : Nat) (A : Option Addr) (cap : Nat) (A' : Option Addr) (cap' : Nat), k ≤ bs.length ∧ i = .int .i64 (k : Nat) ∧ b = .slice A (frames (bs.take k)).length cap ∧ OwnB wr w.heap.size 5 (.slice A (frames (bs.take k)).length cap) (frames (bs.take k)) ∧
    ends = .slice A' k cap' ∧ wr.ownsRow w.heap.size 3 1 (.slice A' k cap') k (eVal (bs.take k)) ∧ Kept Kno w wr
theorem take_snocr {α : Type} {R : List α} {k : Nat} {b : α} (h : R[k]? = some b) : R.take (k + 1) = R.take k ++ [b] := by
  rw [List.take_add_one, h]; rfl

/-- The journal holds new rows. -/
theorem jr_fresh {w wx w3 w4 : World} {base J B : Nat} {file : Int} {rv ev : Value} {us : List Value} {fs fsq : List File} {rs : List (List UInt8)} {off : Bool} {a' : Ab} {bs : List (List UInt8)} {rv' ev' : Value} {vs : List Value} (hbase : base ≤ w.heap.size)
    (hj3 : Jr w3 base J B file rv ev us rs off) (hi3 : Is w3 base B fsq a') (hk3 : Kept (fun k => JOwn J rv ev us k ∨ DK B fs k) w w3) (hdk : ∀ k, DK B fsq k → DK B fs k ∨ wx.heap.size ≤ k) (hxw : w.heap.size ≤ wx.heap.size) (hfs : ∀ k, DK B fs k → k < w.heap.size)
    (hk4 : Kept Kno w3 w4) (hls : Ls w4 w3.heap.size rv' vs bs) (her : ER w4 w.heap.size ev' bs) (hex : ∀ k, ev'.ownBlock = some k → k < wx.heap.size) (hfit : (frames bs).length ≤ 20000000) :
    JTurn base J B file fs rv ev us ⟨a', bs, off⟩ w ((w4.setCell ⟨J, 2, none⟩ rv').setCell ⟨J, 3, none⟩ ev') := by
  have hJ3 : J < w3.heap.size := hj3.blk.lt
  have hs3 := hk3.size
  have hj4 := hj3.kept0 hk4
  have hkJ : Kept (Kone J) w4 ((w4.setCell ⟨J, 2, none⟩ rv').setCell ⟨J, 3, none⟩ ev') := Kept.setIn (S := Kone J) (Kept.setIn (S := Kone J) (Kept.refl _ _) (p := ⟨J, 2, none⟩) (Eq.refl J) _) (p := ⟨J, 3, none⟩) (Eq.refl J) _
  have hrv : ∀ k, rv'.ownBlock = some k → w3.heap.size ≤ k := fun k e => (own_base hls.1 e).1
  have hvs : ∀ u ∈ vs, ∀ k, u.ownBlock = some k → w3.heap.size ≤ k := fun u hu k e => by
    obtain ⟨i, hi⟩ := List.mem_iff_getElem?.1 hu
    have hl := hls.len
    have hlt : i < vs.length := (List.getElem?_eq_some_iff.1 hi).1
    exact (own_base (hls.2 i u _ hi (List.getElem?_eq_getElem (by omega))) e).1
  have hev : ∀ k, ev'.ownBlock = some k → w.heap.size ≤ k := fun k e => (own_base her e).1
  have hevJ : ev'.ownBlock ≠ some J := fun e => absurd (hj4.blk.bt.one (own_bt her e)) (by decide)
  have hJd : ¬ DK B fsq J := fun h => by
    rcases h with h | ⟨f, hf, e⟩
    · subst h; exact absurd (hj3.blk.bt.one hi3.1.blk.bt) (by decide)
    · exact absurd (hj3.blk.bt.one (own_bt (hi3.1.files f hf).1 e)) (by decide)
  refine ⟨fsq, rv', ev', vs, is_far (is_far hi3 hk4 (fun k h => h.elim)) hkJ (fun k e => by unfold Kone at e; subst e; exact hJd), ⟨hj3.low, (hj4.blk.set_ 2 rv').set_ 3 ev', ?_, ?_, hfit⟩, ?_, ?_, fun k h => (hdk k h).imp_right (fun h => by omega), ?_⟩
  · refine (hls.rr.rebase (by omega)).kept hkJ (fun k e e' => ?_) (fun u hu k e e' => ?_)
    · unfold Kone at e'; have := hrv k e; omega
    · unfold Kone at e'; have := hvs u hu k e; omega
  · exact (her.rebase hbase).kept hkJ (fun k e e' => by unfold Kone at e'; subst e'; exact hevJ e)
  · rintro k (rfl | e | e | ⟨u, hu, e⟩) hd
    · exact hJd hd
    · have := hrv k e; have := (hi3.low hd).2; omega
    · have h1 := hev k e
      have h2 := hex k e
      rcases hdk k hd with h | h
      · have := hfs k h; omega
      · omega
    · have := hvs u hu k e; have := (hi3.low hd).2; omega
  · exact (hk3.then0 hk4).trans hkJ (fun k _ e => .inl (.inl e))
  · rintro k (rfl | e | e | ⟨u, hu, e⟩)
    · exact .inl (.inl rfl)
    · exact .inr (by have := hrv k e; omega)
    · exact .inr (hev k e)
    · exact .inr (by have := hvs u hu k e; omega)

set_option maxRecDepth 100000 in
set_option maxHeartbeats 8000000 in
theorem jrewrite_any {w : World} {base J B : Nat} {file : Int} {rv ev : Value} {us : List Value} {fs : List File} (s : JA) (v : Value) (ws : List Value) (bs : List (List UInt8)) (hj : Jr w base J B file rv ev us s.rs s.off) (hi : Is w base B fs s.a) (ha : JApart J B fs rv ev us) (hb : LsR w v ws bs)
    (hbJ : ∀ w1, Kept (fun k => JOwn J rv ev us k ∨ DK B fs k) w w1 → LsR w1 v ws bs) (hcnt : bs.length ≤ 1000000) (hfit : (bs.any fun b => decide (1048576 < b.length)) = false → (frames bs).length ≤ 20000000) (hbase : base ≤ w.heap.size) (hlen : ∀ b ∈ bs, b.length ≤ maxLen) :
    Calls Try.prog 39 #[.pointer (some ⟨J, 0, none⟩), v] w (JRet base J B file fs rv ev us (s.rewrite file bs) w) := by
  obtain ⟨i0, hi0, hz0, hz1, hz2⟩ := info_parts info_byte
  obtain ⟨q0, hq0, hx0, hx1, hx2⟩ := info_parts info_ends
  obtain ⟨a, rs, off⟩ := s
  simp only at hj hi
  have c4 := hj.c_off
  have HJ := Lib.hid hj
  have HI := Lib.hid hi
  have HA := Lib.hid ha
  have HB := Lib.hid hb
  have HBJ := Lib.hid hbJ
  have HF := Lib.hid hfit
  have HL := Lib.hid hlen
  obtain ⟨Av, cv, rfl, hcv⟩ := hb.form
  clear hj hi ha hbJ hfit hb hlen
  unfold JA.rewrite
  cases off with
  | true =>
    simp only [if_true]
    have HT := Lib.hid (jturn0 HJ.out HI.out HA.out (Kept.refl Kno w))
    go_enter Try.func39, Try.ntmps39
    go_wp2
    go_ret
    exact ⟨rfl, HT.out⟩
  | false =>
    simp only [Bool.false_eq_true, if_false]
    have HT := Lib.hid (jturn0 HJ.out HI.out HA.out (Kept.refl Kno w))
    obtain ⟨⟨a', c⟩, hp⟩ : ∃ p, p = a.replace file (frames bs) := ⟨_, rfl⟩
    have HP := Lib.hid hp
    rw [← hp]
    clear hp
    obtain ⟨res, hres⟩ : ∃ res, res = (if (bs.any fun b => decide (1048576 < b.length)) = true then ((⟨a, rs, false⟩ : JA), (2 : Int)) else (⟨a, rs, false⟩ : JA).done (a', c) bs) := ⟨_, rfl⟩
    rw [← hres]
    have HRES := Lib.hid hres
    clear hres
    go_enter Try.func39, Try.ntmps39
    go_wp2_with fail
    go_loopw [18] (fun i wr => ∃ k : Nat, k ≤ bs.length ∧ i = .int .i64 (k : Nat) ∧ (∀ b ∈ bs.take k, b.length ≤ 1048576) ∧ wr = w) (fun i _ => bs.length - (intOf i).toNat)
    case atStart => exact ⟨0, by omega, rfl, by simp, rfl⟩
    case round =>
      obtain ⟨k, hk, rfl, hsm, hwr⟩ := hrel
      have HSM := Lib.hid hsm
      have HWR := Lib.hid hwr
      clear hsm
      by_cases hlt : k < bs.length
      · obtain ⟨g, o, c9, x, hv, hx, hcell⟩ := HB.out.at hlt
        injection hv with e1 e2 e3
        subst e1 e3
        have hbk : bs[k]? = some bs[k] := List.getElem?_eq_getElem hlt
        generalize bs[k] = b at hbk
        have hbs := HB.out.2 k x b hx hbk
        obtain ⟨Ax, cx, rfl, -⟩ := hbs
        have HBK := Lib.hid hbk
        have hlb := HL.out b (List.mem_of_getElem? hbk)
        have n60 : b.length ≤ 9223372036854775807 := by simp only [maxLen] at hlb; omega
        have hkz : (0 : Int) ≤ (k : Int) := by omega
        have hk1 : (k : Int) < (bs.length : Int) := by omega
        rw [← hwr] at hcell
        clear hx hbk e2 hwr hlb
        by_cases hbig : 1048576 < b.length
        · have hbig2 : (1048576 : Int) < (b.length : Int) := by omega
          have hany : (bs.any fun b => decide (1048576 < b.length)) = true := List.any_eq_true.2 ⟨b, List.mem_of_getElem? HBK.out, by simpa using hbig⟩
          have HE : Hid (res = (⟨a, rs, false⟩, 2)) := Lib.hid (by rw [HRES.out, if_pos hany])
          clear hany
          go_wp2
          go_ret
          rw [HE.out]
          refine ⟨rfl, ?_⟩
          rw [HWR.out]
          exact HT.out
        · have hbig2 : ¬ (1048576 : Int) < (b.length : Int) := by omega
          go_wp2
          go_roundw
          case rel =>
            refine ⟨k + 1, by omega, by go_num, fun c hc => ?_, HWR.out⟩
            rw [take_snocr HBK.out] at hc
            rcases List.mem_append.1 hc with h | h
            · exact HSM.out c h
            · rw [List.mem_singleton.1 h]; omega
          case measure => simp [intOf]; omega
      · have hk1 : ¬ (k : Int) < (bs.length : Int) := by omega
        obtain rfl : k = bs.length := by omega
        have hany : (bs.any fun b => decide (1048576 < b.length)) = false := by
          rw [List.any_eq_false]
          intro b hb
          have h9 := HSM.out
          rw [List.take_length] at h9
          have := h9 b hb
          simp; omega
        have hft := HF.out hany
        have HSH : Hid (Short bs) := Lib.hid (by have h9 := HSM.out; rw [List.take_length] at h9; exact h9)
        have HE : Hid (res = (⟨a, rs, false⟩ : JA).done (a', c) bs) := Lib.hid (by rw [HRES.out, hany]; rfl)
        subst hwr
        clear hany HSM HWR HRES
        obtain ⟨w0, rfl⟩ : ∃ w0 : World, w0 = wr := ⟨_, rfl⟩
        go_wp2_with fail
        go_loopw [7, 8, 28] (fun b ends i wr' => RewRel bs w0 b ends i wr') (fun _ _ i _ => bs.length - (intOf i).toNat)
        case atStart => exact ⟨0, none, 0, none, 0, by omega, rfl, rfl, World.ownsRow_nil _ _ _ _, rfl, World.ownsRow_nil _ _ _ _, Kept.refl _ _⟩
        case round =>
          obtain ⟨k, A, cap, A', cap', hk, rfl, rfl, hall, rfl, hends, hkk⟩ := hrel
          have HALL := Lib.hid hall
          have HENDS := Lib.hid hends
          have HKK := Lib.hid hkk
          clear hall hends
          by_cases hlt : k < bs.length
          · have hR := HB.out.kept0 hkk
            obtain ⟨g, o, c9, x, hv, hx, hcell⟩ := hR.at hlt
            injection hv with e1 e2 e3
            subst e1 e3
            have hbk : bs[k]? = some bs[k] := List.getElem?_eq_getElem hlt
            have hml := HSH.out bs[k] (List.getElem_mem hlt)
            generalize bs[k] = b at hbk hml
            have hbs := hR.2 k x b hx hbk
            have t1 := run_string_bs (P := Try.prog) 30 9 5 hbs Try.underlying30 Try.underlying5 Try.underlying9
            obtain ⟨Ax, cx, rfl, -⟩ := hbs
            have HBK := Lib.hid hbk
            have hfl : (frames (bs.take (k + 1))).length ≤ 20000000 := Nat.le_trans (frames_take_le bs (k + 1)) hft
            have hfe : (frames (bs.take (k + 1))).length = (frames (bs.take k)).length + (frame b).length := by rw [take_snocr hbk, frames_snoc, List.length_append]
            have hkz : (0 : Int) ≤ (k : Int) := by omega
            have hk1 : (k : Int) < (bs.length : Int) := by omega
            have HFE := Lib.hid hfe
            clear hR hx hbk hkk e2 hfe
            have hat := appendText_nil b wr (by omega)
            simp only [strOf] at hat
            go_wp2_with fail
            refine hat.mono ?_
            rintro e w4 ⟨A4, cap4, rfl, hown4, hk4⟩
            have HO4 := Lib.hid hown4
            have hs4 : w0.heap.size ≤ w4.heap.size := Nat.le_trans HKK.out.size hk4.size
            have HB4 := Lib.hid (own_kept HALL.out hk4 (fun _ _ h => h))
            have HE4 := Lib.hid (own_kept HENDS.out hk4 (fun _ _ h => h))
            have m1 : (frames (bs.take k)).length + (frame b).length ≤ maxLen := by have := HFE.out; simp only [maxLen]; omega
            have m3 : ((frames (bs.take k)).length + (frame b).length) * 1 ≤ 140737488355328 := by have := HFE.out; omega
            have m2 : k + 1 ≤ maxLen := by simp only [maxLen]; omega
            clear hown4 hat t1
            go_wp2_with (at_builtin; first
              | (refine wpList_append_rd _ rfl _ _ 30 rfl w0.heap.size 5 i0 _ 1 1 Try.underlying30 hi0 hz0 hz1 hz2 rfl (by decide) (.slice A (frames (bs.take k)).length cap) (frames (bs.take k)).length ((frames (bs.take k)).map bv) rfl HB4.out _ (frame b).length ((frame b).map bv) rfl (OwnB.bs HO4.out) (bvs_one _) m1 m3 hs4 ?_
                 intro A5 cap5 w5 hown5 hg5 hat5
                 have hk5 : Kept (Kown (.slice A (frames (bs.take k)).length cap)) w4 w5 := (Kept.refl _ w4).grown hg5 (fun q _ e => e)
                 have HB5 : Hid (OwnB w5 w0.heap.size 5 (.slice A5 ((frames (bs.take k)).length + (frame b).length) cap5) (frames (bs.take (k + 1)))) := Lib.hid (by
                   unfold OwnB
                   rw [HFE.out, take_snocr HBK.out, frames_snoc, List.map_append]
                   exact hown5)
                 have HE5 := Lib.hid (own_kept HE4.out hk5 (fun q e e' => absurd ((own_bt HE4.out e).one (own_bt HB4.out e')) (by decide)))
                 have hs5 := hk5.size
                 have hkk5 : Kept Kno w0 w5 := (HKK.out.then0 hk4).trans hk5 (fun q hq e => by have := (own_base HB4.out e).1; omega)
                 rw [← HFE.out]
                 clear hown5 hg5 hat5)
              | (refine wpList_append_rd _ rfl _ _ 31 rfl w0.heap.size 3 q0 _ 1 8 Try.underlying31 hq0 hx0 hx1 hx2 rfl (by decide) (.slice A' k cap') k (eVal (bs.take k)) rfl (World.ownsRow.alloc HE5.out _) _ 1 [.int .i64 ((frames (bs.take (k + 1))).length : Nat)] rfl (Rd.one _ _ _ rfl) (by simp [Value.oneCell']) m2 (by omega) (by simp; omega) ?_
                 intro A6 cap6 w6 hown6 hg6 hat6))
            go_roundw
            case rel =>
              have hkA : Kept Kno w5 (w5.alloc (.cells #[.int .i64 ((frames (bs.take (k + 1))).length : Nat)] 3)) := (Kept.refl _ _).alloc _
              have hk6 : Kept (Kown (.slice A' k cap')) w5 w6 := (hkA.mono (T := Kown (.slice A' k cap')) (fun _ _ h => h.elim)).grown hg6 (fun q _ e => e)
              have hB5 := HB5.out
              rw [← HFE.out] at hB5
              refine ⟨k + 1, A5, cap5, A6, cap6, by omega, by go_num, rfl, ?_, rfl, ?_, ?_⟩
              · exact own_kept hB5 hk6 (fun q e e' => absurd ((own_bt hB5 e).one (own_bt HE5.out e')) (by decide))
              · rw [take_snocr HBK.out, eVal_snoc, ← take_snocr HBK.out]
                exact hown6
              · exact hkk5.trans hk6 (fun q hq e => by have := (own_base HE5.out e).1; omega)
            case measure => simp [intOf]; omega
          · have hk1 : ¬ (k : Int) < (bs.length : Int) := by omega
            obtain rfl : k = bs.length := by omega
            have HALL2 : Hid (OwnB wr w0.heap.size 5 (.slice A (frames bs).length cap) (frames bs)) := Lib.hid (by have h9 := HALL.out; rw [List.take_length] at h9; exact h9)
            have HENDS2 : Hid (ER wr w0.heap.size (.slice A' bs.length cap') bs) := Lib.hid (by have h9 := HENDS.out; rw [List.take_length] at h9; exact h9)
            rw [List.take_length]
            have HJR := Lib.hid (HJ.out.kept0 hkk)
            have c0 := HJR.out.c_disk
            have c1 := HJR.out.c_file
            clear HALL HENDS hkk c4
            have HJd := Lib.hid (HJR.out.kept0 (Kept.drew (Kept.refl Kno wr)))
            have HId := Lib.hid ((HI.out.kept0 HKK.out).kept0 (Kept.drew (Kept.refl Kno wr)))
            have hrep := replace_any file _ (frames bs) HId.out (OwnB.bs (own_kept HALL2.out (Kept.drew (Kept.refl Kno wr)) (fun _ _ h => h)))
            rw [← HP.out] at hrep
            have HREP := Lib.hid hrep
            clear hrep
            go_wp2_with fail
            go_region_with (first
              | (go_at_call 34
                 refine HREP.out.mono ?_
                 rintro e w2 ⟨rfl, ht⟩
                 have HTN := Lib.hid (jturn_note c HJd.out HId.out HA.out ht)
                 have d4 := (jr_turn HJd.out HA.out ht).c_off
                 have g4 := (jr_turn HJd.out HA.out ht).blk.frozen 4
                 clear ht)
              | (go_at_call 63
                 refine (note_any J _ false w2 d4 g4).mono ?_
                 rintro e w3 ⟨rfl, hw3⟩
                 rw [← hw3] at HTN
                 clear hw3))
            all_goals
              clear c0 c1 d4 g4
              by_cases hc : c = 0
              · subst hc
                obtain ⟨fsq, hiq, hjq, haq, hkq, hdkq⟩ := HTN.out.2
                rw [decide_eq_false (show ¬ (0 : Int) = 220 by decide)] at hjq
                have hkd : Kept Kno w0 wr.drew := HKK.out.then0 (Kept.drew (Kept.refl Kno wr))
                have hk3 : Kept (fun k => JOwn J rv ev us k ∨ DK B fs k) w0 w3 := (hkd.mono (T := fun k => JOwn J rv ev us k ∨ DK B fs k) (fun _ _ h => h.elim)).trans hkq (fun _ _ h => h)
                have HL3 := Lib.hid (HBJ.out w3 hk3)
                have HIQ := Lib.hid hiq
                have HJQ := Lib.hid hjq
                have HK3 := Lib.hid hk3
                have HDQ := Lib.hid hdkq
                have HE3 : Hid (ER w3 w0.heap.size (.slice A' bs.length cap') bs) := Lib.hid ((HENDS2.out.kept0 (Kept.drew (Kept.refl Kno wr))).kept hkq (fun q e e' => by
                  have h1 := (own_base HENDS2.out e).1
                  rcases e' with e' | e'
                  · have := (HJ.out.own_low e').2; omega
                  · have := (HI.out.low e').2; omega))
                have d2 := hjq.c_recs
                have d3 := hjq.c_ends
                have g2 := hjq.blk.frozen 2
                have g3 := hjq.blk.frozen 3
                have lJ := hjq.blk.lt
                obtain ⟨Ar, cr, hrv⟩ := own_form hjq.rr.row
                obtain ⟨Ae, ce, hev⟩ := own_form hjq.er
                rw [hrv] at d2
                rw [hev] at d3
                clear hiq hjq haq hkq hdkq HTN hk3 hrv hev HREP HJd HId
                go_wp2_with fail
                refine (clone_any _ ws bs w3 HL3.out (by omega) (fun b hb => by have := HSH.out b hb; omega)).mono ?_
                rintro e w4 ⟨A8, cap8, vs8, rfl, hls8, hk8⟩
                have HT9 := Lib.hid (jr_fresh (wx := wr.drew) hbase HJQ.out HIQ.out HK3.out HDQ.out hkd.size (fun k h => (HI.out.low h).2) hk8 hls8 (HE3.out.kept0 hk8) (fun k e => (own_base HENDS2.out e).2) hft)
                have p2 := hk8.cell_some d2 (fun h => h)
                have p3 := hk8.cell_some d3 (fun h => h)
                have r2 := hk8.frozen_no g2 lJ (fun h => h)
                have r3 := hk8.frozen_no g3 lJ (fun h => h)
                clear hls8 d2 d3 g2 g3
                go_wp2
                go_ret
                rw [HE.out]
                refine ⟨rfl, ?_⟩
                have h9 := HT9.out
                simpa [JA.done] using h9
              · go_wp2
                go_ret
                rw [HE.out]
                refine ⟨rfl, ?_⟩
                have h9 := HTN.out.1.before (HKK.out.then0 (Kept.drew (Kept.refl Kno wr)))
                simpa [JA.done, hc] using h9

end Go.Proofs.Yteoodgcpkgfomaa
