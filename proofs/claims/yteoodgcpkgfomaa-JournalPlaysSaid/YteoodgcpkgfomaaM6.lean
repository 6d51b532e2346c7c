/-
  Contracts and plain laws that the claim's theorem rests on, some texts in one file.
-/
import Derived.Test.YteoodgcpkgfomaaM5
import Derived.RangeFuncNested
import Derived.RangeFuncBound
import Derived.RangeFuncCalls
import Derived.RangeFuncLeaves
import Derived.Shelf.Abstract
import Derived.Shelf.RegionOpen
import Derived.WalkKit
import Derived.OwnWalkIn
import Derived.TacticsInMore
import Derived.LoopNIn
import Derived.LoopIn
import Derived.Laws.IdiomStrings
import Derived.OrdersIn
/-
  Journal: unfinished, frames and the iterator over the frames.
-/
namespace Go.Proofs.Yteoodgcpkgfomaa
open Go.RowKit Go.Shelf
attribute [local go_sem] Oper.semAt_some
set_option linter.unusedVariables false

set_option maxHeartbeats 1000000 in
theorem unfinished_any (v : Value) (l : List UInt8) (n : Nat) (w : World) (hb : Bs w v l) (hl : l.length ≤ 1000000) (hn : n ≤ l.length) :
    Calls Try.prog 87 #[v, .int .i64 n] w fun e w' => e = .returned (.bool (unfin l n)) ∧ Kept Kno w w' := by
  have HB := Lib.hid hb
  obtain ⟨A, cap, rfl, -⟩ := hb
  have hne : ¬ ((n : Int) < 0 ∨ (l.length : Int) < n) := by omega
  have hs : wrap64 ((l.length : Int) - n) = ((l.length - n : Nat) : Int) := by unfold wrap64; omega
  cases hu : uintAt l n with
  | ok p =>
    obtain ⟨N, k⟩ := p
    have hr : uintRes l n = (N, n + k, 0) := by simp only [uintRes, if_neg hne, Int.toNat_natCast, hu]
    have HU : Hid (unfin l n = true) := Lib.hid (by simp only [unfin, hu])
    have HR := Lib.hid hr
    clear hu hr
    go_enter Try.func87, Try.ntmps87
    go_wp2_with fail
    refine (uintF_any _ l n w HB.out hl).mono ?_
    rw [HR.out]
    rintro e w1 ⟨rfl, hk⟩
    go_wp2
    go_ret
    exact ⟨by rw [HU.out]; rfl, hk⟩
  | error c =>
    have hr : uintRes l n = (0, 0, c) := by simp only [uintRes, if_neg hne, Int.toNat_natCast, hu]
    have hc0 : c ≠ 0 := by
      rintro rfl
      exact scan_any.rdF_err0 _ _ _ _ hu
    have HR := Lib.hid hr
    by_cases h2 : l.length - n ≤ 2
    · have HU : Hid (unfin l n = true) := Lib.hid (by simp only [unfin, hu, h2, decide_true])
      have h3 : ((l.length - n : Nat) : Int) ≤ 2 := by omega
      clear hu hr
      go_enter Try.func87, Try.ntmps87
      go_wp2_with fail
      refine (uintF_any _ l n w HB.out hl).mono ?_
      rw [HR.out]
      rintro e w1 ⟨rfl, hk⟩
      go_wp2
      go_ret
      exact ⟨by rw [HU.out]; go_simp; omega, hk⟩
    · have HU : Hid (unfin l n = false) := Lib.hid (by simp only [unfin, hu, h2, decide_false])
      have h3 : ¬ ((l.length - n : Nat) : Int) ≤ 2 := by omega
      clear hu hr
      go_enter Try.func87, Try.ntmps87
      go_wp2_with fail
      refine (uintF_any _ l n w HB.out hl).mono ?_
      rw [HR.out]
      rintro e w1 ⟨rfl, hk⟩
      go_wp2
      go_ret
      exact ⟨by rw [HU.out]; go_simp; omega, hk⟩

set_option maxHeartbeats 400000 in
theorem framesF_any (v : Value) (w : World) (A : Option Addr) (n cap : Nat) (hv : v = .slice A n cap) :
    Calls Try.prog 79 #[v] w fun e w' => e = .returned (.func (.func 85) #[] #[.pointer (some ⟨w.heap.size, 0, none⟩)]) ∧ w' = w.alloc (.cells #[v] 30) := by
  subst hv
  have hmf : ∀ (fn : Fn) (first cap : Array Value) (w : World), (Instr.makeFunc fn first cap).run Try.prog w = .ok (.func fn first cap) w := fun _ _ _ _ => rfl
  go_enter Try.func79, Try.ntmps79
  go_wp2
  go_ret
  exact ⟨rfl, rfl⟩

/-- Block k holds cells of type t. -/
def BT (w : World) (k : Nat) (t : TypeId) : Prop := ∃ cs fr, w.heap[k]? = some (.cells cs t fr)
theorem BT.one {w : World} {k : Nat} {t t' : TypeId} (h : BT w k t) (h' : BT w k t') : t = t' := by
  obtain ⟨cs, fr, h⟩ := h
  obtain ⟨cs', fr', h'⟩ := h'
  rw [h] at h'
  injection h' with h'
  injection h'
theorem BT.lt {w : World} {k : Nat} {t : TypeId} (h : BT w k t) : k < w.heap.size := by
  obtain ⟨cs, fr, h⟩ := h
  exact (Array.getElem?_eq_some_iff.1 h).1
theorem BT.kept {S : Nat → Prop} {w w' : World} {k : Nat} {t : TypeId} (h : BT w k t) (hk : Kept S w w') (hS : ¬ S k) : BT w' k t := by
  have hl := h.lt
  obtain ⟨cs, fr, h⟩ := h
  exact ⟨cs, fr, (hk.block k hl hS).trans h⟩
theorem Blk.bt {w : World} {k : Nat} {t : TypeId} {cs : Array Value} (h : Blk w k t cs) : BT w k t := ⟨cs, (0, 0), h⟩
theorem own_bt {w : World} {base k : Nat} {e : TypeId} {size n : Nat} {v : Value} {xs : List Value} (h : w.ownsRow base e size v n xs) (hk : v.ownBlock = some k) : BT w k e := by
  rcases h.2 with ⟨rfl, _⟩ | ⟨g', cap, cur, rfl, _, hh, _⟩
  · simp [Value.ownBlock] at hk
  · have : g' = k := by simpa [Value.ownBlock] using hk
    subst this
    exact ⟨cur, (0, 0), hh⟩

/-- A slice that reads as bytes, in a block of bytes from base on. -/
def RecIn (w : World) (base : Nat) (x : Value) (b : List UInt8) : Prop := Bs w x b ∧ ∀ k, x.ownBlock = some k → base ≤ k ∧ BT w k 5
theorem RecIn.kept {S : Nat → Prop} {w w' : World} {base : Nat} {x : Value} {b : List UInt8} (h : RecIn w base x b) (hk : Kept S w w') (hS : ∀ k, x.ownBlock = some k → ¬ S k) : RecIn w' base x b :=
  ⟨Rd.kept h.1 hk hS, fun k e => ⟨(h.2 k e).1, (h.2 k e).2.kept hk (hS k e)⟩⟩
theorem RecIn.kept0 {w w' : World} {base : Nat} {x : Value} {b : List UInt8} (h : RecIn w base x b) (hk : Kept Kno w w') : RecIn w' base x b := h.kept hk (fun _ _ h => h)
theorem RecIn.rebase {w : World} {base base' : Nat} {x : Value} {b : List UInt8} (h : RecIn w base x b) (hb : base' ≤ base) : RecIn w base' x b := ⟨h.1, fun k e => ⟨Nat.le_trans hb (h.2 k e).1, (h.2 k e).2⟩⟩
theorem RecIn.own {w : World} {base : Nat} {x : Value} {b : List UInt8} (h : OwnB w base 5 x b) : RecIn w base x b := ⟨h.bs, fun k e => ⟨(own_base h e).1, own_bt h e⟩⟩

theorem recIn_new (w : World) (base : Nat) (b : List UInt8) (cap : Nat) (fr : Nat × Nat) (hb : base ≤ w.heap.size) (hc : b.length ≤ cap) :
    RecIn (w.alloc (.cells (bytesRow ⟨b.toArray⟩ cap) 5 fr)) base (.slice (some ⟨w.heap.size, 0, none⟩) b.length cap) b := by
  refine ⟨⟨_, _, rfl, hc, by simp, (fun h => by cases h), fun ad hA j u hj => ?_⟩, fun k e => ?_⟩
  · cases hA
    rw [add_lit0, Nat.zero_add, cell_of_row _ w.heap.size j _ _ fr (heap_alloc_new w _)]
    have hjl : j < b.length := by
      have := (List.getElem?_eq_some_iff.1 hj).1
      simpa using this
    rw [bytesRow_at ⟨b.toArray⟩ cap j (by simpa using hjl)]
    rw [List.getElem?_map, List.getElem?_eq_getElem hjl] at hj
    simpa [bv] using hj
  · have : k = w.heap.size := by simpa [Value.ownBlock] using e.symm
    subst this
    exact ⟨hb, _, fr, heap_alloc_new w _⟩

theorem bytes_conv (w : World) (base : Nat) (b : List UInt8) (hb : base ≤ w.heap.size) : ∃ cp w2, (convert 9 30 (.string ⟨b.toArray⟩)).run Try.prog w = .ok (.slice (some ⟨w.heap.size, 0, none⟩) b.length cp) w2 ∧
    RecIn w2 base (.slice (some ⟨w.heap.size, 0, none⟩) b.length cp) b ∧ Kept Kno w w2 := by
  have hcv := run_bytes_of_string (P := Try.prog) w 9 30 5 ⟨b.toArray⟩ Try.underlying9 Try.underlying30 Try.underlying5
  have hs : (⟨b.toArray⟩ : ByteArray).size = b.length := rfl
  rw [hs] at hcv
  exact ⟨_, _, hcv, recIn_new w.drew base b _ _ hb (grownCap_ge _ _ _ _), ((Kept.refl Kno w).drew).alloc _⟩

/-- The panic that ends the reading. -/
def Stop (n : Nat) (t : Bool) : Ending := .panicked [{ v := .iface 102 (.agg #[.int .i64 (n : Int), .bool t]), recovered := false }]

/-- How the iterator ends. -/
def IterEnd (l : List UInt8) (e : Ending) : Prop :=
  ((scan l).2.2 = 0 ∧ ∃ v, e = .returned v) ∨ ((scan l).2.2 ≠ 0 ∧ (scan l).2.1 < l.length ∧ e = Stop (scan l).2.1 (decide ((scan l).2.2 = 20) && unfin l (scan l).2.1))

set_option maxHeartbeats 4000000 in
theorem iter_any (n lid Bb base : Nat) (v : Value) (l : List UInt8) (hl : l.length ≤ 1000000) (J : List (List UInt8) → World → Prop)
    (hJb : ∀ rs W, J rs W → W.cell? ⟨Bb, 0, none⟩ = some v ∧ Bs W v l ∧ base ≤ W.heap.size) (hJk : ∀ rs W W', J rs W → Kept Kno W W' → J rs W')
    (hY : ∀ rs b x W, J rs W → RecIn W base x b → b.length ≤ 1048576 → (frames (rs ++ [b])).length ≤ l.length → YieldAt Fence.wide (n - 1) Try.prog lid #[x, .int .i64 ((frames (rs ++ [b])).length : Nat)] W fun e W' => e = .returned (.bool true) ∧ J (rs ++ [b]) W')
    (W : World) (h0 : J [] W) :
    CallsIn Fence.wide n Try.prog 85 #[.func (.yield lid) #[] #[], .pointer (some ⟨Bb, 0, none⟩)] W fun e W' => J (scan l).1 W' ∧ IterEnd l e := by
  have hbW := hJb _ _ h0
  obtain ⟨A, cap, rfl, hlc, -⟩ := hbW.2.1
  have HJB := Lib.hid hJb
  have HJK := Lib.hid hJk
  have HY := Lib.hid hY
  have H0 := Lib.hid h0
  clear hJb hJk hY hbW h0
  refine callsIn_of_wp Try.func85 rfl trivial ?_ rfl
  simp only [Try.ntmps85, List.size_toArray, List.length_cons, List.length_nil, Nat.reduceAdd, Nat.reduceSub, Array.replicate_succ, Array.replicate_zero, List.push_toArray, List.append_toArray, List.nil_append, List.cons_append]
  gi_wp2
  gi_loopw [3] (fun at_ wr => ∃ (k : Nat) (rs : List (List UInt8)), at_ = .int .i64 k ∧ k ≤ l.length ∧ k = (frames rs).length ∧ J rs wr ∧ scan l = (rs ++ (scan (l.drop k)).1, k + (scan (l.drop k)).2.1, (scan (l.drop k)).2.2))
    (fun at_ _ => l.length - (intOf at_).toNat)
  case atStart => exact ⟨0, [], rfl, by omega, rfl, H0.out, by simp⟩
  case round =>
    obtain ⟨k, rs, rfl, hk, hkf, hj, hsc⟩ := hrel
    obtain ⟨hc0, hbs, hbase⟩ := HJB.out _ _ hj
    have HBS := Lib.hid hbs
    have HJ := Lib.hid hj
    have HSC := Lib.hid hsc
    have HKF := Lib.hid hkf
    clear hbs hj hsc hkf
    by_cases hlt : k < l.length
    · have hk1 : (k : Int) < (l.length : Int) := by omega
      have hne : ¬ ((k : Int) < 0 ∨ (l.length : Int) < k ∨ (1048576 : Int) < 0) := by omega
      have h0l : 0 < (l.drop k).length := by rw [List.length_drop]; omega
      cases ht : textAt l k 1048576 with
      | error c =>
        have HR : Hid (textRes l k 1048576 = ([], 0, c)) := Lib.hid (by simp only [textRes, if_neg hne, Int.toNat_natCast, Int.reduceToNat, ht])
        have HE : Hid (scan (l.drop k) = ([], 0, c)) := Lib.hid (scan_err h0l (by rw [← textAt_at]; exact ht))
        have hcz : c ≠ 0 := by
          intro hc
          have h9 := (scan_any (l.drop k)).2.2.2.2
          rw [HE.out] at h9
          have h8 := h9 hc
          simp only at h8
          omega
        have HF : ∀ w', Kept Kno wr w' → J (scan l).1 w' ∧ (scan l).2.1 = k ∧ (scan l).2.2 = c := fun w' hk' => by
          rw [HSC.out, HE.out]
          simp only [List.append_nil, Nat.add_zero]
          exact ⟨HJK.out _ _ _ HJ.out hk', trivial, trivial⟩
        have HFF := Lib.hid HF
        clear HF ht
        by_cases hc20 : c = 20
        · subst hc20
          gi_wp2_with fail
          refine ⟨trivial, (fun h => by cases h), (callsIn_wide.2 (textF_any _ l k 1048576 wr HBS.out hl (by omega))).mono ?_⟩
          rw [HR.out]
          rintro e w1 ⟨rfl, hk1'⟩
          have hc1 := hk1'.cell_some hc0 (fun h => h)
          gi_wp2_with fail
          refine ⟨trivial, (fun h => by cases h), (callsIn_wide.2 (unfinished_any _ l k w1 (Rd.kept0 HBS.out hk1') hl hk)).mono ?_⟩
          rintro e w2 ⟨rfl, hk2'⟩
          gi_wp2
          have h9 := HFF.out w2 (hk1'.then0 hk2')
          exact ⟨rfl, h9.1, .inr ⟨by rw [h9.2.2]; decide, by rw [h9.2.1]; exact hlt, by rw [h9.2.1, h9.2.2]; rfl⟩⟩
        · gi_wp2_with fail
          refine ⟨trivial, (fun h => by cases h), (callsIn_wide.2 (textF_any _ l k 1048576 wr HBS.out hl (by omega))).mono ?_⟩
          rw [HR.out]
          rintro e w1 ⟨rfl, hk1'⟩
          have hc1 := hk1'.cell_some hc0 (fun h => h)
          have hc2 : (c == 20) = false := by simpa using hc20
          gi_wp2
          refine ⟨trivial, ?_⟩
          gi_wp2
          have h9 := HFF.out w1 hk1'
          exact ⟨rfl, h9.1, .inr ⟨by rw [h9.2.2]; exact hcz, by rw [h9.2.1]; exact hlt, by rw [h9.2.1, h9.2.2, decide_eq_false hc20]; rfl⟩⟩
      | ok p =>
        obtain ⟨b, j⟩ := p
        have HR : Hid (textRes l k 1048576 = (b, k + j, 0)) := Lib.hid (by simp only [textRes, if_neg hne, Int.toNat_natCast, Int.reduceToNat, ht])
        have ht' : textAt (l.drop k) 0 1048576 = .ok (b, j) := by rw [← textAt_at]; exact ht
        have HE : Hid (scan (l.drop k) = (b :: (scan (l.drop (k + j))).1, j + (scan (l.drop (k + j))).2.1, (scan (l.drop (k + j))).2.2)) := Lib.hid (by rw [scan_ok h0l ht', List.drop_drop])
        obtain ⟨t1, -, t3, t4⟩ := text_one ht'
        rw [List.length_drop] at t4
        have tp := frame_pos b
        have hfr : (frames (rs ++ [b])).length = k + j := by rw [frames_snoc, List.length_append, ← HKF.out, t1]
        clear ht ht'
        gi_wp2_with fail
        refine ⟨trivial, (fun h => by cases h), (callsIn_wide.2 (textF_any _ l k 1048576 wr HBS.out hl (by omega))).mono ?_⟩
        rw [HR.out]
        rintro e w1 ⟨rfl, hk1'⟩
        have hc1 := hk1'.cell_some hc0 (fun h => h)
        obtain ⟨cp, w2, hcv, hrec, hk2'⟩ := bytes_conv w1 base b (Nat.le_trans hbase hk1'.size)
        have hkk : Kept Kno wr w2 := hk1'.then0 hk2'
        obtain ⟨fn, tmps, assign, body, hy, hR⟩ := HY.out rs b _ w2 (HJK.out _ _ _ HJ.out hkk) hrec t3 (by omega)
        rw [hfr, Int.natCast_add] at hy
        have HRR := Lib.hid hR
        have HFR := Lib.hid hfr
        have HT1 := Lib.hid t1
        clear hR t1 hfr
        unfold strOf
        gi_wp2_with fail
        refine ⟨(fun h => by cases h), HRR.out.mono ?_⟩
        rintro e w3 ⟨rfl, hj3⟩
        have HJ3 := Lib.hid hj3
        clear hj3 hy
        gi_wp2
        go_roundw
        case rel => exact ⟨k + j, rs ++ [b], by go_num, by omega, HFR.out.symm, HJ3.out, by rw [HSC.out, HE.out]; simp [Nat.add_assoc]⟩
        case measure =>
          have := HT1.out
          simp only [intOf]
          omega
    · have hk1 : ¬ (k : Int) < (l.length : Int) := by omega
      obtain rfl : k = l.length := by omega
      have hdr : scan (l.drop l.length) = ([], 0, 0) := by rw [List.drop_length]; rfl
      have hs := HSC.out
      rw [hdr] at hs
      simp only [List.append_nil, Nat.add_zero] at hs
      have HF : Hid (J (scan l).1 wr ∧ (scan l).2.2 = 0) := Lib.hid (by rw [hs]; exact ⟨HJ.out, rfl⟩)
      clear hs hdr HSC HKF
      gi_wp2
      go_end0
      exact ⟨HF.out.1, .inl ⟨HF.out.2, _, rfl⟩⟩

end Go.Proofs.Yteoodgcpkgfomaa
/-
  A region that draws its order inside a round of a range over a function, by stages: what is known of the slots and of memory is said by the set of the operations that have run; one step for each operation serves every order. With it: 'p.f = append(p.f, x)'. No function of the program in sight.
-/
namespace Go.Proofs.Yteoodgcpkgfomaa
open Go.RowKit
set_option linter.unusedVariables false

section
variable {F : Fence} {n : Nat} {P : Program} {md : Region.Mode} {ops : Array Oper} {Q : Exit → Act → World → Prop}

/-- Every set of operations that may have run leads to such a set again; dep: what an operation that may come up finds done. -/
def stagesOk (md : Region.Mode) (ops : Array Oper) (S : List (List Bool)) (dep : Nat → List Bool → Bool) : Bool :=
  S.all fun l => (Region.ready md ops l.toArray).all (fun i => dep i l && S.contains (l.set i true)) && (!(l.count false == 0) || (Region.ready md ops l.toArray).isEmpty) && l.length == ops.size &&
    (Region.ready md ops l.toArray).all (fun i => l[i]? == some false)

theorem count_set : ∀ (l : List Bool) (i : Nat), l[i]? = some false → (l.set i true).count false + 1 = l.count false
  | [], i, h => by simp at h
  | b :: l, 0, h => by simp at h; subst h; simp
  | b :: l, i + 1, h => by
    have := count_set l i (by simpa using h)
    simp only [List.set_cons_succ, List.count_cons]
    omega

theorem wpAnyIn_staged (S : List (List Bool)) (dep : Nat → List Bool → Bool) (hS : stagesOk md ops S dep = true) (Inv : List Bool → Act → World → Prop)
    (hfin : ∀ l ∈ S, Region.ready md ops l.toArray = [] → ∀ a w, Inv l a w → Q .normal a w)
    (hstep : ∀ (i : Nat) (l : List Bool) (a : Act) (w : World), dep i l = true → Inv l a w → wpOpIn F n P ops Q i (fun a' w' => Inv (l.set i true) a' w') a w) :
    ∀ (fuel : Nat) (l : List Bool) (a : Act) (w : World), l ∈ S → l.count false ≤ fuel → Inv l a w → wpAnyIn F n P md ops Q fuel l.toArray a w := by
  intro fuel
  induction fuel with
  | zero =>
    intro l a w hl hc hi
    have h := List.all_eq_true.1 hS l hl
    simp only [Bool.and_eq_true] at h
    have h2 := h.1.1.2
    have hc0 : l.count false = 0 := by omega
    simp only [hc0, beq_self_eq_true, Bool.not_true, Bool.false_or, List.isEmpty_iff] at h2
    exact ⟨h2, hfin l hl h2 a w hi⟩
  | succ fuel ih =>
    intro l a w hl hc hi
    have h := List.all_eq_true.1 hS l hl
    simp only [Bool.and_eq_true] at h
    refine ⟨fun h0 => hfin l hl h0 a w hi, fun i him => ?_⟩
    have h1 := List.all_eq_true.1 h.1.1.1 i him
    have h3 := List.all_eq_true.1 h.2 i him
    simp only [Bool.and_eq_true] at h1
    have h4 : l[i]? = some false := by simpa using h3
    refine wpOpIn_mono (fun a' w' hi' => ?_) (hstep i l a w h1.1 hi)
    have h5 := ih (l.set i true) a' w' (by simpa using h1.2) (by have := count_set l i h4; omega) hi'
    rw [List.setIfInBounds_toArray]
    exact h5

theorem wpOpIn_run {i : Nat} {o : Oper} {a : Act} {w w' : World} {K : Act → World → Prop} (ho : ops[i]? = some o) (hg : o.guard = none) (hd : ∀ c, o.op ≠ .defer c) (hF : ∀ f, F.fn f) (v : Value)
    (hrun : (execOp a.eval o).run P w = .ok (.value v) w' ∨ ((execOp a.eval o).run P w = .ok .skip w' ∧ v = undef)) (hK : K (a.put o.dst v) w') : wpOpIn F n P ops Q i K a w := by
  unfold wpOpIn
  simp only [ho]
  have hw : Region.wanted o (yielded ops a.tmps) = true := by simp [Region.wanted, hg]
  rw [if_pos hw]
  unfold Oper.wpIn
  refine ⟨fun f _ => hF f, ?_⟩
  rw [Oper.semAt_plain F a.eval o hd]
  rcases hrun with h | ⟨h, rfl⟩
  · rw [h]; exact hK
  · rw [h]; exact hK

theorem eval_put_at (a : Act) (d e : Nat) (v : Value) (hd : d < a.tmps.size) : (a.put (some d) v).eval (.tmp e) = if e = d then v else a.eval (.tmp e) := by
  unfold Act.put Act.eval
  by_cases h : e = d
  · subst h; simp [hd]
  · rw [if_neg h]
    simp only [Array.getD_eq_getD_getElem?]
    rw [Array.getElem?_setIfInBounds_ne (by omega)]
theorem size_put (a : Act) (d : Option Nat) (v : Value) : (a.put d v).tmps.size = a.tmps.size := by cases d <;> simp [Act.put]
end

end Go.Proofs.Yteoodgcpkgfomaa
