/-
  Journal: Open.
-/
import Derived.Test.YteoodgcpkgfomaaJourL
namespace Go.Proofs.Yteoodgcpkgfomaa
open Go.RowKit
set_option linter.unusedVariables false

/-- What Open does: the disk behind it, its answer, the records. -/
def jopen (a : Ab) (f : Int) : Ab × Int × Option (List (List UInt8)) :=
  if (a.read f).2 ≠ 0 then (a, (a.read f).2, none)
  else if (scan (a.read f).1).2.1 = (a.read f).1.length then (a, 0, some (scan (a.read f).1).1)
  else if (loadAt (a.read f).1).2 = false then (a, 230, none)
  else if (a.trunc f ((scan (a.read f).1).2.1 : Nat)).2 = 0 then ((a.trunc f ((scan (a.read f).1).2.1 : Nat)).1, 0, some (scan (a.read f).1).1)
  else ((a.trunc f ((scan (a.read f).1).2.1 : Nat)).1, (a.trunc f ((scan (a.read f).1).2.1 : Nat)).2, none)

def OpenVal (B : Nat) (f : Int) (fs' : List File) (code : Int) (w w' : World) (e : Ending) : Option (List (List UInt8)) → Prop
  | none => e = .returned (.tuple #[.pointer none, .int .i64 code])
  | some rs => ∃ J rv ev us, e = .returned (.tuple #[.pointer (some ⟨J, 0, none⟩), .int .i64 code]) ∧ Jr w' w.heap.size J B f rv ev us rs false ∧ JApart J B fs' rv ev us
def OpenOk (base B : Nat) (f : Int) (fs : List File) (r : Ab × Int × Option (List (List UInt8))) (w : World) (e : Ending) (w' : World) : Prop :=
  ∃ fs', Is w' base B fs' r.1 ∧ Kept (DK B fs) w w' ∧ (∀ k, DK B fs' k → DK B fs k ∨ w.heap.size ≤ k) ∧ OpenVal B f fs' r.2.1 w w' e r.2.2

theorem Jr.rebase {w : World} {base base' J B : Nat} {file : Int} {rv ev : Value} {us : List Value} {rs : List (List UInt8)} {off : Bool} (h : Jr w base J B file rv ev us rs off) (hb : base' ≤ base) : Jr w base' J B file rv ev us rs off :=
  ⟨Nat.le_trans hb h.low, h.blk, h.rr.rebase hb, h.er.rebase hb, h.fit⟩

/-- The journal that load has filled. -/
theorem load_jr {w w1 w2 : World} {B : Nat} {f : Int} {l : List UInt8} {rv ev : Value} {us : List Value} {o : Obj} (hk1 : Kept Kno w w1) (hl : l.length ≤ 1000000) (hk2 : Kept (Kone w1.heap.size) (w1.alloc o) w2) (hb : Blk w2 w1.heap.size 90 (jCells B f rv ev false))
    (hr : RR w2 (w1.alloc o).heap.size rv us (scan l).1) (he : ER w2 (w1.alloc o).heap.size ev (scan l).1) : Jr w2 w.heap.size w1.heap.size B f rv ev us (scan l).1 false ∧ Kept Kno w w2 := by
  have hs := hk1.size
  have hz : (w1.alloc o).heap.size = w1.heap.size + 1 := by simp
  rw [hz] at hr he
  have hsc := scan_any l
  refine ⟨⟨hs, hb, hr.rebase (by omega), he.rebase (by omega), ?_⟩, (hk1.alloc o).trans hk2 (fun i hi e => by unfold Kone at e; omega)⟩
  rw [← hsc.1]; omega

set_option maxRecDepth 100000 in
set_option maxHeartbeats 2000000 in
theorem open_any (base B : Nat) (f : Int) (fs : List File) (a : Ab) (w : World) (hi : Is w base B fs a) (hl : (a.read f).1.length ≤ 1000000) :
    Calls Try.prog 27 #[.pointer (some ⟨B, 0, none⟩), .int .i64 f] w (OpenOk base B f fs (jopen a f) w) := by
  have HI := Lib.hid hi
  clear hi
  obtain ⟨⟨l, c⟩, hr⟩ : ∃ p, p = a.read f := ⟨_, rfl⟩
  have HR := Lib.hid hr
  unfold jopen
  rw [← hr] at hl ⊢
  simp only at hl ⊢
  clear hr
  by_cases hc : c = 0
  · rw [if_neg (by simpa using hc)]
    subst hc
    have hsc := scan_any l
    have hla : (loadAt l).1 = (scan l).2.1 := rfl
    have HSC := Lib.hid hsc
    by_cases he : (scan l).2.1 = l.length
    · rw [if_pos he]
      have HE := Lib.hid he
      clear hsc he hla
      go_enter Try.func27, Try.ntmps27
      go_wp2_with fail
      refine (read_any f HI.out).mono ?_
      rw [← HR.out]
      rintro e w1 ⟨A1, cap1, rfl, hown1, hk1⟩
      have HO1 := Lib.hid hown1
      clear hown1
      go_wp2_with fail
      refine (load_any w1.heap.size B f _ l _ (Blk.new w1 90 #[.pointer (some ⟨B, 0, none⟩), .int .i64 f, .slice none 0 0, .slice none 0 0, .bool false]) (Rd.kept0 (OwnB.bs HO1.out) ((Kept.refl Kno w1).alloc _)) hl).mono ?_
      rintro e w2 ⟨he2, hk2, rv, ev, us, hb2, hr2, her2⟩
      obtain ⟨hjr, hk⟩ := load_jr hk1 hl hk2 hb2 hr2 her2
      have e9 : loadAt l = (l.length, decide ((scan l).2.2 = 20) && unfin l (scan l).2.1) := by simp only [loadAt, HE.out]
      rw [e9] at he2
      subst he2
      generalize (decide ((scan l).2.2 = 20) && unfin l (scan l).2.1) = tt
      have HJR := Lib.hid hjr
      have HI2 := Lib.hid (HI.out.kept0 hk)
      clear hk2 hb2 hr2 her2 e9 hjr
      go_wp2
      go_ret2
      refine ⟨fs, HI2.out, hk.mono (fun _ _ h => h.elim), fun k h => .inl h, w1.heap.size, rv, ev, us, rfl, HJR.out, fun k h h' => ?_⟩
      have := (HJR.out.own_low h).1
      have := (HI.out.low h').2
      omega
    · rw [if_neg he]
      obtain ⟨N, hN⟩ : ∃ N, N = (scan l).2.1 := ⟨_, rfl⟩
      have hNl : N ≤ l.length := by rw [hN]; exact hsc.2.2.2.1
      have hNe : N ≠ l.length := by rw [hN]; exact he
      have hi1 : ((N : Int) == (l.length : Int)) = false := by simp; omega
      rw [← hN]
      have HN := Lib.hid hN
      clear hsc he hla hN
      by_cases ht : (loadAt l).2 = false
      · rw [if_pos ht]
        have HE : Hid (loadAt l = (N, false)) := Lib.hid (by rw [HN.out]; ext1; rfl; exact ht)
        clear ht
        go_enter Try.func27, Try.ntmps27
        go_wp2_with fail
        refine (read_any f HI.out).mono ?_
        rw [← HR.out]
        rintro e w1 ⟨A1, cap1, rfl, hown1, hk1⟩
        have HO1 := Lib.hid hown1
        clear hown1
        go_wp2_with fail
        refine (load_any w1.heap.size B f _ l _ (Blk.new w1 90 #[.pointer (some ⟨B, 0, none⟩), .int .i64 f, .slice none 0 0, .slice none 0 0, .bool false]) (Rd.kept0 (OwnB.bs HO1.out) ((Kept.refl Kno w1).alloc _)) hl).mono ?_
        rintro e w2 ⟨he2, hk2, rv, ev, us, hb2, hr2, her2⟩
        obtain ⟨hjr, hk⟩ := load_jr hk1 hl hk2 hb2 hr2 her2
        rw [HE.out] at he2
        subst he2
        have HI2 := Lib.hid (HI.out.kept0 hk)
        clear hk2 hb2 hr2 her2 hjr
        go_wp2
        go_ret2
        exact ⟨fs, HI2.out, hk.mono (fun _ _ h => h.elim), fun k h => .inl h, rfl⟩
      · rw [if_neg ht]
        have HE : Hid (loadAt l = (N, true)) := Lib.hid (by rw [HN.out]; ext1; rfl; simpa using ht)
        clear ht
        obtain ⟨⟨a', c'⟩, hp⟩ : ∃ p, p = a.trunc f (N : Nat) := ⟨_, rfl⟩
        rw [← hp]
        have HP := Lib.hid hp
        clear hp
        simp only
        by_cases hc' : c' = 0
        · subst hc'
          rw [if_pos rfl]
          go_enter Try.func27, Try.ntmps27
          go_wp2_with fail
          refine (read_any f HI.out).mono ?_
          rw [← HR.out]
          rintro e w1 ⟨A1, cap1, rfl, hown1, hk1⟩
          have HO1 := Lib.hid hown1
          clear hown1
          go_wp2_with fail
          refine (load_any w1.heap.size B f _ l _ (Blk.new w1 90 #[.pointer (some ⟨B, 0, none⟩), .int .i64 f, .slice none 0 0, .slice none 0 0, .bool false]) (Rd.kept0 (OwnB.bs HO1.out) ((Kept.refl Kno w1).alloc _)) hl).mono ?_
          rintro e w2 ⟨he2, hk2, rv, ev, us, hb2, hr2, her2⟩
          obtain ⟨hjr, hk⟩ := load_jr hk1 hl hk2 hb2 hr2 her2
          rw [HE.out] at he2
          subst he2
          have HI2 := Lib.hid (HI.out.kept0 hk)
          have HJR := Lib.hid hjr
          clear hk2 hb2 hr2 her2 hjr
          go_wp2_with fail
          have htr := trunc_any f (N : Nat) HI2.out
          rw [← HP.out] at htr
          refine htr.mono ?_
          rintro e w3 ⟨rfl, htn⟩
          obtain ⟨fs3, hi3, hk3, hd3⟩ := htn.is
          have hlo := hk.size
          have HF : Hid (Is w3 base B fs3 a' ∧ Kept (DK B fs) w w3 ∧ (∀ k, DK B fs3 k → DK B fs k ∨ w.heap.size ≤ k) ∧ Jr w3 w.heap.size w1.heap.size B f rv ev us (scan l).1 false ∧ JApart w1.heap.size B fs3 rv ev us) := Lib.hid (by
            have hap : ∀ k, JOwn w1.heap.size rv ev us k → ¬ DK B fs k := fun k h h' => by
              have := (HJR.out.own_low h).1
              have := (HI.out.low h').2
              omega
            refine ⟨hi3, (hk.mono (T := DK B fs) (fun _ _ h => h.elim)).trans hk3 (fun _ _ h => h), fun k h => (hd3 k h).imp_right (fun h => by omega), HJR.out.kept hk3 hap, fun k h h' => ?_⟩
            rcases hd3 k h' with h2 | h2
            · exact hap k h h2
            · have := (HJR.out.own_low h).2; omega)
          clear htn hi3 hk3 hd3 htr
          go_wp2
          go_ret2
          exact ⟨fs3, HF.out.1, HF.out.2.1, HF.out.2.2.1, w1.heap.size, rv, ev, us, rfl, HF.out.2.2.2.1, HF.out.2.2.2.2⟩
        · rw [if_neg hc']
          go_enter Try.func27, Try.ntmps27
          go_wp2_with fail
          refine (read_any f HI.out).mono ?_
          rw [← HR.out]
          rintro e w1 ⟨A1, cap1, rfl, hown1, hk1⟩
          have HO1 := Lib.hid hown1
          clear hown1
          go_wp2_with fail
          refine (load_any w1.heap.size B f _ l _ (Blk.new w1 90 #[.pointer (some ⟨B, 0, none⟩), .int .i64 f, .slice none 0 0, .slice none 0 0, .bool false]) (Rd.kept0 (OwnB.bs HO1.out) ((Kept.refl Kno w1).alloc _)) hl).mono ?_
          rintro e w2 ⟨he2, hk2, rv, ev, us, hb2, hr2, her2⟩
          obtain ⟨hjr, hk⟩ := load_jr hk1 hl hk2 hb2 hr2 her2
          rw [HE.out] at he2
          subst he2
          have HI2 := Lib.hid (HI.out.kept0 hk)
          have HJR := Lib.hid hjr
          clear hk2 hb2 hr2 her2 hjr
          go_wp2_with fail
          have htr := trunc_any f (N : Nat) HI2.out
          rw [← HP.out] at htr
          refine htr.mono ?_
          rintro e w3 ⟨rfl, htn⟩
          obtain ⟨fs3, hi3, hk3, hd3⟩ := htn.is
          have hlo := hk.size
          have HF : Hid (Is w3 base B fs3 a' ∧ Kept (DK B fs) w w3 ∧ (∀ k, DK B fs3 k → DK B fs k ∨ w.heap.size ≤ k) ∧ Jr w3 w.heap.size w1.heap.size B f rv ev us (scan l).1 false ∧ JApart w1.heap.size B fs3 rv ev us) := Lib.hid (by
            have hap : ∀ k, JOwn w1.heap.size rv ev us k → ¬ DK B fs k := fun k h h' => by
              have := (HJR.out.own_low h).1
              have := (HI.out.low h').2
              omega
            refine ⟨hi3, (hk.mono (T := DK B fs) (fun _ _ h => h.elim)).trans hk3 (fun _ _ h => h), fun k h => (hd3 k h).imp_right (fun h => by omega), HJR.out.kept hk3 hap, fun k h h' => ?_⟩
            rcases hd3 k h' with h2 | h2
            · exact hap k h h2
            · have := (HJR.out.own_low h).2; omega)
          clear htn hi3 hk3 hd3 htr
          go_wp2
          go_ret2
          exact ⟨fs3, HF.out.1, HF.out.2.1, HF.out.2.2.1, rfl⟩
  · rw [if_pos (by simpa using hc)]
    go_enter Try.func27, Try.ntmps27
    go_wp2_with fail
    refine (read_any f HI.out).mono ?_
    rw [← HR.out]
    rintro e w1 ⟨A1, cap1, rfl, hown1, hk1⟩
    clear hown1
    go_wp2
    go_ret2
    exact ⟨fs, HI.out.kept0 hk1, hk1.mono (fun _ _ h => h.elim), fun k h => .inl h, rfl⟩

end Go.Proofs.Yteoodgcpkgfomaa
