/-
  Contracts and plain laws that the claim's theorem rests on, some texts in one file.
-/
import Derived.Test.YtffdaohmalmkfaaGreatM15
import Derived.Laws.EntriesVeiled
/-
  Packet: fields: the closures that write and read a message's fields. (Printed by gen_pakg.py.)
-/
namespace Go.Proofs.YtffdaohmalmkfaaGreat
open Go.RowKit
set_option linter.unusedVariables false

/-- A field: its two functions, and the function that finds it (with the type of the variable that holds that). -/
structure Fd where
  wf : Nat
  rf : Nat
  of_ : Option (Nat × Nat)
def fnV (k : Nat) : Value := .func (.func k) #[] #[]
def fnX (k X : Nat) : Value := .func (.func k) #[] #[.pointer (some ⟨X, 0, none⟩)]
/-- The two closures of a field. -/
def FdIn (w : World) (base : Nat) (f : Fd) (p : Value × Value) : Prop :=
  match f.of_ with
  | none => p = (fnV f.wf, fnV f.rf)
  | some (k, t) => ∃ X, base ≤ X ∧ p = (fnX f.wf X, fnX f.rf X) ∧ Blk w X t #[fnV k]
theorem FdIn.kept0 {w w' : World} {base : Nat} {f : Fd} {p : Value × Value} (h : FdIn w base f p) (hk : Kept Kno w w') : FdIn w' base f p := by
  obtain ⟨wf, rf, o⟩ := f
  cases o with
  | none => exact h
  | some o => obtain ⟨X, h1, h2, h3⟩ := h; exact ⟨X, h1, h2, h3.kept hk (fun h => h)⟩
theorem FdIn.rebase {w : World} {base base' : Nat} {f : Fd} {p : Value × Value} (h : FdIn w base f p) (hb : base' ≤ base) : FdIn w base' f p := by
  obtain ⟨wf, rf, o⟩ := f
  cases o with
  | none => exact h
  | some o => obtain ⟨X, h1, h2, h3⟩ := h; exact ⟨X, by omega, h2, h3⟩
theorem FdIn.grown {w w' : World} {base : Nat} {f : Fd} {p : Value × Value} {row : Option Nat} (h : FdIn w base f p) (hg : w.grownBy w' row) (hr : ∀ X t cs, Blk w X t cs → t ≠ 111 → some X ≠ row) (hn : ∀ k t, f.of_ = some (k, t) → t ≠ 111) : FdIn w' base f p := by
  obtain ⟨wf, rf, o⟩ := f
  cases o with
  | none => exact h
  | some o => obtain ⟨X, h1, h2, h3⟩ := h; exact ⟨X, h1, h2, h3.grown hg (hr _ _ _ h3 (hn o.1 o.2 rfl))⟩
def fpair (p : Value × Value) : List Value := [p.1, p.2]
def fpairs (ps : List (Value × Value)) : List Value := ps.flatMap fpair
/-- The slice value s is a row of its own of these fields. -/
def FieldsIn (w : World) (base : Nat) (s : Value) (fs : List Fd) : Prop :=
  ∃ ps : List (Value × Value), ps.length = fs.length ∧ w.ownsRow base 111 2 s fs.length (fpairs ps) ∧ ∀ (i : Nat) (f : Fd) (p : Value × Value), fs[i]? = some f → ps[i]? = some p → FdIn w base f p
theorem FieldsIn.kept0 {w w' : World} {base : Nat} {s : Value} {fs : List Fd} (h : FieldsIn w base s fs) (hk : Kept Kno w w') : FieldsIn w' base s fs := by
  obtain ⟨ps, h1, h2, h3⟩ := h
  exact ⟨ps, h1, own_kept h2 hk (fun _ _ h => h), fun i f p a b => (h3 i f p a b).kept0 hk⟩
def fdNum (k : Nat) : Fd := ⟨149, 150, some (k, 186)⟩
def fdArgs (k : Nat) : Fd := ⟨244, 245, some (k, 259)⟩
def fdSubs (k : Nat) : Fd := ⟨151, 152, some (k, 189)⟩
def fdOwn (a b : Nat) : Fd := ⟨a, b, none⟩

/-- A field as a value. -/
def FdRet (f : Fd) (w : World) (e : Ending) (w' : World) : Prop := ∃ X, e = .returned (.agg #[fnX f.wf X, fnX f.rf X]) ∧ X = w.heap.size ∧ Kept Kno w w' ∧ ∃ k t, f.of_ = some (k, t) ∧ Blk w' X t #[fnV k]

set_option maxRecDepth 100000 in
set_option maxHeartbeats 1000000 in
theorem fdNum_any (k : Nat) (w : World) : Calls Tryz.prog 84 #[fnV k] w (FdRet (fdNum k) w) := by
  unfold fnV
  go_enter Tryz.func84, Tryz.ntmps84
  go_wp2
  refine bodyPost_ret (v := .agg #[fnX 149 w.heap.size, fnX 150 w.heap.size]) ?_ rfl ?_
  · exact results_cell_row rfl _ _ (w.heap.size + 1) 111 _ (0, 0) _ rfl (by have := Blk.new (w.alloc (.cells #[.func (.func k) #[] #[]] 186)) 111 #[.func (.func 149) #[] #[.pointer (some ⟨w.heap.size, 0, none⟩)], .func (.func 150) #[] #[.pointer (some ⟨w.heap.size, 0, none⟩)]]; rw [size_alloc'] at this; exact this) Tryz.underlying111 rfl (by kernel_rfl)
  · exact ⟨_, rfl, rfl, ((Kept.refl _ _).alloc _).alloc _, k, _, rfl, (Blk.new w _ _).alloc _⟩

set_option maxRecDepth 100000 in
set_option maxHeartbeats 1000000 in
theorem fdArgs_any (k : Nat) (w : World) : Calls Tryz.prog 169 #[fnV k] w (FdRet (fdArgs k) w) := by
  unfold fnV
  go_enter Tryz.func169, Tryz.ntmps169
  go_wp2
  refine bodyPost_ret (v := .agg #[fnX 244 w.heap.size, fnX 245 w.heap.size]) ?_ rfl ?_
  · exact results_cell_row rfl _ _ (w.heap.size + 1) 111 _ (0, 0) _ rfl (by have := Blk.new (w.alloc (.cells #[.func (.func k) #[] #[]] 259)) 111 #[.func (.func 244) #[] #[.pointer (some ⟨w.heap.size, 0, none⟩)], .func (.func 245) #[] #[.pointer (some ⟨w.heap.size, 0, none⟩)]]; rw [size_alloc'] at this; exact this) Tryz.underlying111 rfl (by kernel_rfl)
  · exact ⟨_, rfl, rfl, ((Kept.refl _ _).alloc _).alloc _, k, _, rfl, (Blk.new w _ _).alloc _⟩

set_option maxRecDepth 100000 in
set_option maxHeartbeats 1000000 in
theorem fdSubs_any (k : Nat) (w : World) : Calls Tryz.prog 89 #[fnV k] w (FdRet (fdSubs k) w) := by
  unfold fnV
  go_enter Tryz.func89, Tryz.ntmps89
  go_wp2
  refine bodyPost_ret (v := .agg #[fnX 151 w.heap.size, fnX 152 w.heap.size]) ?_ rfl ?_
  · exact results_cell_row rfl _ _ (w.heap.size + 1) 111 _ (0, 0) _ rfl (by have := Blk.new (w.alloc (.cells #[.func (.func k) #[] #[]] 189)) 111 #[.func (.func 151) #[] #[.pointer (some ⟨w.heap.size, 0, none⟩)], .func (.func 152) #[] #[.pointer (some ⟨w.heap.size, 0, none⟩)]]; rw [size_alloc'] at this; exact this) Tryz.underlying111 rfl (by kernel_rfl)
  · exact ⟨_, rfl, rfl, ((Kept.refl _ _).alloc _).alloc _, k, _, rfl, (Blk.new w _ _).alloc _⟩

theorem FdRet.in_ {f : Fd} {w w' : World} {e : Ending} {base : Nat} (h : FdRet f w e w') (hb : base ≤ w.heap.size) : ∃ X, e = .returned (.agg #[fnX f.wf X, fnX f.rf X]) ∧ FdIn w' base f (fnX f.wf X, fnX f.rf X) ∧ Kept Kno w w' := by
  obtain ⟨X, h1, h2, h3, k, t, h4, h5⟩ := h
  refine ⟨X, h1, ?_, h3⟩
  obtain ⟨wf, rf, o⟩ := f
  simp only at h4
  subst h4
  exact ⟨X, by omega, rfl, h5⟩
theorem fd_one {w : World} {base : Nat} {f : Fd} {p : Value × Value} (h : FdIn w base f p) : ∀ u ∈ fpair p, u.oneCell' = true := by
  obtain ⟨wf, rf, o⟩ := f
  intro u hu
  cases o with
  | none => simp only [FdIn] at h; subst h; simp [fpair] at hu; rcases hu with rfl | rfl <;> rfl
  | some o => obtain ⟨X, h1, h2, h3⟩ := h; subst h2; simp [fpair] at hu; rcases hu with rfl | rfl <;> rfl
theorem info_field : (Tryz.prog.info? 111).map (fun i => (i.zero, i.size, i.bytes)) = some (some (.agg #[.nilFunc, .nilFunc]), 2, 16) := by kernel_rfl

/-- A list of fields comes back. -/
def FsRet (fs : List Fd) (w : World) (e : Ending) (w' : World) : Prop := ∃ s, e = .returned s ∧ FieldsIn w' w.heap.size s fs ∧ Kept Kno w w'

def verdFs : List Fd := [fdNum 179, fdNum 180, fdArgs 181, fdNum 182, fdNum 183, fdOwn 184 186]
set_option maxRecDepth 100000 in
set_option maxHeartbeats 2000000 in
theorem verdictFields_any (w : World) : Calls Tryz.prog 95 #[] w (FsRet verdFs w) := by
  go_enter Tryz.func95, Tryz.ntmps95
  go_wp2_with fail
  refine (fdNum_any _ _).mono ?_
  rintro e w1 hr
  obtain ⟨X1, rfl, hf, hq⟩ := hr.in_ (base := w.heap.size) (by have := Nat.le_refl w.heap.size; omega)
  have hk1 : Kept Kno w w1 := hq
  have G1_1 := Lib.hid hf
  clear hf hr hq
  go_wp2_with fail
  refine (fdNum_any _ _).mono ?_
  rintro e w2 hr
  obtain ⟨X2, rfl, hf, hq⟩ := hr.in_ (base := w.heap.size) (by have := hk1.size; omega)
  have hk2 : Kept Kno w w2 := hk1.then0 hq
  have G1_2 := Lib.hid (G1_1.out.kept0 hq)
  have G2_2 := Lib.hid hf
  clear hf hr hq hk1 G1_1
  go_wp2_with fail
  refine (fdArgs_any _ _).mono ?_
  rintro e w3 hr
  obtain ⟨X3, rfl, hf, hq⟩ := hr.in_ (base := w.heap.size) (by have := hk2.size; omega)
  have hk3 : Kept Kno w w3 := hk2.then0 hq
  have G1_3 := Lib.hid (G1_2.out.kept0 hq)
  have G2_3 := Lib.hid (G2_2.out.kept0 hq)
  have G3_3 := Lib.hid hf
  clear hf hr hq hk2 G1_2 G2_2
  go_wp2_with fail
  refine (fdNum_any _ _).mono ?_
  rintro e w4 hr
  obtain ⟨X4, rfl, hf, hq⟩ := hr.in_ (base := w.heap.size) (by have := hk3.size; omega)
  have hk4 : Kept Kno w w4 := hk3.then0 hq
  have G1_4 := Lib.hid (G1_3.out.kept0 hq)
  have G2_4 := Lib.hid (G2_3.out.kept0 hq)
  have G3_4 := Lib.hid (G3_3.out.kept0 hq)
  have G4_4 := Lib.hid hf
  clear hf hr hq hk3 G1_3 G2_3 G3_3
  go_wp2_with fail
  refine (fdNum_any _ _).mono ?_
  rintro e w5 hr
  obtain ⟨X5, rfl, hf, hq⟩ := hr.in_ (base := w.heap.size) (by have := hk4.size; omega)
  have hk5 : Kept Kno w w5 := hk4.then0 hq
  have G1_5 := Lib.hid (G1_4.out.kept0 hq)
  have G2_5 := Lib.hid (G2_4.out.kept0 hq)
  have G3_5 := Lib.hid (G3_4.out.kept0 hq)
  have G4_5 := Lib.hid (G4_4.out.kept0 hq)
  have G5_5 := Lib.hid hf
  clear hf hr hq hk4 G1_4 G2_4 G3_4 G4_4
  go_wp2
  go_ret
  refine ⟨_, rfl, ⟨[(fnX (fdNum 179).wf X1, fnX (fdNum 179).rf X1), (fnX (fdNum 180).wf X2, fnX (fdNum 180).rf X2), (fnX (fdArgs 181).wf X3, fnX (fdArgs 181).rf X3), (fnX (fdNum 182).wf X4, fnX (fdNum 182).rf X4), (fnX (fdNum 183).wf X5, fnX (fdNum 183).rf X5), (fnV (fdOwn 184 186).wf, fnV (fdOwn 184 186).rf)], rfl, World.ownsRow_lit w5 #[fnX (fdNum 179).wf X1, fnX (fdNum 179).rf X1, fnX (fdNum 180).wf X2, fnX (fdNum 180).rf X2, fnX (fdArgs 181).wf X3, fnX (fdArgs 181).rf X3, fnX (fdNum 182).wf X4, fnX (fdNum 182).rf X4, fnX (fdNum 183).wf X5, fnX (fdNum 183).rf X5, fnV (fdOwn 184 186).wf, fnV (fdOwn 184 186).rf] 6 hk5.size (by decide) rfl, ?_⟩, hk5.alloc _⟩
  intro i f p hf hp
  match i, hf, hp with
  | 0, hf, hp => simp only [verdFs, List.getElem?_cons_succ, List.getElem?_cons_zero, Option.some.injEq] at hf hp; subst hf hp; exact G1_5.out.kept0 ((Kept.refl _ _).alloc _)
  | 1, hf, hp => simp only [verdFs, List.getElem?_cons_succ, List.getElem?_cons_zero, Option.some.injEq] at hf hp; subst hf hp; exact G2_5.out.kept0 ((Kept.refl _ _).alloc _)
  | 2, hf, hp => simp only [verdFs, List.getElem?_cons_succ, List.getElem?_cons_zero, Option.some.injEq] at hf hp; subst hf hp; exact G3_5.out.kept0 ((Kept.refl _ _).alloc _)
  | 3, hf, hp => simp only [verdFs, List.getElem?_cons_succ, List.getElem?_cons_zero, Option.some.injEq] at hf hp; subst hf hp; exact G4_5.out.kept0 ((Kept.refl _ _).alloc _)
  | 4, hf, hp => simp only [verdFs, List.getElem?_cons_succ, List.getElem?_cons_zero, Option.some.injEq] at hf hp; subst hf hp; exact G5_5.out.kept0 ((Kept.refl _ _).alloc _)
  | 5, hf, hp => simp only [verdFs, List.getElem?_cons_succ, List.getElem?_cons_zero, Option.some.injEq] at hf hp; subst hf hp; rfl
  | j + 6, hf, hp => simp [verdFs] at hf

def deltaFs : List Fd := [fdNum 154, fdNum 155, fdOwn 156 158, fdNum 160, fdNum 161, fdNum 162, fdOwn 163 165]
set_option maxRecDepth 100000 in
set_option maxHeartbeats 2000000 in
theorem deltaFields_any (w : World) : Calls Tryz.prog 93 #[] w (FsRet deltaFs w) := by
  go_enter Tryz.func93, Tryz.ntmps93
  go_wp2_with fail
  refine (fdNum_any _ _).mono ?_
  rintro e w1 hr
  obtain ⟨X1, rfl, hf, hq⟩ := hr.in_ (base := w.heap.size) (by have := Nat.le_refl w.heap.size; omega)
  have hk1 : Kept Kno w w1 := hq
  have G1_1 := Lib.hid hf
  clear hf hr hq
  go_wp2_with fail
  refine (fdNum_any _ _).mono ?_
  rintro e w2 hr
  obtain ⟨X2, rfl, hf, hq⟩ := hr.in_ (base := w.heap.size) (by have := hk1.size; omega)
  have hk2 : Kept Kno w w2 := hk1.then0 hq
  have G1_2 := Lib.hid (G1_1.out.kept0 hq)
  have G2_2 := Lib.hid hf
  clear hf hr hq hk1 G1_1
  go_wp2_with fail
  refine (fdNum_any _ _).mono ?_
  rintro e w3 hr
  obtain ⟨X3, rfl, hf, hq⟩ := hr.in_ (base := w.heap.size) (by have := hk2.size; omega)
  have hk3 : Kept Kno w w3 := hk2.then0 hq
  have G1_3 := Lib.hid (G1_2.out.kept0 hq)
  have G2_3 := Lib.hid (G2_2.out.kept0 hq)
  have G3_3 := Lib.hid hf
  clear hf hr hq hk2 G1_2 G2_2
  go_wp2_with fail
  refine (fdNum_any _ _).mono ?_
  rintro e w4 hr
  obtain ⟨X4, rfl, hf, hq⟩ := hr.in_ (base := w.heap.size) (by have := hk3.size; omega)
  have hk4 : Kept Kno w w4 := hk3.then0 hq
  have G1_4 := Lib.hid (G1_3.out.kept0 hq)
  have G2_4 := Lib.hid (G2_3.out.kept0 hq)
  have G3_4 := Lib.hid (G3_3.out.kept0 hq)
  have G4_4 := Lib.hid hf
  clear hf hr hq hk3 G1_3 G2_3 G3_3
  go_wp2_with fail
  refine (fdNum_any _ _).mono ?_
  rintro e w5 hr
  obtain ⟨X5, rfl, hf, hq⟩ := hr.in_ (base := w.heap.size) (by have := hk4.size; omega)
  have hk5 : Kept Kno w w5 := hk4.then0 hq
  have G1_5 := Lib.hid (G1_4.out.kept0 hq)
  have G2_5 := Lib.hid (G2_4.out.kept0 hq)
  have G3_5 := Lib.hid (G3_4.out.kept0 hq)
  have G4_5 := Lib.hid (G4_4.out.kept0 hq)
  have G5_5 := Lib.hid hf
  clear hf hr hq hk4 G1_4 G2_4 G3_4 G4_4
  go_wp2
  go_ret
  refine ⟨_, rfl, ⟨[(fnX (fdNum 154).wf X1, fnX (fdNum 154).rf X1), (fnX (fdNum 155).wf X2, fnX (fdNum 155).rf X2), (fnV (fdOwn 156 158).wf, fnV (fdOwn 156 158).rf), (fnX (fdNum 160).wf X3, fnX (fdNum 160).rf X3), (fnX (fdNum 161).wf X4, fnX (fdNum 161).rf X4), (fnX (fdNum 162).wf X5, fnX (fdNum 162).rf X5), (fnV (fdOwn 163 165).wf, fnV (fdOwn 163 165).rf)], rfl, World.ownsRow_lit w5 #[fnX (fdNum 154).wf X1, fnX (fdNum 154).rf X1, fnX (fdNum 155).wf X2, fnX (fdNum 155).rf X2, fnV (fdOwn 156 158).wf, fnV (fdOwn 156 158).rf, fnX (fdNum 160).wf X3, fnX (fdNum 160).rf X3, fnX (fdNum 161).wf X4, fnX (fdNum 161).rf X4, fnX (fdNum 162).wf X5, fnX (fdNum 162).rf X5, fnV (fdOwn 163 165).wf, fnV (fdOwn 163 165).rf] 7 hk5.size (by decide) rfl, ?_⟩, hk5.alloc _⟩
  intro i f p hf hp
  match i, hf, hp with
  | 0, hf, hp => simp only [deltaFs, List.getElem?_cons_succ, List.getElem?_cons_zero, Option.some.injEq] at hf hp; subst hf hp; exact G1_5.out.kept0 ((Kept.refl _ _).alloc _)
  | 1, hf, hp => simp only [deltaFs, List.getElem?_cons_succ, List.getElem?_cons_zero, Option.some.injEq] at hf hp; subst hf hp; exact G2_5.out.kept0 ((Kept.refl _ _).alloc _)
  | 2, hf, hp => simp only [deltaFs, List.getElem?_cons_succ, List.getElem?_cons_zero, Option.some.injEq] at hf hp; subst hf hp; rfl
  | 3, hf, hp => simp only [deltaFs, List.getElem?_cons_succ, List.getElem?_cons_zero, Option.some.injEq] at hf hp; subst hf hp; exact G3_5.out.kept0 ((Kept.refl _ _).alloc _)
  | 4, hf, hp => simp only [deltaFs, List.getElem?_cons_succ, List.getElem?_cons_zero, Option.some.injEq] at hf hp; subst hf hp; exact G4_5.out.kept0 ((Kept.refl _ _).alloc _)
  | 5, hf, hp => simp only [deltaFs, List.getElem?_cons_succ, List.getElem?_cons_zero, Option.some.injEq] at hf hp; subst hf hp; exact G5_5.out.kept0 ((Kept.refl _ _).alloc _)
  | 6, hf, hp => simp only [deltaFs, List.getElem?_cons_succ, List.getElem?_cons_zero, Option.some.injEq] at hf hp; subst hf hp; rfl
  | j + 7, hf, hp => simp [deltaFs] at hf

def submFs : List Fd := [fdNum 167, fdNum 168, fdArgs 170, fdOwn 171 173, fdOwn 175 177]
set_option maxRecDepth 100000 in
set_option maxHeartbeats 2000000 in
theorem submitFields_any (w : World) : Calls Tryz.prog 94 #[] w (FsRet submFs w) := by
  go_enter Tryz.func94, Tryz.ntmps94
  go_wp2_with fail
  refine (fdNum_any _ _).mono ?_
  rintro e w1 hr
  obtain ⟨X1, rfl, hf, hq⟩ := hr.in_ (base := w.heap.size) (by have := Nat.le_refl w.heap.size; omega)
  have hk1 : Kept Kno w w1 := hq
  have G1_1 := Lib.hid hf
  clear hf hr hq
  go_wp2_with fail
  refine (fdNum_any _ _).mono ?_
  rintro e w2 hr
  obtain ⟨X2, rfl, hf, hq⟩ := hr.in_ (base := w.heap.size) (by have := hk1.size; omega)
  have hk2 : Kept Kno w w2 := hk1.then0 hq
  have G1_2 := Lib.hid (G1_1.out.kept0 hq)
  have G2_2 := Lib.hid hf
  clear hf hr hq hk1 G1_1
  go_wp2_with fail
  refine (fdArgs_any _ _).mono ?_
  rintro e w3 hr
  obtain ⟨X3, rfl, hf, hq⟩ := hr.in_ (base := w.heap.size) (by have := hk2.size; omega)
  have hk3 : Kept Kno w w3 := hk2.then0 hq
  have G1_3 := Lib.hid (G1_2.out.kept0 hq)
  have G2_3 := Lib.hid (G2_2.out.kept0 hq)
  have G3_3 := Lib.hid hf
  clear hf hr hq hk2 G1_2 G2_2
  go_wp2
  go_ret
  refine ⟨_, rfl, ⟨[(fnX (fdNum 167).wf X1, fnX (fdNum 167).rf X1), (fnX (fdNum 168).wf X2, fnX (fdNum 168).rf X2), (fnX (fdArgs 170).wf X3, fnX (fdArgs 170).rf X3), (fnV (fdOwn 171 173).wf, fnV (fdOwn 171 173).rf), (fnV (fdOwn 175 177).wf, fnV (fdOwn 175 177).rf)], rfl, World.ownsRow_lit w3 #[fnX (fdNum 167).wf X1, fnX (fdNum 167).rf X1, fnX (fdNum 168).wf X2, fnX (fdNum 168).rf X2, fnX (fdArgs 170).wf X3, fnX (fdArgs 170).rf X3, fnV (fdOwn 171 173).wf, fnV (fdOwn 171 173).rf, fnV (fdOwn 175 177).wf, fnV (fdOwn 175 177).rf] 5 hk3.size (by decide) rfl, ?_⟩, hk3.alloc _⟩
  intro i f p hf hp
  match i, hf, hp with
  | 0, hf, hp => simp only [submFs, List.getElem?_cons_succ, List.getElem?_cons_zero, Option.some.injEq] at hf hp; subst hf hp; exact G1_3.out.kept0 ((Kept.refl _ _).alloc _)
  | 1, hf, hp => simp only [submFs, List.getElem?_cons_succ, List.getElem?_cons_zero, Option.some.injEq] at hf hp; subst hf hp; exact G2_3.out.kept0 ((Kept.refl _ _).alloc _)
  | 2, hf, hp => simp only [submFs, List.getElem?_cons_succ, List.getElem?_cons_zero, Option.some.injEq] at hf hp; subst hf hp; exact G3_3.out.kept0 ((Kept.refl _ _).alloc _)
  | 3, hf, hp => simp only [submFs, List.getElem?_cons_succ, List.getElem?_cons_zero, Option.some.injEq] at hf hp; subst hf hp; rfl
  | 4, hf, hp => simp only [submFs, List.getElem?_cons_succ, List.getElem?_cons_zero, Option.some.injEq] at hf hp; subst hf hp; rfl
  | j + 5, hf, hp => simp [submFs] at hf

end Go.Proofs.YtffdaohmalmkfaaGreat
