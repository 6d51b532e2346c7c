/-
  Contracts and plain laws that the claim's theorem rests on, some texts in one file.
-/
import Derived.Test.YteoodgcpkgfomaaM6
/-
  Journal: the two appends of a round of load, in every order of evaluation (printed by gen_grow.py).
-/
namespace Go.Proofs.Yteoodgcpkgfomaa
open Go.RowKit
attribute [local go_sem] Oper.semAt_some
set_option linter.unusedVariables false

/-- The sets of operations that may have run. -/
def stages : List (List Bool) :=
  (List.range 2).flatMap fun a => (List.range 5).flatMap fun b => (List.range 3).map fun c => [a == 1, 1 ≤ b, 2 ≤ b, 3 ≤ b, 4 ≤ b, 1 ≤ c, 2 ≤ c, false, false, false, false].map (fun (x : Bool) => x)
def stagesAll : List (List Bool) := stages ++ [[false, true, true, true, true, true, true, true, false, false, false], [true, true, true, true, true, true, true, true, false, false, false], [true, true, true, true, true, true, true, true, true, false, false], [true, true, true, true, true, true, true, true, true, true, false], List.replicate 11 true]

def dep11 (i : Nat) (l : List Bool) : Bool := match i with
  | 0 => !(l.getD 10 false)
  | 1 => !(l.getD 7 false)
  | 2 => l.getD 1 false
  | 3 => l.getD 2 false
  | 4 => l.getD 3 false && !(l.getD 7 false)
  | 5 => true
  | 6 => l.getD 5 false && !(l.getD 6 false) && !(l.getD 7 false)
  | 7 => l.getD 4 false && l.getD 6 false && !(l.getD 7 false) && !(l.getD 10 false)
  | 8 => l.getD 0 false
  | 9 => l.getD 8 false
  | 10 => l.getD 7 false && l.getD 9 false && !(l.getD 10 false)
  | _ => false

theorem list11 (l : List Bool) (h : l.length = 11) : ∃ b0 b1 b2 b3 b4 b5 b6 b7 b8 b9 b10, l = [b0, b1, b2, b3, b4, b5, b6, b7, b8, b9, b10] := by
  rcases l with _ | ⟨b0, _ | ⟨b1, _ | ⟨b2, _ | ⟨b3, _ | ⟨b4, _ | ⟨b5, _ | ⟨b6, _ | ⟨b7, _ | ⟨b8, _ | ⟨b9, _ | ⟨b10, _ | ⟨b11, l⟩⟩⟩⟩⟩⟩⟩⟩⟩⟩⟩⟩
  all_goals first | exact ⟨_, _, _, _, _, _, _, _, _, _, _, rfl⟩ | (simp only [List.length_cons, List.length_nil] at h; omega)

def Stage11 (I I3 : World → Prop) (I2 : Value → World → Prop) (X v' x : Value) (b6 b7 b10 : Bool) (w : World) : Prop :=
  if b7 then (if b10 then I3 w else I2 v' w) else if b6 then I w ∧ Rd w 1 X 1 [x] else I w
theorem stage_I {I I3 : World → Prop} {I2 : Value → World → Prop} {X v' x : Value} {b6 b10 : Bool} {w : World} (h : Stage11 I I3 I2 X v' x b6 false b10 w) : I w := by
  unfold Stage11 at h
  cases b6 <;> simp at h
  · exact h
  · exact h.1
theorem stage_one {I I3 : World → Prop} {I2 : Value → World → Prop} {X v' x : Value} {b10 : Bool} {w : World} (h : Stage11 I I3 I2 X v' x true false b10 w) : I w ∧ Rd w 1 X 1 [x] := by simpa [Stage11] using h
theorem stage_two {I I3 : World → Prop} {I2 : Value → World → Prop} {X v' x : Value} {b6 : Bool} {w : World} (h : Stage11 I I3 I2 X v' x b6 true false w) : I2 v' w := by simpa [Stage11] using h

theorem info_recs : (Try.prog.info? 30).map (fun i => (i.zero, i.size, i.bytes)) = some (some (.slice none 0 0), 1, 24) := by kernel_rfl

def Inv_recs (I I3 : World → Prop) (I2 : Value → World → Prop) (N J : Nat) (rv x y : Value) (L : List Bool) (a : Act) (w : World) : Prop :=
  L.length = 11 ∧ a.tmps.size = 35 ∧ a.eval (.tmp 2) = .pointer (some ⟨N, 0, none⟩) ∧ a.eval (.tmp 6) = x ∧ a.eval (.tmp 7) = y ∧ a.defers = [] ∧ ∃ X v' : Value,
    (L.getD 0 false = true → a.eval (.tmp 13) = .pointer (some ⟨J, 0, none⟩)) ∧ (L.getD 1 false = true → a.eval (.tmp 14) = .pointer (some ⟨J, 0, none⟩)) ∧ (L.getD 2 false = true → a.eval (.tmp 15) = .pointer (some ⟨J, 0, none⟩)) ∧ (L.getD 3 false = true → a.eval (.tmp 16) = .pointer (some ⟨J, 2, none⟩)) ∧ (L.getD 4 false = true → a.eval (.tmp 17) = rv) ∧
    (L.getD 5 false = true → a.eval (.tmp 18) = x) ∧ (L.getD 6 false = true → a.eval (.tmp 19) = X) ∧ (L.getD 7 false = true → a.eval (.tmp 20) = v') ∧ (L.getD 8 false = true → a.eval (.tmp 21) = .pointer (some ⟨J, 0, none⟩)) ∧ (L.getD 9 false = true → a.eval (.tmp 22) = .pointer (some ⟨J, 2, none⟩)) ∧ Stage11 I I3 I2 X v' x (L.getD 6 false) (L.getD 7 false) (L.getD 10 false) w

section
variable {ops : Array Oper} {Q : Exit → Act → World → Prop} {I I3 : World → Prop} {I2 : Value → World → Prop} {N J base m : Nat} {rv y : Value} {xs : List Value} {A1 : Option Addr} {n1 c1 : Nat}

set_option maxRecDepth 100000 in
set_option maxHeartbeats 2000000 in
theorem step_recs (l n i : Nat)
    (h0 : ∃ o : Oper, ops[0]? = some o ∧ o.guard = none ∧ o.dst = some 13 ∧ o.op = .load 50 (.tmp 2)) (h1 : ∃ o : Oper, ops[1]? = some o ∧ o.guard = none ∧ o.dst = some 14 ∧ o.op = .load 50 (.tmp 2))
    (h2 : ∃ o : Oper, ops[2]? = some o ∧ o.guard = none ∧ o.dst = some 15 ∧ o.op = .nilCheck (.tmp 14)) (h3 : ∃ o : Oper, ops[3]? = some o ∧ o.guard = none ∧ o.dst = some 16 ∧ o.op = .fieldAddr 90 (.tmp 15) 2)
    (h4 : ∃ o : Oper, ops[4]? = some o ∧ o.guard = none ∧ o.dst = some 17 ∧ o.op = .load 45 (.tmp 16)) (h5 : ∃ o : Oper, ops[5]? = some o ∧ o.guard = none ∧ o.dst = some 18 ∧ o.op = .move (.tmp 6))
    (h6 : ∃ o : Oper, ops[6]? = some o ∧ o.guard = none ∧ o.dst = some 19 ∧ o.op = .buildSlice 45 1 #[(0, .tmp 18)])
    (h7 : ∃ o : Oper, ops[7]? = some o ∧ o.guard = none ∧ o.dst = some 20 ∧ o.op = .call { callee := .builtin .append, args := #[.tmp 17, .tmp 19], argTypes := #[45, 45] })
    (h8 : ∃ o : Oper, ops[8]? = some o ∧ o.guard = none ∧ o.dst = some 21 ∧ o.op = .nilCheck (.tmp 13)) (h9 : ∃ o : Oper, ops[9]? = some o ∧ o.guard = none ∧ o.dst = some 22 ∧ o.op = .fieldAddr 90 (.tmp 21) 2)
    (h10 : ∃ o : Oper, ops[10]? = some o ∧ o.guard = none ∧ o.dst = none ∧ o.op = .store 45 (.tmp 22) (.tmp 20))
    (hI : ∀ W, I W → W.cell? ⟨N, 0, none⟩ = some (.pointer (some ⟨J, 0, none⟩)) ∧ W.cell? ⟨J, 2, none⟩ = some rv ∧ W.ownsRow base 30 1 rv m xs ∧ base ≤ W.heap.size ∧ m ≤ 1000000)
    (hIk : ∀ W W', I W → Kept Kno W W' → I W')
    (happ : ∀ W W' v', I W → W.grownBy W' rv.ownBlock → W'.ownsRow base 30 1 v' (m + 1) (xs ++ [.slice A1 n1 c1]) → (v'.ownBlock = rv.ownBlock ∨ v'.ownBlock = some W.heap.size) → I2 v' W')
    (hI2 : ∀ v' W, I2 v' W → W.cell? ⟨N, 0, none⟩ = some (.pointer (some ⟨J, 0, none⟩)) ∧ W.cell? ⟨J, 2, none⟩ = some rv ∧ W.frozen? ⟨J, 2, none⟩ = false ∧ ∃ A k c, v' = .slice A k c)
    (hst : ∀ v' W, I2 v' W → I3 (W.setCell ⟨J, 2, none⟩ v'))
    (hrv : ∃ A c, rv = .slice A m c) (L : List Bool) (a : Act) (w : World) (hd : dep11 i L = true) (hi : Inv_recs I I3 I2 N J rv (.slice A1 n1 c1) y L a w) :
    wpOpIn (Fence.wide.inRound l) n Try.prog ops Q i (fun a' w' => Inv_recs I I3 I2 N J rv (.slice A1 n1 c1) y (L.set i true) a' w') a w := by
  obtain ⟨j0, hj, hy0, hy1, hy2⟩ := info_parts info_recs
  obtain ⟨hlen, hz, e2, es, e7, hdf, X, v', f0, f1, f2, f3, f4, f5, f6, f7, f8, f9, st⟩ := hi
  obtain ⟨b0, b1, b2, b3, b4, b5, b6, b7, b8, b9, b10, rfl⟩ := list11 L hlen
  change b0 = true → _ at f0
  change b1 = true → _ at f1
  change b2 = true → _ at f2
  change b3 = true → _ at f3
  change b4 = true → _ at f4
  change b5 = true → _ at f5
  change b6 = true → _ at f6
  change b7 = true → _ at f7
  change b8 = true → _ at f8
  change b9 = true → _ at f9
  change Stage11 I I3 I2 X v' _ b6 b7 b10 w at st
  rcases i with _ | _ | _ | _ | _ | _ | _ | _ | _ | _ | _ | i
  · -- 0
    change (!b10) = true at hd
    have hb : b10 = false := by simpa using hd
    subst hb
    have hc : w.cell? ⟨N, 0, none⟩ = some (.pointer (some ⟨J, 0, none⟩)) := by
      cases b7 with
      | true => exact (hI2 _ _ (stage_two st)).1
      | false => exact (hI _ (stage_I st)).1
    obtain ⟨o, ho, hg, hdst, hop⟩ := h0
    refine wpOpIn_run (w' := w) ho hg (fun c => by rw [hop]; exact fun h => by cases h) (fun _ => trivial) (.pointer (some ⟨J, 0, none⟩)) (.inl ?_) ?_
    · unfold execOp
      simp only [hop, e2]
      go_simp
    · rw [hdst]
      exact ⟨rfl, (by rw [size_put]; exact hz), (by rw [eval_put_at _ _ _ _ (by omega), if_neg (by decide)]; exact e2), (by rw [eval_put_at _ _ _ _ (by omega), if_neg (by decide)]; exact es), (by rw [eval_put_at _ _ _ _ (by omega), if_neg (by decide)]; exact e7), hdf, X, v', (fun _ => by rw [eval_put_at _ _ _ _ (by omega), if_pos rfl]), (fun hb => by rw [eval_put_at _ _ _ _ (by omega), if_neg (by decide)]; exact f1 hb), (fun hb => by rw [eval_put_at _ _ _ _ (by omega), if_neg (by decide)]; exact f2 hb), (fun hb => by rw [eval_put_at _ _ _ _ (by omega), if_neg (by decide)]; exact f3 hb), (fun hb => by rw [eval_put_at _ _ _ _ (by omega), if_neg (by decide)]; exact f4 hb), (fun hb => by rw [eval_put_at _ _ _ _ (by omega), if_neg (by decide)]; exact f5 hb), (fun hb => by rw [eval_put_at _ _ _ _ (by omega), if_neg (by decide)]; exact f6 hb), (fun hb => by rw [eval_put_at _ _ _ _ (by omega), if_neg (by decide)]; exact f7 hb), (fun hb => by rw [eval_put_at _ _ _ _ (by omega), if_neg (by decide)]; exact f8 hb), (fun hb => by rw [eval_put_at _ _ _ _ (by omega), if_neg (by decide)]; exact f9 hb), st⟩
  · -- 1
    change (!b7) = true at hd
    have hb : b7 = false := by simpa using hd
    subst hb
    have hc := (hI _ (stage_I st)).1
    obtain ⟨o, ho, hg, hdst, hop⟩ := h1
    refine wpOpIn_run (w' := w) ho hg (fun c => by rw [hop]; exact fun h => by cases h) (fun _ => trivial) (.pointer (some ⟨J, 0, none⟩)) (.inl ?_) ?_
    · unfold execOp
      simp only [hop, e2]
      go_simp
    · rw [hdst]
      exact ⟨rfl, (by rw [size_put]; exact hz), (by rw [eval_put_at _ _ _ _ (by omega), if_neg (by decide)]; exact e2), (by rw [eval_put_at _ _ _ _ (by omega), if_neg (by decide)]; exact es), (by rw [eval_put_at _ _ _ _ (by omega), if_neg (by decide)]; exact e7), hdf, X, v', (fun hb => by rw [eval_put_at _ _ _ _ (by omega), if_neg (by decide)]; exact f0 hb), (fun _ => by rw [eval_put_at _ _ _ _ (by omega), if_pos rfl]), (fun hb => by rw [eval_put_at _ _ _ _ (by omega), if_neg (by decide)]; exact f2 hb), (fun hb => by rw [eval_put_at _ _ _ _ (by omega), if_neg (by decide)]; exact f3 hb), (fun hb => by rw [eval_put_at _ _ _ _ (by omega), if_neg (by decide)]; exact f4 hb), (fun hb => by rw [eval_put_at _ _ _ _ (by omega), if_neg (by decide)]; exact f5 hb), (fun hb => by rw [eval_put_at _ _ _ _ (by omega), if_neg (by decide)]; exact f6 hb), (fun hb => by rw [eval_put_at _ _ _ _ (by omega), if_neg (by decide)]; exact f7 hb), (fun hb => by rw [eval_put_at _ _ _ _ (by omega), if_neg (by decide)]; exact f8 hb), (fun hb => by rw [eval_put_at _ _ _ _ (by omega), if_neg (by decide)]; exact f9 hb), st⟩
  · -- 2
    change b1 = true at hd
    have hb : b1 = true := by simpa using hd
    obtain ⟨o, ho, hg, hdst, hop⟩ := h2
    refine wpOpIn_run (w' := w) ho hg (fun c => by rw [hop]; exact fun h => by cases h) (fun _ => trivial) (.pointer (some ⟨J, 0, none⟩)) (.inl ?_) ?_
    · unfold execOp
      simp only [hop, f1 hb]
      go_simp
    · rw [hdst]
      exact ⟨rfl, (by rw [size_put]; exact hz), (by rw [eval_put_at _ _ _ _ (by omega), if_neg (by decide)]; exact e2), (by rw [eval_put_at _ _ _ _ (by omega), if_neg (by decide)]; exact es), (by rw [eval_put_at _ _ _ _ (by omega), if_neg (by decide)]; exact e7), hdf, X, v', (fun hb => by rw [eval_put_at _ _ _ _ (by omega), if_neg (by decide)]; exact f0 hb), (fun hb => by rw [eval_put_at _ _ _ _ (by omega), if_neg (by decide)]; exact f1 hb), (fun _ => by rw [eval_put_at _ _ _ _ (by omega), if_pos rfl]), (fun hb => by rw [eval_put_at _ _ _ _ (by omega), if_neg (by decide)]; exact f3 hb), (fun hb => by rw [eval_put_at _ _ _ _ (by omega), if_neg (by decide)]; exact f4 hb), (fun hb => by rw [eval_put_at _ _ _ _ (by omega), if_neg (by decide)]; exact f5 hb), (fun hb => by rw [eval_put_at _ _ _ _ (by omega), if_neg (by decide)]; exact f6 hb), (fun hb => by rw [eval_put_at _ _ _ _ (by omega), if_neg (by decide)]; exact f7 hb), (fun hb => by rw [eval_put_at _ _ _ _ (by omega), if_neg (by decide)]; exact f8 hb), (fun hb => by rw [eval_put_at _ _ _ _ (by omega), if_neg (by decide)]; exact f9 hb), st⟩
  · -- 3
    change b2 = true at hd
    have hb : b2 = true := by simpa using hd
    obtain ⟨o, ho, hg, hdst, hop⟩ := h3
    refine wpOpIn_run (w' := w) ho hg (fun c => by rw [hop]; exact fun h => by cases h) (fun _ => trivial) (.pointer (some ⟨J, 2, none⟩)) (.inl ?_) ?_
    · unfold execOp
      simp only [hop, f2 hb]
      go_simp
    · rw [hdst]
      exact ⟨rfl, (by rw [size_put]; exact hz), (by rw [eval_put_at _ _ _ _ (by omega), if_neg (by decide)]; exact e2), (by rw [eval_put_at _ _ _ _ (by omega), if_neg (by decide)]; exact es), (by rw [eval_put_at _ _ _ _ (by omega), if_neg (by decide)]; exact e7), hdf, X, v', (fun hb => by rw [eval_put_at _ _ _ _ (by omega), if_neg (by decide)]; exact f0 hb), (fun hb => by rw [eval_put_at _ _ _ _ (by omega), if_neg (by decide)]; exact f1 hb), (fun hb => by rw [eval_put_at _ _ _ _ (by omega), if_neg (by decide)]; exact f2 hb), (fun _ => by rw [eval_put_at _ _ _ _ (by omega), if_pos rfl]), (fun hb => by rw [eval_put_at _ _ _ _ (by omega), if_neg (by decide)]; exact f4 hb), (fun hb => by rw [eval_put_at _ _ _ _ (by omega), if_neg (by decide)]; exact f5 hb), (fun hb => by rw [eval_put_at _ _ _ _ (by omega), if_neg (by decide)]; exact f6 hb), (fun hb => by rw [eval_put_at _ _ _ _ (by omega), if_neg (by decide)]; exact f7 hb), (fun hb => by rw [eval_put_at _ _ _ _ (by omega), if_neg (by decide)]; exact f8 hb), (fun hb => by rw [eval_put_at _ _ _ _ (by omega), if_neg (by decide)]; exact f9 hb), st⟩
  · -- 4
    change (b3 && !b7) = true at hd
    have hb : b3 = true ∧ b7 = false := by simpa using hd
    obtain ⟨hb3, hb7⟩ := hb
    subst hb7
    have hc := (hI _ (stage_I st)).2.1
    obtain ⟨A, c, rfl⟩ := hrv
    obtain ⟨o, ho, hg, hdst, hop⟩ := h4
    refine wpOpIn_run (w' := w) ho hg (fun c => by rw [hop]; exact fun h => by cases h) (fun _ => trivial) (.slice A m c) (.inl ?_) ?_
    · unfold execOp
      simp only [hop, f3 hb3]
      go_simp
    · rw [hdst]
      exact ⟨rfl, (by rw [size_put]; exact hz), (by rw [eval_put_at _ _ _ _ (by omega), if_neg (by decide)]; exact e2), (by rw [eval_put_at _ _ _ _ (by omega), if_neg (by decide)]; exact es), (by rw [eval_put_at _ _ _ _ (by omega), if_neg (by decide)]; exact e7), hdf, X, v', (fun hb => by rw [eval_put_at _ _ _ _ (by omega), if_neg (by decide)]; exact f0 hb), (fun hb => by rw [eval_put_at _ _ _ _ (by omega), if_neg (by decide)]; exact f1 hb), (fun hb => by rw [eval_put_at _ _ _ _ (by omega), if_neg (by decide)]; exact f2 hb), (fun hb => by rw [eval_put_at _ _ _ _ (by omega), if_neg (by decide)]; exact f3 hb), (fun _ => by rw [eval_put_at _ _ _ _ (by omega), if_pos rfl]), (fun hb => by rw [eval_put_at _ _ _ _ (by omega), if_neg (by decide)]; exact f5 hb), (fun hb => by rw [eval_put_at _ _ _ _ (by omega), if_neg (by decide)]; exact f6 hb), (fun hb => by rw [eval_put_at _ _ _ _ (by omega), if_neg (by decide)]; exact f7 hb), (fun hb => by rw [eval_put_at _ _ _ _ (by omega), if_neg (by decide)]; exact f8 hb), (fun hb => by rw [eval_put_at _ _ _ _ (by omega), if_neg (by decide)]; exact f9 hb), st⟩
  · -- 5
    obtain ⟨o, ho, hg, hdst, hop⟩ := h5
    refine wpOpIn_run (w' := w) ho hg (fun c => by rw [hop]; exact fun h => by cases h) (fun _ => trivial) (.slice A1 n1 c1) (.inl ?_) ?_
    · unfold execOp
      simp only [hop, es]
      go_simp
    · rw [hdst]
      exact ⟨rfl, (by rw [size_put]; exact hz), (by rw [eval_put_at _ _ _ _ (by omega), if_neg (by decide)]; exact e2), (by rw [eval_put_at _ _ _ _ (by omega), if_neg (by decide)]; exact es), (by rw [eval_put_at _ _ _ _ (by omega), if_neg (by decide)]; exact e7), hdf, X, v', (fun hb => by rw [eval_put_at _ _ _ _ (by omega), if_neg (by decide)]; exact f0 hb), (fun hb => by rw [eval_put_at _ _ _ _ (by omega), if_neg (by decide)]; exact f1 hb), (fun hb => by rw [eval_put_at _ _ _ _ (by omega), if_neg (by decide)]; exact f2 hb), (fun hb => by rw [eval_put_at _ _ _ _ (by omega), if_neg (by decide)]; exact f3 hb), (fun hb => by rw [eval_put_at _ _ _ _ (by omega), if_neg (by decide)]; exact f4 hb), (fun _ => by rw [eval_put_at _ _ _ _ (by omega), if_pos rfl]), (fun hb => by rw [eval_put_at _ _ _ _ (by omega), if_neg (by decide)]; exact f6 hb), (fun hb => by rw [eval_put_at _ _ _ _ (by omega), if_neg (by decide)]; exact f7 hb), (fun hb => by rw [eval_put_at _ _ _ _ (by omega), if_neg (by decide)]; exact f8 hb), (fun hb => by rw [eval_put_at _ _ _ _ (by omega), if_neg (by decide)]; exact f9 hb), st⟩
  · -- 6
    change (b5 && !b6 && !b7) = true at hd
    have hb : (b5 = true ∧ b6 = false) ∧ b7 = false := by simpa using hd
    obtain ⟨⟨hb5, hb6⟩, hb7⟩ := hb
    subst hb6 hb7
    have hw := stage_I st
    obtain ⟨o, ho, hg, hdst, hop⟩ := h6
    refine wpOpIn_run (w' := w.alloc (.cells #[.slice A1 n1 c1] 30)) ho hg (fun c => by rw [hop]; exact fun h => by cases h) (fun _ => trivial) (.slice (some ⟨w.heap.size, 0, none⟩) 1 1) (.inl ?_) ?_
    · unfold execOp
      simp only [hop]
      have e5 := f5 hb5
      simp [e5]
      go_simp
    · rw [hdst]
      have st' : Stage11 I I3 I2 (.slice (some ⟨w.heap.size, 0, none⟩) 1 1) v' (.slice A1 n1 c1) true false b10 (w.alloc (.cells #[.slice A1 n1 c1] 30)) := by
        simp only [Stage11, Bool.false_eq_true, if_false, if_true]
        exact ⟨hIk _ _ hw ((Kept.refl _ _).alloc _), Rd.one w 30 #[.slice A1 n1 c1] rfl⟩
      exact ⟨rfl, (by rw [size_put]; exact hz), (by rw [eval_put_at _ _ _ _ (by omega), if_neg (by decide)]; exact e2), (by rw [eval_put_at _ _ _ _ (by omega), if_neg (by decide)]; exact es), (by rw [eval_put_at _ _ _ _ (by omega), if_neg (by decide)]; exact e7), hdf, _, v', (fun hb => by rw [eval_put_at _ _ _ _ (by omega), if_neg (by decide)]; exact f0 hb), (fun hb => by rw [eval_put_at _ _ _ _ (by omega), if_neg (by decide)]; exact f1 hb), (fun hb => by rw [eval_put_at _ _ _ _ (by omega), if_neg (by decide)]; exact f2 hb), (fun hb => by rw [eval_put_at _ _ _ _ (by omega), if_neg (by decide)]; exact f3 hb), (fun hb => by rw [eval_put_at _ _ _ _ (by omega), if_neg (by decide)]; exact f4 hb), (fun hb => by rw [eval_put_at _ _ _ _ (by omega), if_neg (by decide)]; exact f5 hb), (fun _ => by rw [eval_put_at _ _ _ _ (by omega), if_pos rfl]), (fun hb => by rw [eval_put_at _ _ _ _ (by omega), if_neg (by decide)]; exact f7 hb), (fun hb => by rw [eval_put_at _ _ _ _ (by omega), if_neg (by decide)]; exact f8 hb), (fun hb => by rw [eval_put_at _ _ _ _ (by omega), if_neg (by decide)]; exact f9 hb), st'⟩
  · -- 7
    change (b4 && b6 && !b7 && !b10) = true at hd
    have hb : ((b4 = true ∧ b6 = true) ∧ b7 = false) ∧ b10 = false := by simpa using hd
    obtain ⟨⟨⟨hb4, hb6⟩, hb7⟩, hb10⟩ := hb
    subst hb6 hb7 hb10
    obtain ⟨hw, hrd⟩ := stage_one st
    obtain ⟨i1, i2, i3, i4, i5⟩ := hI _ hw
    obtain ⟨o, ho, hg, hdst, hop⟩ := h7
    obtain ⟨A2, cap2, w2, hrun, hown, hgr, hat⟩ := run_append_rd (P := Try.prog) w base 45 o.type 30 j0 _ 1 24 (Try.underlying45) hj hy0 hy1 hy2 rfl (by omega) rv m xs i3 X 1 [.slice A1 n1 c1] hrd (by simp [Value.oneCell']) (by simp only [maxLen]; omega) (by omega) i4
    refine wpOpIn_run (w' := w2) ho hg (fun c => by rw [hop]; exact fun h => by cases h) (fun _ => trivial) (.slice A2 (m + 1) cap2) (.inl ?_) ?_
    · unfold execOp
      have e4 := f4 hb4
      have e6 := f6 rfl
      simp only [hop, resolve, invoke, builtin, Sem.run_bind, Sem.run_pure, Result.andThen_ok, List.map_toArray, List.map_cons, List.map_nil, e4, e6, hrun]
    · rw [hdst]
      have st' : Stage11 I I3 I2 X (.slice A2 (m + 1) cap2) (.slice A1 n1 c1) true true false w2 := by
        simp only [Stage11, Bool.false_eq_true, if_false, if_true]
        exact happ w w2 _ hw hgr hown hat
      exact ⟨rfl, (by rw [size_put]; exact hz), (by rw [eval_put_at _ _ _ _ (by omega), if_neg (by decide)]; exact e2), (by rw [eval_put_at _ _ _ _ (by omega), if_neg (by decide)]; exact es), (by rw [eval_put_at _ _ _ _ (by omega), if_neg (by decide)]; exact e7), hdf, X, _, (fun hb => by rw [eval_put_at _ _ _ _ (by omega), if_neg (by decide)]; exact f0 hb), (fun hb => by rw [eval_put_at _ _ _ _ (by omega), if_neg (by decide)]; exact f1 hb), (fun hb => by rw [eval_put_at _ _ _ _ (by omega), if_neg (by decide)]; exact f2 hb), (fun hb => by rw [eval_put_at _ _ _ _ (by omega), if_neg (by decide)]; exact f3 hb), (fun hb => by rw [eval_put_at _ _ _ _ (by omega), if_neg (by decide)]; exact f4 hb), (fun hb => by rw [eval_put_at _ _ _ _ (by omega), if_neg (by decide)]; exact f5 hb), (fun hb => by rw [eval_put_at _ _ _ _ (by omega), if_neg (by decide)]; exact f6 hb), (fun _ => by rw [eval_put_at _ _ _ _ (by omega), if_pos rfl]), (fun hb => by rw [eval_put_at _ _ _ _ (by omega), if_neg (by decide)]; exact f8 hb), (fun hb => by rw [eval_put_at _ _ _ _ (by omega), if_neg (by decide)]; exact f9 hb), st'⟩
  · -- 8
    change b0 = true at hd
    have hb : b0 = true := by simpa using hd
    obtain ⟨o, ho, hg, hdst, hop⟩ := h8
    refine wpOpIn_run (w' := w) ho hg (fun c => by rw [hop]; exact fun h => by cases h) (fun _ => trivial) (.pointer (some ⟨J, 0, none⟩)) (.inl ?_) ?_
    · unfold execOp
      simp only [hop, f0 hb]
      go_simp
    · rw [hdst]
      exact ⟨rfl, (by rw [size_put]; exact hz), (by rw [eval_put_at _ _ _ _ (by omega), if_neg (by decide)]; exact e2), (by rw [eval_put_at _ _ _ _ (by omega), if_neg (by decide)]; exact es), (by rw [eval_put_at _ _ _ _ (by omega), if_neg (by decide)]; exact e7), hdf, X, v', (fun hb => by rw [eval_put_at _ _ _ _ (by omega), if_neg (by decide)]; exact f0 hb), (fun hb => by rw [eval_put_at _ _ _ _ (by omega), if_neg (by decide)]; exact f1 hb), (fun hb => by rw [eval_put_at _ _ _ _ (by omega), if_neg (by decide)]; exact f2 hb), (fun hb => by rw [eval_put_at _ _ _ _ (by omega), if_neg (by decide)]; exact f3 hb), (fun hb => by rw [eval_put_at _ _ _ _ (by omega), if_neg (by decide)]; exact f4 hb), (fun hb => by rw [eval_put_at _ _ _ _ (by omega), if_neg (by decide)]; exact f5 hb), (fun hb => by rw [eval_put_at _ _ _ _ (by omega), if_neg (by decide)]; exact f6 hb), (fun hb => by rw [eval_put_at _ _ _ _ (by omega), if_neg (by decide)]; exact f7 hb), (fun _ => by rw [eval_put_at _ _ _ _ (by omega), if_pos rfl]), (fun hb => by rw [eval_put_at _ _ _ _ (by omega), if_neg (by decide)]; exact f9 hb), st⟩
  · -- 9
    change b8 = true at hd
    have hb : b8 = true := by simpa using hd
    obtain ⟨o, ho, hg, hdst, hop⟩ := h9
    refine wpOpIn_run (w' := w) ho hg (fun c => by rw [hop]; exact fun h => by cases h) (fun _ => trivial) (.pointer (some ⟨J, 2, none⟩)) (.inl ?_) ?_
    · unfold execOp
      simp only [hop, f8 hb]
      go_simp
    · rw [hdst]
      exact ⟨rfl, (by rw [size_put]; exact hz), (by rw [eval_put_at _ _ _ _ (by omega), if_neg (by decide)]; exact e2), (by rw [eval_put_at _ _ _ _ (by omega), if_neg (by decide)]; exact es), (by rw [eval_put_at _ _ _ _ (by omega), if_neg (by decide)]; exact e7), hdf, X, v', (fun hb => by rw [eval_put_at _ _ _ _ (by omega), if_neg (by decide)]; exact f0 hb), (fun hb => by rw [eval_put_at _ _ _ _ (by omega), if_neg (by decide)]; exact f1 hb), (fun hb => by rw [eval_put_at _ _ _ _ (by omega), if_neg (by decide)]; exact f2 hb), (fun hb => by rw [eval_put_at _ _ _ _ (by omega), if_neg (by decide)]; exact f3 hb), (fun hb => by rw [eval_put_at _ _ _ _ (by omega), if_neg (by decide)]; exact f4 hb), (fun hb => by rw [eval_put_at _ _ _ _ (by omega), if_neg (by decide)]; exact f5 hb), (fun hb => by rw [eval_put_at _ _ _ _ (by omega), if_neg (by decide)]; exact f6 hb), (fun hb => by rw [eval_put_at _ _ _ _ (by omega), if_neg (by decide)]; exact f7 hb), (fun hb => by rw [eval_put_at _ _ _ _ (by omega), if_neg (by decide)]; exact f8 hb), (fun _ => by rw [eval_put_at _ _ _ _ (by omega), if_pos rfl]), st⟩
  · -- 10
    change (b7 && b9 && !b10) = true at hd
    have hb : (b7 = true ∧ b9 = true) ∧ b10 = false := by simpa using hd
    obtain ⟨⟨hb7, hb9⟩, hb10⟩ := hb
    subst hb7 hb10
    have hw := stage_two st
    obtain ⟨i1, i2, i3, A, k, c, rfl⟩ := hI2 _ _ hw
    obtain ⟨A0, c0, rfl⟩ := hrv
    obtain ⟨o, ho, hg, hdst, hop⟩ := h10
    refine wpOpIn_run (w' := w.setCell ⟨J, 2, none⟩ (.slice A k c)) ho hg (fun c => by rw [hop]; exact fun h => by cases h) (fun _ => trivial) undef (.inr ⟨?_, rfl⟩) ?_
    · unfold execOp
      have e7' := f7 rfl
      simp only [hop, f9 hb9, e7']
      go_simp
    · rw [hdst]
      have st' : Stage11 I I3 I2 X (.slice A k c) (.slice A1 n1 c1) b6 true true (w.setCell ⟨J, 2, none⟩ (.slice A k c)) := by
        simp only [Stage11, if_true]
        exact hst _ _ hw
      exact ⟨rfl, hz, e2, es, e7, hdf, X, _, f0, f1, f2, f3, f4, f5, f6, f7, f8, f9, st'⟩
  · change false = true at hd
    cases hd

set_option maxRecDepth 100000 in
theorem grow_recs (l n : Nat) (hS : stagesOk .any ops stagesAll dep11 = true) (hsz : ops.size = 11) (hr : stagesAll.all (fun L => !(Region.ready .any ops L.toArray).isEmpty || L == List.replicate 11 true) = true)
    (h0 : ∃ o : Oper, ops[0]? = some o ∧ o.guard = none ∧ o.dst = some 13 ∧ o.op = .load 50 (.tmp 2)) (h1 : ∃ o : Oper, ops[1]? = some o ∧ o.guard = none ∧ o.dst = some 14 ∧ o.op = .load 50 (.tmp 2))
    (h2 : ∃ o : Oper, ops[2]? = some o ∧ o.guard = none ∧ o.dst = some 15 ∧ o.op = .nilCheck (.tmp 14)) (h3 : ∃ o : Oper, ops[3]? = some o ∧ o.guard = none ∧ o.dst = some 16 ∧ o.op = .fieldAddr 90 (.tmp 15) 2)
    (h4 : ∃ o : Oper, ops[4]? = some o ∧ o.guard = none ∧ o.dst = some 17 ∧ o.op = .load 45 (.tmp 16)) (h5 : ∃ o : Oper, ops[5]? = some o ∧ o.guard = none ∧ o.dst = some 18 ∧ o.op = .move (.tmp 6))
    (h6 : ∃ o : Oper, ops[6]? = some o ∧ o.guard = none ∧ o.dst = some 19 ∧ o.op = .buildSlice 45 1 #[(0, .tmp 18)])
    (h7 : ∃ o : Oper, ops[7]? = some o ∧ o.guard = none ∧ o.dst = some 20 ∧ o.op = .call { callee := .builtin .append, args := #[.tmp 17, .tmp 19], argTypes := #[45, 45] })
    (h8 : ∃ o : Oper, ops[8]? = some o ∧ o.guard = none ∧ o.dst = some 21 ∧ o.op = .nilCheck (.tmp 13)) (h9 : ∃ o : Oper, ops[9]? = some o ∧ o.guard = none ∧ o.dst = some 22 ∧ o.op = .fieldAddr 90 (.tmp 21) 2)
    (h10 : ∃ o : Oper, ops[10]? = some o ∧ o.guard = none ∧ o.dst = none ∧ o.op = .store 45 (.tmp 22) (.tmp 20))
    (hI : ∀ W, I W → W.cell? ⟨N, 0, none⟩ = some (.pointer (some ⟨J, 0, none⟩)) ∧ W.cell? ⟨J, 2, none⟩ = some rv ∧ W.ownsRow base 30 1 rv m xs ∧ base ≤ W.heap.size ∧ m ≤ 1000000)
    (hIk : ∀ W W', I W → Kept Kno W W' → I W')
    (happ : ∀ W W' v', I W → W.grownBy W' rv.ownBlock → W'.ownsRow base 30 1 v' (m + 1) (xs ++ [.slice A1 n1 c1]) → (v'.ownBlock = rv.ownBlock ∨ v'.ownBlock = some W.heap.size) → I2 v' W')
    (hI2 : ∀ v' W, I2 v' W → W.cell? ⟨N, 0, none⟩ = some (.pointer (some ⟨J, 0, none⟩)) ∧ W.cell? ⟨J, 2, none⟩ = some rv ∧ W.frozen? ⟨J, 2, none⟩ = false ∧ ∃ A k c, v' = .slice A k c)
    (hst : ∀ v' W, I2 v' W → I3 (W.setCell ⟨J, 2, none⟩ v'))
    (hrv : ∃ A c, rv = .slice A m c) (a : Act) (w : World) (hw : I w) (hz : a.tmps.size = 35) (e2 : a.eval (.tmp 2) = .pointer (some ⟨N, 0, none⟩)) (es : a.eval (.tmp 6) = .slice A1 n1 c1) (e7 : a.eval (.tmp 7) = y) (hdf : a.defers = [])
    (hQ : ∀ a' w', I3 w' → a'.tmps.size = 35 → a'.eval (.tmp 2) = .pointer (some ⟨N, 0, none⟩) → a'.eval (.tmp 7) = y → a'.defers = [] → Q .normal a' w') :
    wpAnyIn (Fence.wide.inRound l) n Try.prog .any ops Q ops.size (Array.replicate ops.size false) a w := by
  have hst0 : (Array.replicate ops.size false) = (List.replicate 11 false).toArray := by rw [hsz]; rfl
  rw [hst0, hsz]
  refine wpAnyIn_staged stagesAll dep11 hS (Inv_recs I I3 I2 N J rv (.slice A1 n1 c1) y) (fun L hL h0' a' w' hi => ?_) (fun i L a' w' hd hi => step_recs l n i h0 h1 h2 h3 h4 h5 h6 h7 h8 h9 h10 hI hIk happ hI2 hst hrv L a' w' hd hi) 11 _ a w (by decide) (by decide) ?_
  · have h := List.all_eq_true.1 hr L hL
    rw [h0'] at h
    have hL' : L = List.replicate 11 true := by simpa using h
    subst hL'
    obtain ⟨-, hz', e2', es', e7', hdf', X, v', -, -, -, -, -, -, -, -, -, -, st⟩ := hi
    exact hQ a' w' (by simpa [Stage11] using st) hz' e2' e7' hdf'
  · exact ⟨rfl, hz, e2, es, e7, hdf, .slice none 0 0, .slice none 0 0, by simp, by simp, by simp, by simp, by simp, by simp, by simp, by simp, by simp, by simp, by simpa [Stage11] using hw⟩
end

theorem info_ends : (Try.prog.info? 3).map (fun i => (i.zero, i.size, i.bytes)) = some (some (.int .i64 0), 1, 8) := by kernel_rfl

def Inv_ends (I I3 : World → Prop) (I2 : Value → World → Prop) (N J : Nat) (rv x y : Value) (L : List Bool) (a : Act) (w : World) : Prop :=
  L.length = 11 ∧ a.tmps.size = 35 ∧ a.eval (.tmp 2) = .pointer (some ⟨N, 0, none⟩) ∧ a.eval (.tmp 7) = x ∧ a.eval (.tmp 7) = y ∧ a.defers = [] ∧ ∃ X v' : Value,
    (L.getD 0 false = true → a.eval (.tmp 23) = .pointer (some ⟨J, 0, none⟩)) ∧ (L.getD 1 false = true → a.eval (.tmp 24) = .pointer (some ⟨J, 0, none⟩)) ∧ (L.getD 2 false = true → a.eval (.tmp 25) = .pointer (some ⟨J, 0, none⟩)) ∧ (L.getD 3 false = true → a.eval (.tmp 26) = .pointer (some ⟨J, 3, none⟩)) ∧ (L.getD 4 false = true → a.eval (.tmp 27) = rv) ∧
    (L.getD 5 false = true → a.eval (.tmp 28) = x) ∧ (L.getD 6 false = true → a.eval (.tmp 29) = X) ∧ (L.getD 7 false = true → a.eval (.tmp 30) = v') ∧ (L.getD 8 false = true → a.eval (.tmp 31) = .pointer (some ⟨J, 0, none⟩)) ∧ (L.getD 9 false = true → a.eval (.tmp 32) = .pointer (some ⟨J, 3, none⟩)) ∧ Stage11 I I3 I2 X v' x (L.getD 6 false) (L.getD 7 false) (L.getD 10 false) w

section
variable {ops : Array Oper} {Q : Exit → Act → World → Prop} {I I3 : World → Prop} {I2 : Value → World → Prop} {N J base m : Nat} {rv y : Value} {xs : List Value} {z1 : Int}

set_option maxRecDepth 100000 in
set_option maxHeartbeats 2000000 in
theorem step_ends (l n i : Nat)
    (h0 : ∃ o : Oper, ops[0]? = some o ∧ o.guard = none ∧ o.dst = some 23 ∧ o.op = .load 50 (.tmp 2)) (h1 : ∃ o : Oper, ops[1]? = some o ∧ o.guard = none ∧ o.dst = some 24 ∧ o.op = .load 50 (.tmp 2))
    (h2 : ∃ o : Oper, ops[2]? = some o ∧ o.guard = none ∧ o.dst = some 25 ∧ o.op = .nilCheck (.tmp 24)) (h3 : ∃ o : Oper, ops[3]? = some o ∧ o.guard = none ∧ o.dst = some 26 ∧ o.op = .fieldAddr 90 (.tmp 25) 3)
    (h4 : ∃ o : Oper, ops[4]? = some o ∧ o.guard = none ∧ o.dst = some 27 ∧ o.op = .load 31 (.tmp 26)) (h5 : ∃ o : Oper, ops[5]? = some o ∧ o.guard = none ∧ o.dst = some 28 ∧ o.op = .move (.tmp 7))
    (h6 : ∃ o : Oper, ops[6]? = some o ∧ o.guard = none ∧ o.dst = some 29 ∧ o.op = .buildSlice 31 1 #[(0, .tmp 28)])
    (h7 : ∃ o : Oper, ops[7]? = some o ∧ o.guard = none ∧ o.dst = some 30 ∧ o.op = .call { callee := .builtin .append, args := #[.tmp 27, .tmp 29], argTypes := #[31, 31] })
    (h8 : ∃ o : Oper, ops[8]? = some o ∧ o.guard = none ∧ o.dst = some 31 ∧ o.op = .nilCheck (.tmp 23)) (h9 : ∃ o : Oper, ops[9]? = some o ∧ o.guard = none ∧ o.dst = some 32 ∧ o.op = .fieldAddr 90 (.tmp 31) 3)
    (h10 : ∃ o : Oper, ops[10]? = some o ∧ o.guard = none ∧ o.dst = none ∧ o.op = .store 31 (.tmp 32) (.tmp 30))
    (hI : ∀ W, I W → W.cell? ⟨N, 0, none⟩ = some (.pointer (some ⟨J, 0, none⟩)) ∧ W.cell? ⟨J, 3, none⟩ = some rv ∧ W.ownsRow base 3 1 rv m xs ∧ base ≤ W.heap.size ∧ m ≤ 1000000)
    (hIk : ∀ W W', I W → Kept Kno W W' → I W')
    (happ : ∀ W W' v', I W → W.grownBy W' rv.ownBlock → W'.ownsRow base 3 1 v' (m + 1) (xs ++ [.int .i64 z1]) → (v'.ownBlock = rv.ownBlock ∨ v'.ownBlock = some W.heap.size) → I2 v' W')
    (hI2 : ∀ v' W, I2 v' W → W.cell? ⟨N, 0, none⟩ = some (.pointer (some ⟨J, 0, none⟩)) ∧ W.cell? ⟨J, 3, none⟩ = some rv ∧ W.frozen? ⟨J, 3, none⟩ = false ∧ ∃ A k c, v' = .slice A k c)
    (hst : ∀ v' W, I2 v' W → I3 (W.setCell ⟨J, 3, none⟩ v'))
    (hrv : ∃ A c, rv = .slice A m c) (L : List Bool) (a : Act) (w : World) (hd : dep11 i L = true) (hi : Inv_ends I I3 I2 N J rv (.int .i64 z1) y L a w) :
    wpOpIn (Fence.wide.inRound l) n Try.prog ops Q i (fun a' w' => Inv_ends I I3 I2 N J rv (.int .i64 z1) y (L.set i true) a' w') a w := by
  obtain ⟨j0, hj, hy0, hy1, hy2⟩ := info_parts info_ends
  obtain ⟨hlen, hz, e2, es, e7, hdf, X, v', f0, f1, f2, f3, f4, f5, f6, f7, f8, f9, st⟩ := hi
  obtain ⟨b0, b1, b2, b3, b4, b5, b6, b7, b8, b9, b10, rfl⟩ := list11 L hlen
  change b0 = true → _ at f0
  change b1 = true → _ at f1
  change b2 = true → _ at f2
  change b3 = true → _ at f3
  change b4 = true → _ at f4
  change b5 = true → _ at f5
  change b6 = true → _ at f6
  change b7 = true → _ at f7
  change b8 = true → _ at f8
  change b9 = true → _ at f9
  change Stage11 I I3 I2 X v' _ b6 b7 b10 w at st
  rcases i with _ | _ | _ | _ | _ | _ | _ | _ | _ | _ | _ | i
  · -- 0
    change (!b10) = true at hd
    have hb : b10 = false := by simpa using hd
    subst hb
    have hc : w.cell? ⟨N, 0, none⟩ = some (.pointer (some ⟨J, 0, none⟩)) := by
      cases b7 with
      | true => exact (hI2 _ _ (stage_two st)).1
      | false => exact (hI _ (stage_I st)).1
    obtain ⟨o, ho, hg, hdst, hop⟩ := h0
    refine wpOpIn_run (w' := w) ho hg (fun c => by rw [hop]; exact fun h => by cases h) (fun _ => trivial) (.pointer (some ⟨J, 0, none⟩)) (.inl ?_) ?_
    · unfold execOp
      simp only [hop, e2]
      go_simp
    · rw [hdst]
      exact ⟨rfl, (by rw [size_put]; exact hz), (by rw [eval_put_at _ _ _ _ (by omega), if_neg (by decide)]; exact e2), (by rw [eval_put_at _ _ _ _ (by omega), if_neg (by decide)]; exact es), (by rw [eval_put_at _ _ _ _ (by omega), if_neg (by decide)]; exact e7), hdf, X, v', (fun _ => by rw [eval_put_at _ _ _ _ (by omega), if_pos rfl]), (fun hb => by rw [eval_put_at _ _ _ _ (by omega), if_neg (by decide)]; exact f1 hb), (fun hb => by rw [eval_put_at _ _ _ _ (by omega), if_neg (by decide)]; exact f2 hb), (fun hb => by rw [eval_put_at _ _ _ _ (by omega), if_neg (by decide)]; exact f3 hb), (fun hb => by rw [eval_put_at _ _ _ _ (by omega), if_neg (by decide)]; exact f4 hb), (fun hb => by rw [eval_put_at _ _ _ _ (by omega), if_neg (by decide)]; exact f5 hb), (fun hb => by rw [eval_put_at _ _ _ _ (by omega), if_neg (by decide)]; exact f6 hb), (fun hb => by rw [eval_put_at _ _ _ _ (by omega), if_neg (by decide)]; exact f7 hb), (fun hb => by rw [eval_put_at _ _ _ _ (by omega), if_neg (by decide)]; exact f8 hb), (fun hb => by rw [eval_put_at _ _ _ _ (by omega), if_neg (by decide)]; exact f9 hb), st⟩
  · -- 1
    change (!b7) = true at hd
    have hb : b7 = false := by simpa using hd
    subst hb
    have hc := (hI _ (stage_I st)).1
    obtain ⟨o, ho, hg, hdst, hop⟩ := h1
    refine wpOpIn_run (w' := w) ho hg (fun c => by rw [hop]; exact fun h => by cases h) (fun _ => trivial) (.pointer (some ⟨J, 0, none⟩)) (.inl ?_) ?_
    · unfold execOp
      simp only [hop, e2]
      go_simp
    · rw [hdst]
      exact ⟨rfl, (by rw [size_put]; exact hz), (by rw [eval_put_at _ _ _ _ (by omega), if_neg (by decide)]; exact e2), (by rw [eval_put_at _ _ _ _ (by omega), if_neg (by decide)]; exact es), (by rw [eval_put_at _ _ _ _ (by omega), if_neg (by decide)]; exact e7), hdf, X, v', (fun hb => by rw [eval_put_at _ _ _ _ (by omega), if_neg (by decide)]; exact f0 hb), (fun _ => by rw [eval_put_at _ _ _ _ (by omega), if_pos rfl]), (fun hb => by rw [eval_put_at _ _ _ _ (by omega), if_neg (by decide)]; exact f2 hb), (fun hb => by rw [eval_put_at _ _ _ _ (by omega), if_neg (by decide)]; exact f3 hb), (fun hb => by rw [eval_put_at _ _ _ _ (by omega), if_neg (by decide)]; exact f4 hb), (fun hb => by rw [eval_put_at _ _ _ _ (by omega), if_neg (by decide)]; exact f5 hb), (fun hb => by rw [eval_put_at _ _ _ _ (by omega), if_neg (by decide)]; exact f6 hb), (fun hb => by rw [eval_put_at _ _ _ _ (by omega), if_neg (by decide)]; exact f7 hb), (fun hb => by rw [eval_put_at _ _ _ _ (by omega), if_neg (by decide)]; exact f8 hb), (fun hb => by rw [eval_put_at _ _ _ _ (by omega), if_neg (by decide)]; exact f9 hb), st⟩
  · -- 2
    change b1 = true at hd
    have hb : b1 = true := by simpa using hd
    obtain ⟨o, ho, hg, hdst, hop⟩ := h2
    refine wpOpIn_run (w' := w) ho hg (fun c => by rw [hop]; exact fun h => by cases h) (fun _ => trivial) (.pointer (some ⟨J, 0, none⟩)) (.inl ?_) ?_
    · unfold execOp
      simp only [hop, f1 hb]
      go_simp
    · rw [hdst]
      exact ⟨rfl, (by rw [size_put]; exact hz), (by rw [eval_put_at _ _ _ _ (by omega), if_neg (by decide)]; exact e2), (by rw [eval_put_at _ _ _ _ (by omega), if_neg (by decide)]; exact es), (by rw [eval_put_at _ _ _ _ (by omega), if_neg (by decide)]; exact e7), hdf, X, v', (fun hb => by rw [eval_put_at _ _ _ _ (by omega), if_neg (by decide)]; exact f0 hb), (fun hb => by rw [eval_put_at _ _ _ _ (by omega), if_neg (by decide)]; exact f1 hb), (fun _ => by rw [eval_put_at _ _ _ _ (by omega), if_pos rfl]), (fun hb => by rw [eval_put_at _ _ _ _ (by omega), if_neg (by decide)]; exact f3 hb), (fun hb => by rw [eval_put_at _ _ _ _ (by omega), if_neg (by decide)]; exact f4 hb), (fun hb => by rw [eval_put_at _ _ _ _ (by omega), if_neg (by decide)]; exact f5 hb), (fun hb => by rw [eval_put_at _ _ _ _ (by omega), if_neg (by decide)]; exact f6 hb), (fun hb => by rw [eval_put_at _ _ _ _ (by omega), if_neg (by decide)]; exact f7 hb), (fun hb => by rw [eval_put_at _ _ _ _ (by omega), if_neg (by decide)]; exact f8 hb), (fun hb => by rw [eval_put_at _ _ _ _ (by omega), if_neg (by decide)]; exact f9 hb), st⟩
  · -- 3
    change b2 = true at hd
    have hb : b2 = true := by simpa using hd
    obtain ⟨o, ho, hg, hdst, hop⟩ := h3
    refine wpOpIn_run (w' := w) ho hg (fun c => by rw [hop]; exact fun h => by cases h) (fun _ => trivial) (.pointer (some ⟨J, 3, none⟩)) (.inl ?_) ?_
    · unfold execOp
      simp only [hop, f2 hb]
      go_simp
    · rw [hdst]
      exact ⟨rfl, (by rw [size_put]; exact hz), (by rw [eval_put_at _ _ _ _ (by omega), if_neg (by decide)]; exact e2), (by rw [eval_put_at _ _ _ _ (by omega), if_neg (by decide)]; exact es), (by rw [eval_put_at _ _ _ _ (by omega), if_neg (by decide)]; exact e7), hdf, X, v', (fun hb => by rw [eval_put_at _ _ _ _ (by omega), if_neg (by decide)]; exact f0 hb), (fun hb => by rw [eval_put_at _ _ _ _ (by omega), if_neg (by decide)]; exact f1 hb), (fun hb => by rw [eval_put_at _ _ _ _ (by omega), if_neg (by decide)]; exact f2 hb), (fun _ => by rw [eval_put_at _ _ _ _ (by omega), if_pos rfl]), (fun hb => by rw [eval_put_at _ _ _ _ (by omega), if_neg (by decide)]; exact f4 hb), (fun hb => by rw [eval_put_at _ _ _ _ (by omega), if_neg (by decide)]; exact f5 hb), (fun hb => by rw [eval_put_at _ _ _ _ (by omega), if_neg (by decide)]; exact f6 hb), (fun hb => by rw [eval_put_at _ _ _ _ (by omega), if_neg (by decide)]; exact f7 hb), (fun hb => by rw [eval_put_at _ _ _ _ (by omega), if_neg (by decide)]; exact f8 hb), (fun hb => by rw [eval_put_at _ _ _ _ (by omega), if_neg (by decide)]; exact f9 hb), st⟩
  · -- 4
    change (b3 && !b7) = true at hd
    have hb : b3 = true ∧ b7 = false := by simpa using hd
    obtain ⟨hb3, hb7⟩ := hb
    subst hb7
    have hc := (hI _ (stage_I st)).2.1
    obtain ⟨A, c, rfl⟩ := hrv
    obtain ⟨o, ho, hg, hdst, hop⟩ := h4
    refine wpOpIn_run (w' := w) ho hg (fun c => by rw [hop]; exact fun h => by cases h) (fun _ => trivial) (.slice A m c) (.inl ?_) ?_
    · unfold execOp
      simp only [hop, f3 hb3]
      go_simp
    · rw [hdst]
      exact ⟨rfl, (by rw [size_put]; exact hz), (by rw [eval_put_at _ _ _ _ (by omega), if_neg (by decide)]; exact e2), (by rw [eval_put_at _ _ _ _ (by omega), if_neg (by decide)]; exact es), (by rw [eval_put_at _ _ _ _ (by omega), if_neg (by decide)]; exact e7), hdf, X, v', (fun hb => by rw [eval_put_at _ _ _ _ (by omega), if_neg (by decide)]; exact f0 hb), (fun hb => by rw [eval_put_at _ _ _ _ (by omega), if_neg (by decide)]; exact f1 hb), (fun hb => by rw [eval_put_at _ _ _ _ (by omega), if_neg (by decide)]; exact f2 hb), (fun hb => by rw [eval_put_at _ _ _ _ (by omega), if_neg (by decide)]; exact f3 hb), (fun _ => by rw [eval_put_at _ _ _ _ (by omega), if_pos rfl]), (fun hb => by rw [eval_put_at _ _ _ _ (by omega), if_neg (by decide)]; exact f5 hb), (fun hb => by rw [eval_put_at _ _ _ _ (by omega), if_neg (by decide)]; exact f6 hb), (fun hb => by rw [eval_put_at _ _ _ _ (by omega), if_neg (by decide)]; exact f7 hb), (fun hb => by rw [eval_put_at _ _ _ _ (by omega), if_neg (by decide)]; exact f8 hb), (fun hb => by rw [eval_put_at _ _ _ _ (by omega), if_neg (by decide)]; exact f9 hb), st⟩
  · -- 5
    obtain ⟨o, ho, hg, hdst, hop⟩ := h5
    refine wpOpIn_run (w' := w) ho hg (fun c => by rw [hop]; exact fun h => by cases h) (fun _ => trivial) (.int .i64 z1) (.inl ?_) ?_
    · unfold execOp
      simp only [hop, es]
      go_simp
    · rw [hdst]
      exact ⟨rfl, (by rw [size_put]; exact hz), (by rw [eval_put_at _ _ _ _ (by omega), if_neg (by decide)]; exact e2), (by rw [eval_put_at _ _ _ _ (by omega), if_neg (by decide)]; exact es), (by rw [eval_put_at _ _ _ _ (by omega), if_neg (by decide)]; exact e7), hdf, X, v', (fun hb => by rw [eval_put_at _ _ _ _ (by omega), if_neg (by decide)]; exact f0 hb), (fun hb => by rw [eval_put_at _ _ _ _ (by omega), if_neg (by decide)]; exact f1 hb), (fun hb => by rw [eval_put_at _ _ _ _ (by omega), if_neg (by decide)]; exact f2 hb), (fun hb => by rw [eval_put_at _ _ _ _ (by omega), if_neg (by decide)]; exact f3 hb), (fun hb => by rw [eval_put_at _ _ _ _ (by omega), if_neg (by decide)]; exact f4 hb), (fun _ => by rw [eval_put_at _ _ _ _ (by omega), if_pos rfl]), (fun hb => by rw [eval_put_at _ _ _ _ (by omega), if_neg (by decide)]; exact f6 hb), (fun hb => by rw [eval_put_at _ _ _ _ (by omega), if_neg (by decide)]; exact f7 hb), (fun hb => by rw [eval_put_at _ _ _ _ (by omega), if_neg (by decide)]; exact f8 hb), (fun hb => by rw [eval_put_at _ _ _ _ (by omega), if_neg (by decide)]; exact f9 hb), st⟩
  · -- 6
    change (b5 && !b6 && !b7) = true at hd
    have hb : (b5 = true ∧ b6 = false) ∧ b7 = false := by simpa using hd
    obtain ⟨⟨hb5, hb6⟩, hb7⟩ := hb
    subst hb6 hb7
    have hw := stage_I st
    obtain ⟨o, ho, hg, hdst, hop⟩ := h6
    refine wpOpIn_run (w' := w.alloc (.cells #[.int .i64 z1] 3)) ho hg (fun c => by rw [hop]; exact fun h => by cases h) (fun _ => trivial) (.slice (some ⟨w.heap.size, 0, none⟩) 1 1) (.inl ?_) ?_
    · unfold execOp
      simp only [hop]
      have e5 := f5 hb5
      simp [e5]
      go_simp
    · rw [hdst]
      have st' : Stage11 I I3 I2 (.slice (some ⟨w.heap.size, 0, none⟩) 1 1) v' (.int .i64 z1) true false b10 (w.alloc (.cells #[.int .i64 z1] 3)) := by
        simp only [Stage11, Bool.false_eq_true, if_false, if_true]
        exact ⟨hIk _ _ hw ((Kept.refl _ _).alloc _), Rd.one w 3 #[.int .i64 z1] rfl⟩
      exact ⟨rfl, (by rw [size_put]; exact hz), (by rw [eval_put_at _ _ _ _ (by omega), if_neg (by decide)]; exact e2), (by rw [eval_put_at _ _ _ _ (by omega), if_neg (by decide)]; exact es), (by rw [eval_put_at _ _ _ _ (by omega), if_neg (by decide)]; exact e7), hdf, _, v', (fun hb => by rw [eval_put_at _ _ _ _ (by omega), if_neg (by decide)]; exact f0 hb), (fun hb => by rw [eval_put_at _ _ _ _ (by omega), if_neg (by decide)]; exact f1 hb), (fun hb => by rw [eval_put_at _ _ _ _ (by omega), if_neg (by decide)]; exact f2 hb), (fun hb => by rw [eval_put_at _ _ _ _ (by omega), if_neg (by decide)]; exact f3 hb), (fun hb => by rw [eval_put_at _ _ _ _ (by omega), if_neg (by decide)]; exact f4 hb), (fun hb => by rw [eval_put_at _ _ _ _ (by omega), if_neg (by decide)]; exact f5 hb), (fun _ => by rw [eval_put_at _ _ _ _ (by omega), if_pos rfl]), (fun hb => by rw [eval_put_at _ _ _ _ (by omega), if_neg (by decide)]; exact f7 hb), (fun hb => by rw [eval_put_at _ _ _ _ (by omega), if_neg (by decide)]; exact f8 hb), (fun hb => by rw [eval_put_at _ _ _ _ (by omega), if_neg (by decide)]; exact f9 hb), st'⟩
  · -- 7
    change (b4 && b6 && !b7 && !b10) = true at hd
    have hb : ((b4 = true ∧ b6 = true) ∧ b7 = false) ∧ b10 = false := by simpa using hd
    obtain ⟨⟨⟨hb4, hb6⟩, hb7⟩, hb10⟩ := hb
    subst hb6 hb7 hb10
    obtain ⟨hw, hrd⟩ := stage_one st
    obtain ⟨i1, i2, i3, i4, i5⟩ := hI _ hw
    obtain ⟨o, ho, hg, hdst, hop⟩ := h7
    obtain ⟨A2, cap2, w2, hrun, hown, hgr, hat⟩ := run_append_rd (P := Try.prog) w base 31 o.type 3 j0 _ 1 8 (Try.underlying31) hj hy0 hy1 hy2 rfl (by omega) rv m xs i3 X 1 [.int .i64 z1] hrd (by simp [Value.oneCell']) (by simp only [maxLen]; omega) (by omega) i4
    refine wpOpIn_run (w' := w2) ho hg (fun c => by rw [hop]; exact fun h => by cases h) (fun _ => trivial) (.slice A2 (m + 1) cap2) (.inl ?_) ?_
    · unfold execOp
      have e4 := f4 hb4
      have e6 := f6 rfl
      simp only [hop, resolve, invoke, builtin, Sem.run_bind, Sem.run_pure, Result.andThen_ok, List.map_toArray, List.map_cons, List.map_nil, e4, e6, hrun]
    · rw [hdst]
      have st' : Stage11 I I3 I2 X (.slice A2 (m + 1) cap2) (.int .i64 z1) true true false w2 := by
        simp only [Stage11, Bool.false_eq_true, if_false, if_true]
        exact happ w w2 _ hw hgr hown hat
      exact ⟨rfl, (by rw [size_put]; exact hz), (by rw [eval_put_at _ _ _ _ (by omega), if_neg (by decide)]; exact e2), (by rw [eval_put_at _ _ _ _ (by omega), if_neg (by decide)]; exact es), (by rw [eval_put_at _ _ _ _ (by omega), if_neg (by decide)]; exact e7), hdf, X, _, (fun hb => by rw [eval_put_at _ _ _ _ (by omega), if_neg (by decide)]; exact f0 hb), (fun hb => by rw [eval_put_at _ _ _ _ (by omega), if_neg (by decide)]; exact f1 hb), (fun hb => by rw [eval_put_at _ _ _ _ (by omega), if_neg (by decide)]; exact f2 hb), (fun hb => by rw [eval_put_at _ _ _ _ (by omega), if_neg (by decide)]; exact f3 hb), (fun hb => by rw [eval_put_at _ _ _ _ (by omega), if_neg (by decide)]; exact f4 hb), (fun hb => by rw [eval_put_at _ _ _ _ (by omega), if_neg (by decide)]; exact f5 hb), (fun hb => by rw [eval_put_at _ _ _ _ (by omega), if_neg (by decide)]; exact f6 hb), (fun _ => by rw [eval_put_at _ _ _ _ (by omega), if_pos rfl]), (fun hb => by rw [eval_put_at _ _ _ _ (by omega), if_neg (by decide)]; exact f8 hb), (fun hb => by rw [eval_put_at _ _ _ _ (by omega), if_neg (by decide)]; exact f9 hb), st'⟩
  · -- 8
    change b0 = true at hd
    have hb : b0 = true := by simpa using hd
    obtain ⟨o, ho, hg, hdst, hop⟩ := h8
    refine wpOpIn_run (w' := w) ho hg (fun c => by rw [hop]; exact fun h => by cases h) (fun _ => trivial) (.pointer (some ⟨J, 0, none⟩)) (.inl ?_) ?_
    · unfold execOp
      simp only [hop, f0 hb]
      go_simp
    · rw [hdst]
      exact ⟨rfl, (by rw [size_put]; exact hz), (by rw [eval_put_at _ _ _ _ (by omega), if_neg (by decide)]; exact e2), (by rw [eval_put_at _ _ _ _ (by omega), if_neg (by decide)]; exact es), (by rw [eval_put_at _ _ _ _ (by omega), if_neg (by decide)]; exact e7), hdf, X, v', (fun hb => by rw [eval_put_at _ _ _ _ (by omega), if_neg (by decide)]; exact f0 hb), (fun hb => by rw [eval_put_at _ _ _ _ (by omega), if_neg (by decide)]; exact f1 hb), (fun hb => by rw [eval_put_at _ _ _ _ (by omega), if_neg (by decide)]; exact f2 hb), (fun hb => by rw [eval_put_at _ _ _ _ (by omega), if_neg (by decide)]; exact f3 hb), (fun hb => by rw [eval_put_at _ _ _ _ (by omega), if_neg (by decide)]; exact f4 hb), (fun hb => by rw [eval_put_at _ _ _ _ (by omega), if_neg (by decide)]; exact f5 hb), (fun hb => by rw [eval_put_at _ _ _ _ (by omega), if_neg (by decide)]; exact f6 hb), (fun hb => by rw [eval_put_at _ _ _ _ (by omega), if_neg (by decide)]; exact f7 hb), (fun _ => by rw [eval_put_at _ _ _ _ (by omega), if_pos rfl]), (fun hb => by rw [eval_put_at _ _ _ _ (by omega), if_neg (by decide)]; exact f9 hb), st⟩
  · -- 9
    change b8 = true at hd
    have hb : b8 = true := by simpa using hd
    obtain ⟨o, ho, hg, hdst, hop⟩ := h9
    refine wpOpIn_run (w' := w) ho hg (fun c => by rw [hop]; exact fun h => by cases h) (fun _ => trivial) (.pointer (some ⟨J, 3, none⟩)) (.inl ?_) ?_
    · unfold execOp
      simp only [hop, f8 hb]
      go_simp
    · rw [hdst]
      exact ⟨rfl, (by rw [size_put]; exact hz), (by rw [eval_put_at _ _ _ _ (by omega), if_neg (by decide)]; exact e2), (by rw [eval_put_at _ _ _ _ (by omega), if_neg (by decide)]; exact es), (by rw [eval_put_at _ _ _ _ (by omega), if_neg (by decide)]; exact e7), hdf, X, v', (fun hb => by rw [eval_put_at _ _ _ _ (by omega), if_neg (by decide)]; exact f0 hb), (fun hb => by rw [eval_put_at _ _ _ _ (by omega), if_neg (by decide)]; exact f1 hb), (fun hb => by rw [eval_put_at _ _ _ _ (by omega), if_neg (by decide)]; exact f2 hb), (fun hb => by rw [eval_put_at _ _ _ _ (by omega), if_neg (by decide)]; exact f3 hb), (fun hb => by rw [eval_put_at _ _ _ _ (by omega), if_neg (by decide)]; exact f4 hb), (fun hb => by rw [eval_put_at _ _ _ _ (by omega), if_neg (by decide)]; exact f5 hb), (fun hb => by rw [eval_put_at _ _ _ _ (by omega), if_neg (by decide)]; exact f6 hb), (fun hb => by rw [eval_put_at _ _ _ _ (by omega), if_neg (by decide)]; exact f7 hb), (fun hb => by rw [eval_put_at _ _ _ _ (by omega), if_neg (by decide)]; exact f8 hb), (fun _ => by rw [eval_put_at _ _ _ _ (by omega), if_pos rfl]), st⟩
  · -- 10
    change (b7 && b9 && !b10) = true at hd
    have hb : (b7 = true ∧ b9 = true) ∧ b10 = false := by simpa using hd
    obtain ⟨⟨hb7, hb9⟩, hb10⟩ := hb
    subst hb7 hb10
    have hw := stage_two st
    obtain ⟨i1, i2, i3, A, k, c, rfl⟩ := hI2 _ _ hw
    obtain ⟨A0, c0, rfl⟩ := hrv
    obtain ⟨o, ho, hg, hdst, hop⟩ := h10
    refine wpOpIn_run (w' := w.setCell ⟨J, 3, none⟩ (.slice A k c)) ho hg (fun c => by rw [hop]; exact fun h => by cases h) (fun _ => trivial) undef (.inr ⟨?_, rfl⟩) ?_
    · unfold execOp
      have e7' := f7 rfl
      simp only [hop, f9 hb9, e7']
      go_simp
    · rw [hdst]
      have st' : Stage11 I I3 I2 X (.slice A k c) (.int .i64 z1) b6 true true (w.setCell ⟨J, 3, none⟩ (.slice A k c)) := by
        simp only [Stage11, if_true]
        exact hst _ _ hw
      exact ⟨rfl, hz, e2, es, e7, hdf, X, _, f0, f1, f2, f3, f4, f5, f6, f7, f8, f9, st'⟩
  · change false = true at hd
    cases hd

set_option maxRecDepth 100000 in
theorem grow_ends (l n : Nat) (hS : stagesOk .any ops stagesAll dep11 = true) (hsz : ops.size = 11) (hr : stagesAll.all (fun L => !(Region.ready .any ops L.toArray).isEmpty || L == List.replicate 11 true) = true)
    (h0 : ∃ o : Oper, ops[0]? = some o ∧ o.guard = none ∧ o.dst = some 23 ∧ o.op = .load 50 (.tmp 2)) (h1 : ∃ o : Oper, ops[1]? = some o ∧ o.guard = none ∧ o.dst = some 24 ∧ o.op = .load 50 (.tmp 2))
    (h2 : ∃ o : Oper, ops[2]? = some o ∧ o.guard = none ∧ o.dst = some 25 ∧ o.op = .nilCheck (.tmp 24)) (h3 : ∃ o : Oper, ops[3]? = some o ∧ o.guard = none ∧ o.dst = some 26 ∧ o.op = .fieldAddr 90 (.tmp 25) 3)
    (h4 : ∃ o : Oper, ops[4]? = some o ∧ o.guard = none ∧ o.dst = some 27 ∧ o.op = .load 31 (.tmp 26)) (h5 : ∃ o : Oper, ops[5]? = some o ∧ o.guard = none ∧ o.dst = some 28 ∧ o.op = .move (.tmp 7))
    (h6 : ∃ o : Oper, ops[6]? = some o ∧ o.guard = none ∧ o.dst = some 29 ∧ o.op = .buildSlice 31 1 #[(0, .tmp 28)])
    (h7 : ∃ o : Oper, ops[7]? = some o ∧ o.guard = none ∧ o.dst = some 30 ∧ o.op = .call { callee := .builtin .append, args := #[.tmp 27, .tmp 29], argTypes := #[31, 31] })
    (h8 : ∃ o : Oper, ops[8]? = some o ∧ o.guard = none ∧ o.dst = some 31 ∧ o.op = .nilCheck (.tmp 23)) (h9 : ∃ o : Oper, ops[9]? = some o ∧ o.guard = none ∧ o.dst = some 32 ∧ o.op = .fieldAddr 90 (.tmp 31) 3)
    (h10 : ∃ o : Oper, ops[10]? = some o ∧ o.guard = none ∧ o.dst = none ∧ o.op = .store 31 (.tmp 32) (.tmp 30))
    (hI : ∀ W, I W → W.cell? ⟨N, 0, none⟩ = some (.pointer (some ⟨J, 0, none⟩)) ∧ W.cell? ⟨J, 3, none⟩ = some rv ∧ W.ownsRow base 3 1 rv m xs ∧ base ≤ W.heap.size ∧ m ≤ 1000000)
    (hIk : ∀ W W', I W → Kept Kno W W' → I W')
    (happ : ∀ W W' v', I W → W.grownBy W' rv.ownBlock → W'.ownsRow base 3 1 v' (m + 1) (xs ++ [.int .i64 z1]) → (v'.ownBlock = rv.ownBlock ∨ v'.ownBlock = some W.heap.size) → I2 v' W')
    (hI2 : ∀ v' W, I2 v' W → W.cell? ⟨N, 0, none⟩ = some (.pointer (some ⟨J, 0, none⟩)) ∧ W.cell? ⟨J, 3, none⟩ = some rv ∧ W.frozen? ⟨J, 3, none⟩ = false ∧ ∃ A k c, v' = .slice A k c)
    (hst : ∀ v' W, I2 v' W → I3 (W.setCell ⟨J, 3, none⟩ v'))
    (hrv : ∃ A c, rv = .slice A m c) (a : Act) (w : World) (hw : I w) (hz : a.tmps.size = 35) (e2 : a.eval (.tmp 2) = .pointer (some ⟨N, 0, none⟩)) (es : a.eval (.tmp 7) = .int .i64 z1) (e7 : a.eval (.tmp 7) = y) (hdf : a.defers = [])
    (hQ : ∀ a' w', I3 w' → a'.tmps.size = 35 → a'.eval (.tmp 2) = .pointer (some ⟨N, 0, none⟩) → a'.eval (.tmp 7) = y → a'.defers = [] → Q .normal a' w') :
    wpAnyIn (Fence.wide.inRound l) n Try.prog .any ops Q ops.size (Array.replicate ops.size false) a w := by
  have hst0 : (Array.replicate ops.size false) = (List.replicate 11 false).toArray := by rw [hsz]; rfl
  rw [hst0, hsz]
  refine wpAnyIn_staged stagesAll dep11 hS (Inv_ends I I3 I2 N J rv (.int .i64 z1) y) (fun L hL h0' a' w' hi => ?_) (fun i L a' w' hd hi => step_ends l n i h0 h1 h2 h3 h4 h5 h6 h7 h8 h9 h10 hI hIk happ hI2 hst hrv L a' w' hd hi) 11 _ a w (by decide) (by decide) ?_
  · have h := List.all_eq_true.1 hr L hL
    rw [h0'] at h
    have hL' : L = List.replicate 11 true := by simpa using h
    subst hL'
    obtain ⟨-, hz', e2', es', e7', hdf', X, v', -, -, -, -, -, -, -, -, -, -, st⟩ := hi
    exact hQ a' w' (by simpa [Stage11] using st) hz' e2' e7' hdf'
  · exact ⟨rfl, hz, e2, es, e7, hdf, .slice none 0 0, .slice none 0 0, by simp, by simp, by simp, by simp, by simp, by simp, by simp, by simp, by simp, by simp, by simpa [Stage11] using hw⟩
end

end Go.Proofs.Yteoodgcpkgfomaa
