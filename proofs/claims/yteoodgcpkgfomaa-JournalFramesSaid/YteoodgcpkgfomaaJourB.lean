/-
  A region that draws its order inside a round of a range over a function, by stages: what is known of the slots and of memory is said by the set of the operations that have run; one step for each operation serves every order. With it: 'p.f = append(p.f, x)'. No function of the program in sight.
-/
import Derived.Test.YteoodgcpkgfomaaJourA
import Derived.OrdersIn
import Derived.OwnWalkIn
namespace Go.Proofs.Yteoodgcpkgfomaa
open Go.RowKit
set_option linter.unusedVariables false

section
variable {F : Fence} {n : Nat} {P : Program} {md : Region.Mode} {ops : Array Oper} {Q : Exit → Act → World → Prop}

/-- Every set of operations that may have run leads to such a set again; dep: what an operation that may come up finds done. -/
def stagesOk (md : Region.Mode) (ops : Array Oper) (S : List (List Bool)) (dep : Nat → List Bool → Bool) : Bool :=
  S.all fun l => (Region.ready md ops l.toArray).all (fun i => dep i l && S.contains (l.set i true)) && (!(l.count false == 0) || (Region.ready md ops l.toArray).isEmpty) && l.length == ops.size &&
    (Region.ready md ops l.toArray).all (fun i => l[i]? == some false)

theorem count_set : ∀ (l : List Bool) (i : Nat), l[i]? = some false → (l.set i true).count false + 1 = l.count false
  | [], i, h => by simp at h
  | b :: l, 0, h => by simp at h; subst h; simp
  | b :: l, i + 1, h => by
    have := count_set l i (by simpa using h)
    simp only [List.set_cons_succ, List.count_cons]
    omega

theorem wpAnyIn_staged (S : List (List Bool)) (dep : Nat → List Bool → Bool) (hS : stagesOk md ops S dep = true) (Inv : List Bool → Act → World → Prop)
    (hfin : ∀ l ∈ S, Region.ready md ops l.toArray = [] → ∀ a w, Inv l a w → Q .normal a w)
    (hstep : ∀ (i : Nat) (l : List Bool) (a : Act) (w : World), dep i l = true → Inv l a w → wpOpIn F n P ops Q i (fun a' w' => Inv (l.set i true) a' w') a w) :
    ∀ (fuel : Nat) (l : List Bool) (a : Act) (w : World), l ∈ S → l.count false ≤ fuel → Inv l a w → wpAnyIn F n P md ops Q fuel l.toArray a w := by
  intro fuel
  induction fuel with
  | zero =>
    intro l a w hl hc hi
    have h := List.all_eq_true.1 hS l hl
    simp only [Bool.and_eq_true] at h
    have h2 := h.1.1.2
    have hc0 : l.count false = 0 := by omega
    simp only [hc0, beq_self_eq_true, Bool.not_true, Bool.false_or, List.isEmpty_iff] at h2
    exact ⟨h2, hfin l hl h2 a w hi⟩
  | succ fuel ih =>
    intro l a w hl hc hi
    have h := List.all_eq_true.1 hS l hl
    simp only [Bool.and_eq_true] at h
    refine ⟨fun h0 => hfin l hl h0 a w hi, fun i him => ?_⟩
    have h1 := List.all_eq_true.1 h.1.1.1 i him
    have h3 := List.all_eq_true.1 h.2 i him
    simp only [Bool.and_eq_true] at h1
    have h4 : l[i]? = some false := by simpa using h3
    refine wpOpIn_mono (fun a' w' hi' => ?_) (hstep i l a w h1.1 hi)
    have h5 := ih (l.set i true) a' w' (by simpa using h1.2) (by have := count_set l i h4; omega) hi'
    rw [List.setIfInBounds_toArray]
    exact h5

theorem wpOpIn_run {i : Nat} {o : Oper} {a : Act} {w w' : World} {K : Act → World → Prop} (ho : ops[i]? = some o) (hg : o.guard = none) (hd : ∀ c, o.op ≠ .defer c) (hF : ∀ f, F.fn f) (v : Value)
    (hrun : (execOp a.eval o).run P w = .ok (.value v) w' ∨ ((execOp a.eval o).run P w = .ok .skip w' ∧ v = undef)) (hK : K (a.put o.dst v) w') : wpOpIn F n P ops Q i K a w := by
  unfold wpOpIn
  simp only [ho]
  have hw : Region.wanted o (yielded ops a.tmps) = true := by simp [Region.wanted, hg]
  rw [if_pos hw]
  unfold Oper.wpIn
  refine ⟨fun f _ => hF f, ?_⟩
  rw [Oper.semAt_plain F a.eval o hd]
  rcases hrun with h | ⟨h, rfl⟩
  · rw [h]; exact hK
  · rw [h]; exact hK

theorem eval_put_at (a : Act) (d e : Nat) (v : Value) (hd : d < a.tmps.size) : (a.put (some d) v).eval (.tmp e) = if e = d then v else a.eval (.tmp e) := by
  unfold Act.put Act.eval
  by_cases h : e = d
  · subst h; simp [hd]
  · rw [if_neg h]
    simp only [Array.getD_eq_getD_getElem?]
    rw [Array.getElem?_setIfInBounds_ne (by omega)]
theorem size_put (a : Act) (d : Option Nat) (v : Value) : (a.put d v).tmps.size = a.tmps.size := by cases d <;> simp [Act.put]
end

end Go.Proofs.Yteoodgcpkgfomaa
