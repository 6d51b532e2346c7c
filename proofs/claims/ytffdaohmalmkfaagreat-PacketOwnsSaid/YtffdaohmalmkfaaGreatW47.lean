/-
  Packet: what a collector holds, and laws of the walk that Add needs.
-/
import Derived.Test.YtffdaohmalmkfaaGreatW25
import Derived.Test.YtffdaohmalmkfaaGreatW30
import Derived.Test.YtffdaohmalmkfaaGreatW46
set_option linter.unusedSimpArgs false
set_option linter.unusedVariables false
namespace Go.Proofs.YtffdaohmalmkfaaGreat
open Go.RowKit
set_option linter.unusedVariables false

section
variable {P : Program}
theorem wpList_build_is {ops : Array Oper} {rest : List Oper} {o : Oper} {a : Act} {w : World} {Q : Exit → Act → World → Prop} (hg : o.guard = none) (t : TypeId) (parts : Array (Nat × Operand)) (ho : o.op = .build t parts)
    (ps : List (Nat × Value)) (hps : (parts.map fun (i, x) => (i, a.eval x)).toList = ps) (cells : Array Value) (hb : P.built t ps = some cells)
    (h : wpList P ops Q rest (a.put o.dst (.agg cells)) w) : wpList P ops Q (o :: rest) a w :=
  wpList_build hg t parts ho (by rw [hps, hb]; rfl) (by rw [hps, hb]; exact h)
theorem wpList_lookup_run {ops : Array Oper} {rest : List Oper} {o : Oper} {a : Act} {w : World} {Q : Exit → Act → World → Prop} (hg : o.guard = none) (t : TypeId) (m x : Operand) (c : Bool) (ho : o.op = .lookup t m x c)
    (m0 x0 v : Value) (hm : a.eval m = m0) (hx : a.eval x = x0) (hrun : (Instr.lookup t m0 x0 c).run P w = .ok v w)
    (h : wpList P ops Q rest (a.put o.dst v) w) : wpList P ops Q (o :: rest) a w := by
  refine wpList_plain hg fun K hK => ?_
  unfold Oper.wp execOp
  simp only [ho, hm, hx, Sem.run_bind, Sem.run_pure, Result.andThen_ok, hrun]
  exact hK _ _ h
theorem yieldsIf_lookup {ops : Array Oper} {S : World → Prop} {op : Oper} {a : Act} (hw : Region.wanted op (yielded ops a.tmps) = true) (t : TypeId) (m x : Operand) (c : Bool) (ho : op.op = .lookup t m x c)
    (m0 x0 v : Value) (hm : a.eval m = m0) (hx : a.eval x = x0) (hrun : ∀ w, S w → (Instr.lookup t m0 x0 c).run P w = .ok v w) : YieldsIf P ops S op v a :=
  .inl ⟨hw, fun w hS => by
    unfold execOp
    simp only [ho, hm, hx, Sem.run_bind, Sem.run_pure, Result.andThen_ok, hrun w hS]⟩
theorem wp_mapUpdate_run {o : Oper} {a : Act} {w w' : World} {K : Act → World → Prop} {Q : Exit → Act → World → Prop} (t : TypeId) (m x y : Operand) (ho : o.op = .mapUpdate t m x y) (hd : o.dst = none)
    (m0 x0 y0 : Value) (hm : a.eval m = m0) (hx : a.eval x = x0) (hy : a.eval y = y0) (hrun : (Instr.mapUpdate t m0 x0 y0).run P w = .ok () w')
    (h : K a w') : o.wp P a w K Q := by
  have h' : K (a.put o.dst undef) w' := by rw [hd]; exact h
  unfold Oper.wp execOp
  simp only [ho, hm, hx, hy, Sem.run_bind, Sem.run_pure, Result.andThen_ok, hrun]
  exact h'
theorem yieldsIf_len {ops : Array Oper} {S : World → Prop} {op : Oper} {a : Act} (hw : Region.wanted op (yielded ops a.tmps) = true) (t : TypeId) (x : Operand) (ho : op.op = .call { callee := .builtin .len, args := #[x], argTypes := #[t] })
    (x0 v : Value) (hx : a.eval x = x0) (hrun : ∀ w, S w → (Builtin.len_ #[t] op.type #[x0]).run P w = .ok v w) : YieldsIf P ops S op v a :=
  .inl ⟨hw, fun w hS => by
    unfold execOp
    simp only [ho, resolve, invoke, builtin, Sem.run_bind, Sem.run_pure, Result.andThen_ok, List.map_toArray, List.map_cons, List.map_nil, hx, hrun w hS]⟩
theorem results_row_tmp {fn : Func} {q p : Tmp} {ty : TypeId} (h : fn.results = #[.cell p ty, .tmp q]) (tmps : Array Value) (w : World) (g : Nat) (t : TypeId) (cs : Array Value) (fr : Nat × Nat) (d : TypeDesc) {x : Value}
    (hq : tmps.getD q undef = x) (hp : tmps.getD p undef = .pointer (some ⟨g, 0, none⟩)) (hg : w.heap[g]? = some (.cells cs t fr))
    (hu : P.underlying ty = some d) (hd : (match d with | .struct _ | .array _ _ => true | _ => false) = true) (hi : (P.info? ty).map (·.size) = some cs.size) :
    (results fn tmps).run P w = .ok (.tuple #[.agg cs, x]) w := by
  have hp' : tmps[p]?.getD undef = .pointer (some ⟨g, 0, none⟩) := by simpa using hp
  have hq' : tmps[q]?.getD undef = x := by simpa using hq
  simp [results, h, hp', hq', asAddr, run_loadVar_row w g t ty cs fr d hg hu hd hi]
end

theorem built_clt (x : Dl) (k : Value) (b : Nat) (hx : x.part = 0) : Tryz.prog.built 142 [(0, .bool true), (1, .agg (dltC x k (.slice none 0 0))), (2, .map (some b))] = some (cltC x k (.map (some b)) false) := by
  obtain ⟨dev, rnd, frm, too, kept, dec, prt, pts, eds⟩ := x
  kernel_rfl
theorem built_msg : Tryz.prog.built 36 [] = some dltZ := by kernel_rfl
theorem clt_one (x : Dl) (k pm : Value) (d : Bool) (hk : k.oneCell' = true) (hp : pm.oneCell' = true) : (cltC x k pm d).all (·.oneCell') = true := by
  unfold cltC
  simp [hk, hp]
  simp [Value.oneCell']
theorem size_clt (x : Dl) (k pm : Value) (d : Bool) : (Tryz.prog.info? 142).map (·.size) = some (cltC x k pm d).size := by
  have h : (Tryz.prog.info? 142).map (·.size) = some 34 := by kernel_rfl
  exact h

/-! What is read without the blocks of S, across a change of S. -/
section
variable {S S' : Nat → Bool} {R : Nat → Prop} {w w' : World}
theorem IIn.keep2 {v : Value} {xs : List Int} (h : IIn (erase S w) w.heap.size v xs) (hk : Kept R w w') (hR : ∀ k, R k → S k = true) (hS : ∀ k, k < w.heap.size → S' k = S k) : IIn (erase S' w') w'.heap.size v xs :=
  IIn.old ((erase_kept hk hR hS).old (B := w.heap.size) (by rw [erase_size]; exact Nat.le_refl _) (fun _ _ h => h)) hk.size h
theorem EdsIn.keep2 {v : Value} {xs : List Ed} (h : EdsIn (erase S w) w.heap.size v xs) (hk : Kept R w w') (hR : ∀ k, R k → S k = true) (hS : ∀ k, k < w.heap.size → S' k = S k) : EdsIn (erase S' w') w'.heap.size v xs :=
  EdsIn.old ((erase_kept hk hR hS).old (B := w.heap.size) (by rw [erase_size]; exact Nat.le_refl _) (fun _ _ h => h)) hk.size h
theorem IIn.plain {v : Value} {xs : List Int} (h : IIn (erase S w) w.heap.size v xs) : IIn w w.heap.size v xs := h.sub0 (erase_sub S w)
theorem EdsIn.plain {v : Value} {xs : List Ed} (h : EdsIn (erase S w) w.heap.size v xs) : EdsIn w w.heap.size v xs := h.sub0 (erase_sub S w)
end

/-- A collector that has gathered the parts es of the delta x (x.parts: how many there are). S: the blocks that are written. -/
structure ColIs (S : Nat → Bool) (w : World) (C b : Nat) (x : Dl) (es : List (List Ed)) : Prop where
  blk : ∃ kd, Blk w C 142 (cltC x kd (.map (some b)) false) ∧ IIn (erase S w) w.heap.size kd x.kept
  map : ∃ vs : List Value, MapIs w b vs ∧ vs.length = es.length ∧ ∀ (i : Nat) (v : Value) (e : List Ed), vs[i]? = some v → es[i]? = some e → EdsIn (erase S w) w.heap.size v e
  SC : S C = true
  Sb : S b = true
  ne : C ≠ b
  lt : ∀ k, S k = true → k < w.heap.size
theorem ColIs.at2 {S S' : Nat → Bool} {R : Nat → Prop} {w w' : World} {C b : Nat} {x : Dl} {es : List (List Ed)} (h : ColIs S w C b x es) (hk : Kept R w w') (hR : ∀ k, R k → S k = true) (hC : ¬ R C) (hb : ¬ R b) (hS : ∀ k, k < w.heap.size → S' k = S k) (hlt : ∀ k, S' k = true → k < w'.heap.size) : ColIs S' w' C b x es := by
  obtain ⟨kd, h1, h2⟩ := h.blk
  obtain ⟨vs, h3, h4, h5⟩ := h.map
  exact ⟨⟨kd, h1.kept hk hC, h2.keep2 hk hR hS⟩, ⟨vs, h3.kept hk hb, h4, fun i v e a b => (h5 i v e a b).keep2 hk hR hS⟩, by rw [hS C h1.lt]; exact h.SC, by rw [hS b h3.lt]; exact h.Sb, h.ne, hlt⟩
theorem ColIs.keep {S : Nat → Bool} {R : Nat → Prop} {w w' : World} {C b : Nat} {x : Dl} {es : List (List Ed)} (h : ColIs S w C b x es) (hk : Kept R w w') (hR : ∀ k, R k → S k = true) (hC : ¬ R C) (hb : ¬ R b) : ColIs S w' C b x es :=
  h.at2 hk hR hC hb (fun _ _ => rfl) (fun k hk' => Nat.lt_of_lt_of_le (h.lt k hk') hk.size)
theorem ColIs.keep0 {S : Nat → Bool} {w w' : World} {C b : Nat} {x : Dl} {es : List (List Ed)} (h : ColIs S w C b x es) (hk : Kept Kno w w') : ColIs S w' C b x es := h.keep hk (fun _ h => h.elim) (fun h => h) (fun h => h)

/-! A whole list appended to a list under way. -/
theorem AtL.qs {α : Type} {w : World} {sz : Nat} {Q : α → List Value → Prop} : ∀ {xs : List α} {g o : Nat}, AtL w sz Q xs g o → ∃ qs : List (α × List Value), qs.map (·.1) = xs ∧ (∀ q ∈ qs, q.2.length = sz ∧ Q q.1 q.2) ∧ ∀ (i : Nat) (q : α × List Value), qs[i]? = some q → CellsAt w g (o + i * sz) q.2
  | [], _, _, _ => ⟨[], rfl, by simp, by simp⟩
  | x :: xs, g, o, h => by
    obtain ⟨cs, h1, h2, h3⟩ := h 0 x rfl
    have hd := h.drop 1
    rw [List.drop_one, List.tail_cons, Nat.one_mul] at hd
    obtain ⟨qs, h4, h5, h6⟩ := AtL.qs hd
    refine ⟨(x, cs) :: qs, by simp [h4], fun q hq => ?_, fun i q hi => ?_⟩
    · rcases List.mem_cons.1 hq with rfl | hq
      · exact ⟨h1, h2⟩
      · exact h5 q hq
    · cases i with
      | zero =>
        simp only [List.getElem?_cons_zero, Option.some.injEq] at hi
        subst hi
        exact h3
      | succ i =>
        have := h6 i q (by simpa using hi)
        rw [show o + (i + 1) * sz = o + sz + i * sz by rw [Nat.add_mul, Nat.one_mul]; omega]
        exact this
theorem flat_at {α : Type} {sz : Nat} {qs : List (α × List Value)} (h : ∀ q ∈ qs, q.2.length = sz) (hsz : 0 < sz) {j : Nat} {u : Value} (hj : (qs.map (·.2)).flatten[j]? = some u) : ∃ q, qs[j / sz]? = some q ∧ q.2[j % sz]? = some u := by
  have hlt : j < qs.length * sz := by
    obtain ⟨h1, -⟩ := List.getElem?_eq_some_iff.1 hj
    rwa [flat_len h] at h1
  have hq : j / sz < qs.length := (Nat.div_lt_iff_lt_mul hsz).2 hlt
  refine ⟨qs[j / sz], List.getElem?_eq_getElem hq, ?_⟩
  have h2 := flat_get (i := j / sz) (m := j % sz) h (List.getElem?_eq_getElem hq) (Nat.mod_lt _ hsz)
  rw [← h2, ← hj]
  congr 1
  rw [Nat.mul_comm]
  exact Nat.div_add_mod j sz
/-- A list that is read, as what 'append(s, x...)' takes. -/
theorem LyIn.rd {α : Type} {w : World} {B sz n : Nat} {v : Value} {Q : α → List Value → Prop} {xs : List α} (h : LyIn B v n (AtL w sz Q xs)) (hn : n = xs.length) (hsz : 0 < sz) :
    ∃ qs : List (α × List Value), qs.map (·.1) = xs ∧ (∀ q ∈ qs, q.2.length = sz ∧ Q q.1 q.2) ∧ Rd w sz v n (qs.map (·.2)).flatten := by
  subst hn
  obtain ⟨A, cap, rfl, h2, h3, h4, h5, h6⟩ := h
  by_cases h0 : 0 < xs.length
  · obtain ⟨g, o, rfl, hg, hat⟩ := h6 h0
    obtain ⟨qs, h7, h8, h9⟩ := AtL.qs hat
    refine ⟨qs, h7, h8, _, cap, rfl, h2, by rw [flat_len (fun q hq => (h8 q hq).1), ← h7, List.length_map], (fun h => by cases h), fun ad hA j u hj => ?_⟩
    cases hA
    obtain ⟨q, hq, hu⟩ := flat_at (fun q hq => (h8 q hq).1) hsz hj
    have := h9 _ _ hq (j % sz) u hu
    rw [add_lit0]
    rw [show o + j / sz * sz + j % sz = o + j by rw [Nat.add_assoc, Nat.mul_comm, Nat.div_add_mod]] at this
    exact this
  · have hx : xs = [] := List.eq_nil_of_length_eq_zero (by omega)
    subst hx
    refine ⟨[], rfl, by simp, A, cap, rfl, h2, by simp, fun hA => ⟨rfl, h4 hA⟩, fun ad hA j u hj => by simp at hj⟩
theorem LOut.pushAll {α : Type} {QF : World → Nat → α → List Value → Prop} (C : Clo QF) {t : TypeId} {sz base : Nat} {S : Nat → Bool} {w w7 : World} {A A2 : Option Addr} {cap c2 : Nat} {qs ps : List (α × List Value)} (h : LOut QF t sz S base w A cap qs)
    (hps : ∀ p ∈ ps, p.2.length = sz ∧ QF (erase (orow S (.slice A qs.length cap)) w) w.heap.size p.1 p.2)
    (hg2 : w.grownBy w7 (Value.slice A qs.length cap).ownBlock) (hown2 : w7.ownsRow base t sz (.slice A2 (qs.length + ps.length) c2) (qs.length + ps.length) ((qs.map (·.2)).flatten ++ (ps.map (·.2)).flatten))
    (hat2 : (Value.slice A2 (qs.length + ps.length) c2).ownBlock = (Value.slice A qs.length cap).ownBlock ∨ (Value.slice A2 (qs.length + ps.length) c2).ownBlock = some w.heap.size) : LOut QF t sz S base w7 A2 c2 (qs ++ ps) := by
  have hl : (qs ++ ps).length = qs.length + ps.length := by simp
  refine ⟨⟨by rw [hl]; simpa using hown2, fun q hq => ?_⟩, fun q hq => ?_⟩
  · rcases List.mem_append.1 hq with hq | hq
    · exact h.own.2 q hq
    · exact (hps q hq).1
  · rw [hl]
    rcases List.mem_append.1 hq with hq | hq
    · exact C.app (h.q q hq) hg2 hat2
    · exact C.app (hps q hq).2 hg2 hat2
theorem flat_one {α : Type} {sz : Nat} {Q : α → List Value → Prop} {qs : List (α × List Value)} (h : ∀ q ∈ qs, q.2.length = sz ∧ Q q.1 q.2) (hQ : ∀ x cs, Q x cs → ∀ u ∈ cs, u.oneCell' = true) : ∀ u ∈ (qs.map (·.2)).flatten, u.oneCell' = true := fun u hu => by
  obtain ⟨cs, hcs, hu⟩ := List.mem_flatten.1 hu
  obtain ⟨q, hq, rfl⟩ := List.mem_map.1 hcs
  exact hQ _ _ (h q hq).2 u hu
theorem ed_one {w : World} {B : Nat} {x : Ed} {cs : List Value} (h : EdQ w B x cs) : ∀ u ∈ cs, u.oneCell' = true := by
  obtain ⟨k, c, v, rfl, h1, h2, h3⟩ := h
  obtain ⟨A1, c1, rfl⟩ := SlIn.form h1
  obtain ⟨A2, c2, rfl⟩ := SlIn.form h2
  obtain ⟨A3, c3, rfl⟩ := SlIn.form h3
  intro u hu
  simp only [List.mem_cons, List.not_mem_nil, or_false] at hu
  rcases hu with rfl | rfl | rfl | rfl | rfl <;> rfl

end Go.Proofs.YtffdaohmalmkfaaGreat
