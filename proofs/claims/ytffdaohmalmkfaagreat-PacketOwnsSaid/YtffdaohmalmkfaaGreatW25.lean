/-
  Contracts and plain laws that the claim's theorem rests on.
-/
import Derived.Test.YtffdaohmalmkfaaGreatW14
import Derived.Test.YtffdaohmalmkfaaGreatW18
import Derived.Test.YtffdaohmalmkfaaGreatW23
import Derived.Test.YtffdaohmalmkfaaGreatW24
import Derived.Maps.OwnSet
set_option linter.unusedSimpArgs false
set_option linter.unusedVariables false
/-
  PacketOwns: lists of any elements in memory. No program in sight.
-/
namespace Go.Proofs.YtffdaohmalmkfaaGreat
open Go.RowKit
set_option linter.unusedVariables false

/-- xs lies in block g from o on, each element as sz cells that Q knows. -/
def AtL {α : Type} (w : World) (sz : Nat) (Q : α → List Value → Prop) (xs : List α) (g o : Nat) : Prop :=
  ∀ (i : Nat) (x : α), xs[i]? = some x → ∃ cs : List Value, cs.length = sz ∧ Q x cs ∧ CellsAt w g (o + i * sz) cs
section
variable {α : Type} {w w' : World} {B B' sz : Nat} {Q Q' : α → List Value → Prop} {xs : List α} {g o : Nat}
theorem AtL.old (h : AtL w sz Q xs g o) (hg : g < B) (ho : Old B w w') (hQ : ∀ x cs, x ∈ xs → Q x cs → Q' x cs) : AtL w' sz Q' xs g o := fun i x hx => by
  obtain ⟨cs, h1, h2, h3⟩ := h i x hx
  exact ⟨cs, h1, hQ _ _ (List.mem_of_getElem? hx) h2, h3.old hg ho⟩
theorem AtL.sub0 (h : AtL w sz Q xs g o) (hc : Sub0 w w') (hQ : ∀ x cs, x ∈ xs → Q x cs → Q' x cs) : AtL w' sz Q' xs g o := fun i x hx => by
  obtain ⟨cs, h1, h2, h3⟩ := h i x hx
  exact ⟨cs, h1, hQ _ _ (List.mem_of_getElem? hx) h2, CellsAt.sub0 hc h3⟩
theorem AtL.drop (h : AtL w sz Q xs g o) (k : Nat) : AtL w sz Q (xs.drop k) g (o + k * sz) := fun i x hx => by
  rw [List.getElem?_drop] at hx
  obtain ⟨cs, h1, h2, h3⟩ := h (k + i) x hx
  refine ⟨cs, h1, h2, ?_⟩
  rw [Nat.add_mul] at h3
  rw [Nat.add_assoc]
  exact h3
theorem AtL.take (h : AtL w sz Q xs g o) (k : Nat) : AtL w sz Q (xs.take k) g o := fun i x hx => by
  rw [List.getElem?_take] at hx
  split at hx
  · exact h i x hx
  · cases hx
theorem LyIn.nil {P : Nat → Nat → Prop} : LyIn B (.slice none 0 0) 0 P := ⟨none, 0, rfl, Nat.le_refl _, Nat.zero_le _, fun _ => rfl, fun k hk => by simp [Value.ownBlock] at hk, fun h => absurd h (Nat.lt_irrefl _)⟩
theorem SlIn.nil : SlIn w B sz (.slice none 0 0) 0 [] := ⟨none, 0, rfl, Nat.le_refl _, Nat.zero_le _, by simp, fun _ => rfl, fun k hk => by simp [Value.ownBlock] at hk, fun h => absurd h (Nat.lt_irrefl _)⟩
theorem LyIn.form {n : Nat} {s : Value} {P : Nat → Nat → Prop} (h : LyIn B s n P) : ∃ A cap, s = .slice A n cap := by obtain ⟨A, cap, h1, -⟩ := h; exact ⟨A, cap, h1⟩
theorem SlIn.form {n : Nat} {s : Value} {cs : List Value} (h : SlIn w B sz s n cs) : ∃ A cap, s = .slice A n cap := by obtain ⟨A, cap, h1, -⟩ := h; exact ⟨A, cap, h1⟩
end

/-- Elements in a row of one's own. -/
def OwnL {α : Type} (w : World) (base : Nat) (t : TypeId) (sz : Nat) (v : Value) (qs : List (α × List Value)) : Prop :=
  w.ownsRow base t sz v qs.length (qs.map (·.2)).flatten ∧ ∀ q ∈ qs, q.2.length = sz
section
variable {α : Type} {w w' : World} {base sz : Nat} {t : TypeId} {v : Value} {qs : List (α × List Value)}
theorem flat_len : ∀ {qs : List (α × List Value)}, (∀ q ∈ qs, q.2.length = sz) → (qs.map (·.2)).flatten.length = qs.length * sz
  | [], _ => by simp
  | q :: qs, h => by
    have h1 := h q (by simp)
    have h2 := flat_len (qs := qs) (fun x hx => h x (by simp [hx]))
    simp only [List.map_cons, List.flatten_cons, List.length_append, List.length_cons, h1, h2, Nat.add_mul, Nat.one_mul]
    omega
theorem flat_get : ∀ {qs : List (α × List Value)} {i m : Nat} {q : α × List Value}, (∀ q ∈ qs, q.2.length = sz) → qs[i]? = some q → m < sz → (qs.map (·.2)).flatten[i * sz + m]? = q.2[m]?
  | [], i, m, q, _, hi, _ => by simp at hi
  | p :: qs, 0, m, q, h, hi, hm => by
    simp only [List.getElem?_cons_zero, Option.some.injEq] at hi
    subst hi
    simp only [List.map_cons, List.flatten_cons, Nat.zero_mul, Nat.zero_add]
    rw [List.getElem?_append_left (by rw [h p (by simp)]; exact hm)]
  | p :: qs, i + 1, m, q, h, hi, hm => by
    have h1 := h p (by simp)
    simp only [List.map_cons, List.flatten_cons]
    rw [List.getElem?_append_right (by rw [h1, Nat.add_mul, Nat.one_mul]; omega), h1, show (i + 1) * sz + m - sz = i * sz + m by rw [Nat.add_mul, Nat.one_mul]; omega]
    exact flat_get (fun x hx => h x (by simp [hx])) (by simpa using hi) hm
theorem OwnL.nil : OwnL w base t sz (.slice none 0 0) ([] : List (α × List Value)) := ⟨World.ownsRow_nil _ _ _ _, fun q h => by cases h⟩
theorem OwnL.push {A : Option Addr} {cap : Nat} {x : α} {cs : List Value} (h : ∀ q ∈ qs, q.2.length = sz) (hcs : cs.length = sz) (how : w.ownsRow base t sz (.slice A (qs.length + 1) cap) (qs.length + 1) ((qs.map (·.2)).flatten ++ cs)) : OwnL w base t sz (.slice A (qs.length + 1) cap) (qs ++ [(x, cs)]) := by
  refine ⟨by simpa using how, fun q hq => ?_⟩
  rcases List.mem_append.1 hq with hq | hq
  · exact h q hq
  · simp only [List.mem_singleton] at hq; subst hq; exact hcs
theorem OwnL.cells {g n cap : Nat} {i : Nat} {q : α × List Value} (h : OwnL w base t sz (.slice (some ⟨g, 0, none⟩) n cap) qs) (hi : qs[i]? = some q) : CellsAt w g (i * sz) q.2 := fun j u hj => by
  have hjs : j < sz := by
    obtain ⟨h1, -⟩ := List.getElem?_eq_some_iff.1 hj
    rwa [h.2 q (List.mem_of_getElem? hi)] at h1
  have h2 := flat_get h.2 hi hjs
  rw [hj] at h2
  have := World.ownsRow.cells h.1 (g := g) rfl (i * sz + j) u h2
  rwa [add_lit0, Nat.zero_add] at this
/-- A row of one's own as a list. -/
theorem OwnL.ly {S : Nat → Bool} {A : Option Addr} {cap n : Nat} {Q : α → List Value → Prop} (h : OwnL w base t sz (.slice A n cap) qs) (hn : n = qs.length) (hQ : ∀ q ∈ qs, Q q.1 q.2) (hS : ∀ k, base ≤ k → S k = false) :
    LyIn w.heap.size (.slice A n cap) n (AtL (erase S w) sz Q (qs.map (·.1))) := by
  subst hn
  have hlt : ∀ k, (Value.slice A qs.length cap).ownBlock = some k → base ≤ k ∧ k < w.heap.size := fun k hk => own_base h.1 hk
  rcases h.1.2 with ⟨he, h0⟩ | ⟨g, cap', cur, he, hbg, hblk, hle, hmax, hsz, htake⟩
  · simp only [Value.slice.injEq] at he
    obtain ⟨rfl, -, rfl⟩ := he
    exact ⟨none, 0, rfl, by omega, Nat.zero_le _, fun _ => rfl, fun k hk => (hlt k hk).2, fun h => by omega⟩
  · simp only [Value.slice.injEq] at he
    obtain ⟨rfl, -, rfl⟩ := he
    refine ⟨some ⟨g, 0, none⟩, cap, rfl, hle, hmax, fun h => (by cases h), fun k hk => (hlt k hk).2, fun _ => ⟨g, 0, rfl, (hlt g rfl).2, fun i x hx => ?_⟩⟩
    rw [List.getElem?_map] at hx
    obtain ⟨q, hq, hqx⟩ := Option.map_eq_some_iff.1 hx
    subst hqx
    refine ⟨q.2, h.2 q (List.mem_of_getElem? hq), hQ q (List.mem_of_getElem? hq), fun j u hj => ?_⟩
    rw [Nat.zero_add, World.cell?_of_block (erase_get (S := S) (w := w) (hS g hbg))]
    exact h.cells hq j u hj
/-- A row of one's own as cells. -/
theorem own_slin {S : Nat → Bool} {A : Option Addr} {cap n : Nat} {cs : List Value} (h : w.ownsRow base t sz (.slice A n cap) n cs) (hS : ∀ k, base ≤ k → S k = false) : SlIn (erase S w) w.heap.size sz (.slice A n cap) n cs := by
  have hlt : ∀ k, (Value.slice A n cap).ownBlock = some k → base ≤ k ∧ k < w.heap.size := fun k hk => own_base h hk
  have hl := h.1
  rcases h.2 with ⟨he, h0⟩ | ⟨g, cap', cur, he, hbg, hblk, hle, hmax, hsz, htake⟩
  · simp only [Value.slice.injEq] at he
    obtain ⟨rfl, -, rfl⟩ := he
    exact ⟨none, 0, rfl, by omega, Nat.zero_le _, hl, fun _ => rfl, fun k hk => (hlt k hk).2, fun h => by omega⟩
  · simp only [Value.slice.injEq] at he
    obtain ⟨rfl, -, rfl⟩ := he
    refine ⟨some ⟨g, 0, none⟩, cap, rfl, hle, hmax, hl, fun h => (by cases h), fun k hk => (hlt k hk).2, fun _ => ⟨g, 0, rfl, (hlt g rfl).2, fun j u hj => ?_⟩⟩
    rw [World.cell?_of_block (erase_get (S := S) (w := w) (hS g hbg))]
    have h2 := World.ownsRow.cells h (g := g) rfl j u hj
    rw [add_lit0] at h2
    exact h2
end
def S0 : Nat → Bool := fun _ => false
theorem erase_S0 (w : World) : Sub0 (erase S0 w) w := erase_sub _ _
theorem own_slin0 {w : World} {base sz n cap : Nat} {t : TypeId} {A : Option Addr} {cs : List Value} (h : w.ownsRow base t sz (.slice A n cap) n cs) : SlIn w w.heap.size sz (.slice A n cap) n cs := SlIn.sub0 (erase_S0 w) (own_slin (S := S0) h (fun _ _ => rfl))
theorem OwnL.ly0 {α : Type} {w : World} {base sz n cap : Nat} {t : TypeId} {qs : List (α × List Value)} {A : Option Addr} {Q : α → List Value → Prop} (h : OwnL w base t sz (.slice A n cap) qs) (hn : n = qs.length) (hQ : ∀ q ∈ qs, Q q.1 q.2) : LyIn w.heap.size (.slice A n cap) n (AtL w sz Q (qs.map (·.1))) :=
  (h.ly (S := S0) hn hQ (fun _ _ => rfl)).mono (Nat.le_refl _) (fun g o _ h => h.sub0 (erase_S0 w) (fun _ _ _ h => h))

/-! Rows of rows: a table's rows, a state's tables. -/
def RowQ (w : World) (B : Nat) (r : List Val) (cs : List Value) : Prop := ∃ s, cs = [s] ∧ SlIn w B 3 s r.length (rowC r)
/-- A table's rows. -/
def RowsIn (w : World) (B : Nat) (s : Value) (rows : List (List Val)) : Prop := LyIn B s rows.length (AtL w 1 (RowQ w B) rows)
theorem RowQ.old {w w' : World} {B B' : Nat} (ho : Old B w w') (hB : B ≤ B') {r : List Val} {cs : List Value} (h : RowQ w B r cs) : RowQ w' B' r cs := by
  obtain ⟨s, h1, h2⟩ := h
  exact ⟨s, h1, h2.old ho hB⟩
theorem RowQ.sub0 {w w' : World} {B : Nat} (hc : Sub0 w w') {r : List Val} {cs : List Value} (h : RowQ w B r cs) : RowQ w' B r cs := by
  obtain ⟨s, h1, h2⟩ := h
  exact ⟨s, h1, SlIn.sub0 hc h2⟩
theorem RowsIn.old {w w' : World} {B B' : Nat} (ho : Old B w w') (hB : B ≤ B') {s : Value} {rows : List (List Val)} (h : RowsIn w B s rows) : RowsIn w' B' s rows :=
  h.mono hB (fun g o hg h => h.old hg ho (fun _ _ _ h => h.old ho hB))
theorem RowsIn.sub0 {w w' : World} {B : Nat} (hc : Sub0 w w') {s : Value} {rows : List (List Val)} (h : RowsIn w B s rows) : RowsIn w' B s rows :=
  h.mono (Nat.le_refl _) (fun g o hg h => h.sub0 hc (fun _ _ _ h => h.sub0 hc))
theorem RowsIn.nil {w : World} {B : Nat} : RowsIn w B (.slice none 0 0) [] := LyIn.nil

end Go.Proofs.YtffdaohmalmkfaaGreat
/-
  PacketOwns: states in memory, and what a caller of the case knows. No program in sight.
-/
namespace Go.Proofs.YtffdaohmalmkfaaGreat
open Go.RowKit
set_option linter.unusedVariables false

/-- What fits into a table. -/
def RowFit (t : Tbl) (r : List Val) : Prop := r.length = t.cols.length ∧ ∀ x ∈ r, ValOk x
/-- The rows of a state fit the tables; no table has more than L of them. -/
def TabsOk (ts : List Tbl) (L : Nat) (tabs : List (List (List Val))) : Prop := tabs.length = ts.length ∧ ∀ (i : Nat) (t : Tbl) (rows : List (List Val)), ts[i]? = some t → tabs[i]? = some rows → rows.length ≤ L ∧ ∀ r ∈ rows, RowFit t r
theorem TabsOk.mono {ts : List Tbl} {L L' : Nat} {tabs : List (List (List Val))} (h : TabsOk ts L tabs) (hL : L ≤ L') : TabsOk ts L' tabs := ⟨h.1, fun i t rows a b => ⟨Nat.le_trans (h.2 i t rows a b).1 hL, (h.2 i t rows a b).2⟩⟩
theorem TabsOk.set {ts : List Tbl} {L : Nat} {tabs : List (List (List Val))} (h : TabsOk ts L tabs) {j : Nat} {t : Tbl} {rows : List (List Val)} (ht : ts[j]? = some t) (hl : rows.length ≤ L) (hr : ∀ r ∈ rows, RowFit t r) : TabsOk ts L (tabs.set j rows) := by
  refine ⟨by rw [List.length_set]; exact h.1, fun i t' rows' h1 h2 => ?_⟩
  rw [List.getElem?_set] at h2
  split at h2
  · rename_i e
    subst e
    rw [ht] at h1
    cases h1
    split at h2
    · cases h2
      exact ⟨hl, hr⟩
    · cases h2
  · exact h.2 i t' rows' h1 h2

def RowsQ (w : World) (B : Nat) (rows : List (List Val)) (cs : List Value) : Prop := ∃ s, cs = [s] ∧ RowsIn w B s rows
theorem RowsQ.old {w w' : World} {B B' : Nat} (ho : Old B w w') (hB : B ≤ B') {r : List (List Val)} {cs : List Value} (h : RowsQ w B r cs) : RowsQ w' B' r cs := by
  obtain ⟨s, h1, h2⟩ := h
  exact ⟨s, h1, h2.old ho hB⟩
theorem RowsQ.sub0 {w w' : World} {B : Nat} (hc : Sub0 w w') {r : List (List Val)} {cs : List Value} (h : RowsQ w B r cs) : RowsQ w' B r cs := by
  obtain ⟨s, h1, h2⟩ := h
  exact ⟨s, h1, h2.sub0 hc⟩
/-- A state that is only read. -/
def StR (w : World) (B : Nat) (v : Value) (tabs : List (List (List Val))) : Prop := ∃ s, v = .agg #[s] ∧ LyIn B s tabs.length (AtL w 1 (RowsQ w B) tabs)
theorem StR.old {w w' : World} {B B' : Nat} (ho : Old B w w') (hB : B ≤ B') {v : Value} {tabs : List (List (List Val))} (h : StR w B v tabs) : StR w' B' v tabs := by
  obtain ⟨s, h1, h2⟩ := h
  exact ⟨s, h1, h2.mono hB (fun g o hg h => h.old hg ho (fun _ _ _ h => h.old ho hB))⟩
/-- A state whose tables lie in the row T, which is written; S are the blocks that are written. -/
def StAt (S : Nat → Bool) (w : World) (T n cap : Nat) (tabs : List (List (List Val))) : Prop :=
  ∃ cs : Array Value, Blk w T 171 cs ∧ n = tabs.length ∧ 0 < n ∧ n ≤ cap ∧ cap ≤ maxLen ∧ S T = true ∧ ∀ (i : Nat) (rows : List (List Val)), tabs[i]? = some rows → ∃ s, cs[i]? = some s ∧ RowsIn (erase S w) w.heap.size s rows
section
variable {S : Nat → Bool} {w w' : World} {T n cap : Nat} {tabs : List (List (List Val))}
theorem StAt.read (h : StAt S w T n cap tabs) : StR w w.heap.size (.agg #[.slice (some ⟨T, 0, none⟩) n cap]) tabs := by
  obtain ⟨cs, h1, rfl, h0, h3, h4, h5, h6⟩ := h
  refine ⟨_, rfl, some ⟨T, 0, none⟩, cap, rfl, h3, h4, fun h => (by cases h), fun k hk => ?_, fun _ => ⟨T, 0, rfl, h1.lt, fun i x hx => ?_⟩⟩
  · simp only [Value.ownBlock, Option.some.injEq] at hk
    subst hk
    exact h1.lt
  · obtain ⟨s, hs, hr⟩ := h6 i x hx
    refine ⟨[s], rfl, ⟨s, rfl, hr.sub0 (erase_sub S w)⟩, fun j u hj => ?_⟩
    match j, hj with
    | 0, hj =>
      simp only [List.getElem?_cons_zero, Option.some.injEq] at hj
      subst hj
      exact (Blk.cell h1 (0 + i * 1 + 0)).trans (by simpa using hs)
    | j + 1, hj => simp at hj
/-- The state is as it was when only blocks of S but not T have changed. -/
theorem StAt.kept {R : Nat → Prop} (h : StAt S w T n cap tabs) (hk : Kept R w w') (hR : ∀ k, R k → S k = true) (hT : ¬ R T) : StAt S w' T n cap tabs := by
  obtain ⟨cs, h1, h2, h0, h3, h4, h5, h6⟩ := h
  refine ⟨cs, h1.kept hk hT, h2, h0, h3, h4, h5, fun i rows hi => ?_⟩
  obtain ⟨s, hs, hr⟩ := h6 i rows hi
  exact ⟨s, hs, hr.old ((erase_kept hk hR (fun _ _ => rfl)).old (B := w.heap.size) (by rw [erase_size]; exact Nat.le_refl _) (fun _ _ h => h)) hk.size⟩
/-- .. under one more block. -/
theorem StAt.more (h : StAt S w T n cap tabs) {R : Nat} (hR : w.heap.size ≤ R) : StAt (Go.Proofs.YtffdaohmalmkfaaGreat.more S R) w T n cap tabs := by
  obtain ⟨cs, h1, h2, h0, h3, h4, h5, h6⟩ := h
  refine ⟨cs, h1, h2, h0, h3, h4, more_le h5, fun i rows hi => ?_⟩
  obtain ⟨s, hs, hr⟩ := h6 i rows hi
  exact ⟨s, hs, hr.old (w' := erase (Go.Proofs.YtffdaohmalmkfaaGreat.more S R) w) (B' := w.heap.size) (fun k hk => by
    cases hsk : S k with
    | true => rw [erase_gone hsk hk, erase_gone (more_le hsk) hk]
    | false => rw [erase_get hsk, erase_get ((more_old (by omega)).trans hsk)]) (Nat.le_refl _)⟩
end

end Go.Proofs.YtffdaohmalmkfaaGreat
/-
  PacketOwns: the case's trees, predicates.
-/
namespace Go.Proofs.YtffdaohmalmkfaaGreat
open Go.RowKit
set_option linter.unusedVariables false

theorem ctree_any (K : Nat) (v : Value) (l : List UInt8) (us vs : Value) (ks ps : List Int) (B0 : Nat) : ∀ (d : Nat), d ≤ 5 → ∀ (S : Nat → Bool) (w : World), TrPre S K v l us vs ks ps B0 w → Calls Tryz.prog 121 #[.pointer (some ⟨K, 0, none⟩), us, vs, .int .i64 d] w (TreeOk S K v l w)
  | 0, hd, S, w, h => ctree_step S K v l us vs ks ps B0 0 hd (fun h1 => absurd h1 (by decide)) w h
  | d + 1, hd, S, w, h => ctree_step S K v l us vs ks ps B0 (d + 1) hd (fun _ S w h => ctree_any K v l us vs ks ps B0 d (by omega) S w h) w h

theorem SlIn.wide {w : World} {B B' sz n : Nat} {s : Value} {xs : List Value} (h : SlIn w B sz s n xs) (hB : B ≤ B') : SlIn w B' sz s n xs := h.old (fun _ _ => rfl) hB

set_option maxRecDepth 100000 in
set_option maxHeartbeats 4000000 in
theorem cpredicate_any (S : Nat → Bool) (K : Nat) (v : Value) (l : List UInt8) (us vs : Value) (ks ps : List Int) (B0 d : Nat) (hd : d ≤ 5) (w : World) (h : TrPre S K v l us vs ks ps B0 w) :
    Calls Tryz.prog 60 #[.pointer (some ⟨K, 0, none⟩), us, vs, .int .i64 d] w (TreeOk S K v l w) := by
  obtain ⟨uA, un, uc, rfl⟩ : ∃ A n c, us = .slice A n c := by obtain ⟨A, c, h, -⟩ := h.u; exact ⟨_, _, _, h⟩
  obtain ⟨vA, vn, vc, rfl⟩ : ∃ A n c, vs = .slice A n c := by obtain ⟨A, c, h, -⟩ := h.p; exact ⟨_, _, _, h⟩
  have H := Lib.hid h
  clear h
  go_enter Tryz.func60, Tryz.ntmps60
  go_upto_region 1 with (fail)
  obtain ⟨w0, h0⟩ : ∃ w0, w.alloc (.cells prdZ.toArray 54) = w0 := ⟨_, rfl⟩
  have HR0 : Hid (Blk w0 w.heap.size 54 prdZ.toArray) := Lib.hid (by rw [← h0]; exact Blk.new _ _ _)
  have hk0 : Kept Kno w w0 := by rw [← h0]; exact (Kept.refl _ _).alloc _
  have hlt0 : w.heap.size < w0.heap.size := HR0.out.lt
  have HG0 : Hid (Goes K v l w w0) := Lib.hid (Goes.of0 H.out.c hk0)
  have HT0 := Lib.hid (H.out.more HG0.out hlt0)
  have hKw : K < w.heap.size := H.out.lt K H.out.SK
  have H0 : w.alloc (.cells #[.int .i64 0, .int .i64 0, .int .i64 0, .int .i64 0, .int .i64 0, .int .i64 0, .string ⟨#[]⟩, .int .i64 0, .int .i64 0, .int .i64 0, .int .i64 0, .string ⟨#[]⟩, .slice none 0 0] 54) = w0 := h0
  rw [H0]
  clear H0 h0 hk0
  have HC := Lib.hid (ctree_any K v l _ _ ks ps B0 d hd _ _ HT0.out)
  go_wp2_with fail
  refine HC.out.mono ?_
  rintro e w1 ⟨p, s, rfl, hp, hg1⟩
  obtain ⟨A, n, c, rfl⟩ := hp.form
  have HG1 : Hid (Goes K v l w w1) := Lib.hid (HG0.out.then_ hg1)
  have HR1 : Hid (Blk w1 w.heap.size 54 prdZ.toArray) := Lib.hid (HR0.out.kept hg1.2 (fun e => by unfold Kone at e; omega))
  have HT1 := Lib.hid (HT0.out.step hg1)
  have HP1 := Lib.hid hp
  obtain ⟨op, cmp, ⟨ok1, oi1, ⟨ova, ovb, ovs⟩⟩, ⟨zk, zi, ⟨za, zb, zs⟩⟩, args⟩ := p
  clear hp hg1 HC HG0 HR0 HT0
  simp only [Prd.v]
  go_upto_region 2 with (refine wpList_store_new rfl 54 (.tmp 9) (.tmp 14) rfl _ (prdL op cmp ⟨ok1, oi1, ⟨ova, ovb, ovs⟩⟩ ⟨zk, zi, ⟨za, zb, zs⟩⟩ (.slice A n c)).toArray rfl rfl (by kernel_rfl) rfl prdL_one ?_)
  simp only [Act.put]
  obtain ⟨w2, h2⟩ : ∃ w2, w1.alloc (.cells (prdL op cmp ⟨ok1, oi1, ⟨ova, ovb, ovs⟩⟩ ⟨zk, zi, ⟨za, zb, zs⟩⟩ (.slice A n c)).toArray 54) = w2 := ⟨_, rfl⟩
  rw [h2]
  have hk2 : Kept Kno w1 w2 := by rw [← h2]; exact (Kept.refl _ _).alloc _
  have HQ2 : Hid (Blk w2 w1.heap.size 54 (prdL op cmp ⟨ok1, oi1, ⟨ova, ovb, ovs⟩⟩ ⟨zk, zi, ⟨za, zb, zs⟩⟩ (.slice A n c)).toArray) := Lib.hid (by rw [← h2]; exact Blk.new _ _ _)
  have HG2 := Lib.hid (HG1.out.then0 hk2)
  have HR2 := Lib.hid (HR1.out.kept hk2 (fun h => h))
  have HT2 := Lib.hid (HT1.out.step0 hk2)
  have HP2 := Lib.hid (HP1.out.keep hk2 (fun k h => h.elim))
  have hTR : w.heap.size < w1.heap.size := HR1.out.lt
  clear h2 hk2 HG1 HR1 HT1 HP1
  generalize w1.heap.size = T at HQ2 hTR ⊢
  go_wp2_with (refine wpList_load_row rfl 54 (.tmp 9) rfl T rfl 54 _ (0, 0) _ HQ2.out Tryz.underlying54 rfl (by kernel_rfl) ?_)
  refine (ccheck_any (.slice uA un uc) (.slice vA vn vc) ks ps w2.heap.size (.mk op cmp ⟨ok1, oi1, ⟨ova, ovb, ovs⟩⟩ ⟨zk, zi, ⟨za, zb, zs⟩⟩ args) (.slice A n c) w2 (PIn.sub0 (erase_sub _ _) _ _ HP2.out) ((SlIn.sub0 (erase_sub _ _) HT2.out.u).wide HT2.out.B) ((SlIn.sub0 (erase_sub _ _) HT2.out.p).wide HT2.out.B) (Nat.le_refl _)).mono ?_
  rintro e w3 ⟨k, rfl, hk3⟩
  have HG3 := Lib.hid (HG2.out.then0 hk3)
  have HR3 := Lib.hid (HR2.out.kept hk3 (fun h => h))
  have HQ3 := Lib.hid (HQ2.out.kept hk3 (fun h => h))
  have HT3 := Lib.hid (HT2.out.step0 hk3)
  have HP3 := Lib.hid (HP2.out.keep hk3 (fun k h => h.elim))
  clear hk3 HG2 HR2 HQ2 HT2 HP2
  by_cases h2k : k = 2
  · subst h2k
    have HC := Lib.hid (ctree_any K v l _ _ ks ps B0 1 (by decide) _ _ HT3.out)
    go_wp2_with fail
    refine HC.out.mono ?_
    rintro e w4 ⟨p, s, rfl, hp, hg4⟩
    obtain ⟨A4, n4, c4, rfl⟩ := hp.form
    have HG4 := Lib.hid (HG3.out.then_ hg4)
    have HR4 : Hid (Blk w4 w.heap.size 54 prdZ.toArray) := Lib.hid (HR3.out.kept hg4.2 (fun e => by unfold Kone at e; omega))
    have HP4 := Lib.hid hp
    obtain ⟨op4, cmp4, ⟨ok4, oi4, ⟨ova4, ovb4, ovs4⟩⟩, ⟨zk4, zi4, ⟨za4, zb4, zs4⟩⟩, args4⟩ := p
    clear hp hg4 HC HG3 HR3 HT3 HP3
    simp only [Prd.v]
    go_wp2_with (refine wpList_store_row rfl 54 (.tmp 8) (.tmp 23) rfl w.heap.size (prdL op4 cmp4 ⟨ok4, oi4, ⟨ova4, ovb4, ovs4⟩⟩ ⟨zk4, zi4, ⟨za4, zb4, zs4⟩⟩ (.slice A4 n4 c4)).toArray rfl rfl 54 _ HR4.out (by kernel_rfl) rfl prdL_one ?_)
    simp only [Act.put]
    refine bodyPost_ret (v := .agg (prdL op4 cmp4 ⟨ok4, oi4, ⟨ova4, ovb4, ovs4⟩⟩ ⟨zk4, zi4, ⟨za4, zb4, zs4⟩⟩ (.slice A4 n4 c4)).toArray) ?_ rfl ⟨_, _, rfl, PIn.setRow HP4.out _, Goes.setRow' H.out.c HG4.out (Nat.le_refl _) _⟩
    exact results_cell_row rfl _ _ w.heap.size 54 _ (0, 0) _ rfl (HR4.out.setRow _) Tryz.underlying54 rfl (by kernel_rfl)
  · have h2b : (k == 2) = false := by rw [beq_eq_false_iff_ne]; exact h2k
    go_wp2_with (first
      | (refine wpList_load_row rfl 54 (.tmp 9) rfl T rfl 54 _ (0, 0) _ HQ3.out Tryz.underlying54 rfl (by kernel_rfl) ?_)
      | (refine wpList_store_row rfl 54 (.tmp 8) (.tmp 24) rfl w.heap.size _ rfl rfl 54 _ HR3.out (by kernel_rfl) rfl prdL_one ?_))
    simp only [Act.put]
    refine bodyPost_ret (v := .agg (prdL op cmp ⟨ok1, oi1, ⟨ova, ovb, ovs⟩⟩ ⟨zk, zi, ⟨za, zb, zs⟩⟩ (.slice A n c)).toArray) ?_ rfl ⟨_, _, rfl, PIn.setRow HP3.out _, Goes.setRow' H.out.c HG3.out (Nat.le_refl _) _⟩
    exact results_cell_row rfl _ _ w.heap.size 54 _ (0, 0) _ rfl (HR3.out.setRow _) Tryz.underlying54 rfl (by kernel_rfl)

end Go.Proofs.YtffdaohmalmkfaaGreat
/-
  PacketOwns: the reference's small functions on schemas and rows: Kinds, Copy, Key, Compare, CompareRows.
-/
namespace Go.Proofs.YtffdaohmalmkfaaGreat
open Go.RowKit
set_option linter.unusedVariables false

theorem info_into : (Tryz.prog.info? 3).map (fun i => (i.zero, i.size, i.bytes)) = some (some (.int .i64 0), 1, 8) := by kernel_rfl
theorem CellsAt.flat {α : Type} {w : World} {g sz : Nat} {x : α} {f : α → List Value} : ∀ {xs : List α} {o : Nat} {i : Nat}, CellsAt w g o (xs.flatMap f) → (∀ y, (f y).length = sz) → xs[i]? = some x → CellsAt w g (o + i * sz) (f x)
  | [], o, i, _, _, hx => by simp at hx
  | y :: ys, o, 0, h, hf, hx => by
    simp only [List.getElem?_cons_zero, Option.some.injEq] at hx
    subst hx
    rw [Nat.zero_mul, Nat.add_zero]
    exact fun j u hj => h j u (by rw [List.flatMap_cons, List.getElem?_append_left (by obtain ⟨h1, -⟩ := List.getElem?_eq_some_iff.1 hj; exact h1)]; exact hj)
  | y :: ys, o, i + 1, h, hf, hx => by
    have h1 := CellsAt.drop sz h
    rw [List.flatMap_cons, List.drop_left' (hf y)] at h1
    have h2 := CellsAt.flat (i := i) h1 hf (by simpa using hx)
    rw [show o + (i + 1) * sz = o + sz + i * sz by rw [Nat.add_mul, Nat.one_mul]; omega]
    exact h2
theorem SlIn.rd {w : World} {B sz n : Nat} {s : Value} {xs : List Value} (h : SlIn w B sz s n xs) : Rd w sz s n xs := by
  obtain ⟨A, cap, h1, h2, h3, h4, h5, h6, h7⟩ := h
  refine ⟨A, cap, h1, h2, h4, fun hA => ⟨by have := h5 hA; omega, h5 hA⟩, fun ad hA j u hj => ?_⟩
  have hn : 0 < n := by
    rcases Nat.eq_zero_or_pos n with h0 | h0
    · subst h0
      rw [Nat.zero_mul, List.length_eq_zero_iff] at h4
      subst h4
      simp at hj
    · exact h0
  obtain ⟨g, o, rfl, -, hc⟩ := h7 hn
  cases hA
  have hc1 := hc j u hj
  rw [add_lit0]
  exact hc1
/-- A row that is read. -/
def RIn (w : World) (B : Nat) (v : Value) (xs : List Val) : Prop := SlIn w B 3 v xs.length (rowC xs)
theorem rowC_one (xs : List Val) : ∀ u ∈ rowC xs, u.oneCell' = true := by
  intro u hu
  obtain ⟨x, -, hx⟩ := List.mem_flatMap.1 hu
  simp only [vCells, List.mem_cons, List.not_mem_nil, or_false] at hx
  rcases hx with rfl | rfl | rfl <;> rfl
theorem RIn.old {w w' : World} {B B' : Nat} {v : Value} {xs : List Val} (h : RIn w B v xs) (ho : Old B w w') (hB : B ≤ B') : RIn w' B' v xs := SlIn.old h ho hB
theorem RIn.keep0 {w w' : World} {B : Nat} {v : Value} {xs : List Val} (h : RIn w B v xs) (hB : B ≤ w.heap.size) (hk : Kept Kno w w') : RIn w' B v xs := SlIn.old h (hk.old hB (fun _ _ h => h)) (Nat.le_refl _)
theorem SchIn.keep0 {w w' : World} {B : Nat} {ver : Int} {ts : List Tbl} {v : Value} (h : SchIn w B ver ts v) (hB : B ≤ w.heap.size) (hk : Kept Kno w w') : SchIn w' B ver ts v := h.old (hk.old hB (fun _ _ h => h)) (Nat.le_refl _)
theorem OwnR.rin {w : World} {base : Nat} {A : Option Addr} {cap n : Nat} {xs : List Val} (h : OwnR w base (.slice A n cap) xs) (hn : n = xs.length) : RIn w w.heap.size (.slice A n cap) xs := by
  subst hn
  exact own_slin0 h
theorem OwnR.rinS {w : World} {base : Nat} {S : Nat → Bool} {A : Option Addr} {cap n : Nat} {xs : List Val} (h : OwnR w base (.slice A n cap) xs) (hn : n = xs.length) (hS : ∀ k, base ≤ k → S k = false) : RIn (erase S w) w.heap.size (.slice A n cap) xs := by
  subst hn
  exact own_slin h hS
theorem SchIn.tbl {w : World} {B : Nat} {ver : Int} {ts : List Tbl} {v : Value} (h : SchIn w B ver ts v) {j : Nat} {t : Tbl} (hj : ts[j]? = some t) :
    ∃ g o cap st, v = .agg #[.int .i64 ver, .slice (some ⟨g, o, none⟩) ts.length cap] ∧ ts.length ≤ cap ∧ cap ≤ maxLen ∧ g < B ∧ TIn w B t st ∧ CellsAt w g (o + j * 5) (tblC t st) := by
  obtain ⟨s, rfl, -, -, A, cap, rfl, h3, h4, -, -, h5⟩ := h
  obtain ⟨hlt, -⟩ := List.getElem?_eq_some_iff.1 hj
  obtain ⟨g, o, rfl, hg, hc⟩ := h5 (by omega)
  obtain ⟨st, hst, hcs⟩ := TsAt.get hc hj
  exact ⟨g, o, cap, st, rfl, h3, h4, hg, hst, hcs⟩

/-- Numbers in a new row. -/
def IntsOk (ks : List Int) (w : World) (e : Ending) (w' : World) : Prop := ∃ A cap, e = .returned (.slice A ks.length cap) ∧ w'.ownsRow w.heap.size 3 1 (.slice A ks.length cap) ks.length (ks.map iv) ∧ Kept Kno w w'
def KindsRel (w : World) (R : Nat) (cols : List (ByteArray × Int)) (x i : Value) (wr : World) : Prop :=
  ∃ (j : Nat) (A : Option Addr) (cap : Nat), j ≤ cols.length ∧ i = .int .i64 j ∧ x = .slice A j cap ∧ wr.ownsRow (R + 1) 3 1 (.slice A j cap) j ((cols.take j).map fun c => iv c.2) ∧ Kept Kno w wr ∧ R < wr.heap.size
set_option maxRecDepth 100000 in
set_option maxHeartbeats 4000000 in
theorem kinds_any (B : Nat) (sv : Value) (ver : Int) (ts : List Tbl) (w : World) (h : SchIn w B ver ts sv) (hB : B ≤ w.heap.size) (j : Nat) (t : Tbl) (hj : ts[j]? = some t) :
    Calls Tryz.prog 61 #[sv, .int .i64 j] w (IntsOk (t.cols.map (·.2)) w) := by
  obtain ⟨i0, hi, hz0, hz1, hz2⟩ := info_parts info_into
  obtain ⟨hjl, -⟩ := List.getElem?_eq_some_iff.1 hj
  obtain ⟨g, o, cap, st, rfl, hcap, hmax, hgB, hst, hcs⟩ := h.tbl hj
  obtain ⟨hcols, -, h8, hk1, hk2, -, -⟩ := hst
  have hl0 : 0 < t.cols.length := by omega
  obtain ⟨cA, cc, hce, hcc, hcm, -, -, -, hcat⟩ := hcols
  obtain ⟨g2, o2, rfl, hgB2, hc2⟩ := hcat hl0
  have k1 : w.cell? ⟨g, o + j * 5 + 1, none⟩ = some (.slice (some ⟨g2, o2, none⟩) t.cols.length cc) := by rw [← hce]; exact hcs 1 _ rfl
  have HC2 := Lib.hid hc2
  have hj0 : (0 : Int) ≤ (j : Int) := by omega
  have hjI : (j : Int) < (ts.length : Int) := by omega
  have hjn : decide ((j : Int) < 0) = false := by simp
  have hjN : decide (ts.length ≤ j) = false := by simp; omega
  have hmax' : cap ≤ 9223372036854775807 := by simpa only [maxLen] using hmax
  have hcm' : cc ≤ 9223372036854775807 := by simpa only [maxLen] using hcm
  have hgw : g < w.heap.size := by omega
  have hgw2 : g2 < w.heap.size := by omega
  have hL : t.cols.length ≤ 8 := h8
  generalize hcl : t.cols = cols at *
  clear h hj hcs hcat hc2 hce hmax hcm h8 hk1 hk2 hjl
  go_enter Tryz.func61, Tryz.ntmps61
  go_wp2_with fail
  have hkB : Kept Kno w (w.alloc (.cells #[.int .i64 ver, .slice (some ⟨g, o, none⟩) ts.length cap] 82)) := (Kept.refl _ _).alloc _
  go_loopw [5, 24] (fun x i wr => KindsRel w w.heap.size cols x i wr) (fun _ i _ => cols.length - (intOf i).toNat)
  case atStart => exact ⟨0, none, 0, Nat.zero_le _, rfl, rfl, World.ownsRow_nil _ _ _ _, hkB, by simp⟩
  case round =>
    obtain ⟨k, A, c, hk, rfl, rfl, how, hkk, hsz⟩ := hrel
    have HOW := Lib.hid how
    have HKK := Lib.hid hkk
    have hk0 : (0 : Int) ≤ (k : Int) := by omega
    clear how hkk
    by_cases hlt : k < cols.length
    · have hltI : (k : Int) < (cols.length : Int) := by omega
      obtain ⟨q, hq⟩ : ∃ q, cols[k]? = some q := ⟨_, List.getElem?_eq_getElem hlt⟩
      have hcq := CellsAt.flat (sz := 2) (i := k) (x := q) (HC2.out.old hgw2 (HKK.out.old (Nat.le_refl _) (fun _ _ h => h))) (fun y => rfl) hq
      have c0 : wr.cell? ⟨g2, o2 + k * 2, none⟩ = some (.string q.1) := hcq 0 _ rfl
      have c1 : wr.cell? ⟨g2, o2 + k * 2 + 1, none⟩ = some (.int .i64 q.2) := hcq 1 _ rfl
      have m1 : k + 1 ≤ maxLen := by simp only [maxLen]; omega
      have htk : (cols.take (k + 1)).map (fun c => iv c.2) = (cols.take k).map (fun c => iv c.2) ++ [.int .i64 q.2] := by
        rw [List.take_add_one, hq]
        simp [iv]
      have HTK := Lib.hid htk
      clear hcq hq htk
      go_wp2_with (at_builtin; go_must (refine wpList_append_rd _ rfl _ _ 24 rfl (w.heap.size + 1) 3 i0 _ 1 8 Tryz.underlying24 hi hz0 hz1 hz2 rfl (by decide) (.slice A k c) k ((cols.take k).map fun c => iv c.2) rfl (World.ownsRow.alloc (World.ownsRow.alloc HOW.out _) _) _ 1 [.int .i64 q.2] rfl (Rd.one' _ _ _ rfl (by simp)) (by simp [Value.oneCell']) m1 (by omega) (by simp; omega) ?_); intro A2 c2 w3 hown2 hg2 hat2)
      have hk3 : Kept Kno w w3 := ((HKK.out.alloc _).alloc _).grown hg2 (fun k hk e => by have := (own_base HOW.out e).1; omega)
      refine ⟨⟨k + 1, A2, c2, hlt, by go_num, rfl, ?_, hk3, by have := hg2.size; simp at this; omega⟩, ?_⟩
      · rw [HTK.out]
        exact hown2
      · simp [intOf]
        omega
    · have hltI : ¬ (k : Int) < (cols.length : Int) := by omega
      have hkl : k = cols.length := by omega
      subst hkl
      go_wp2
      go_ret
      refine ⟨A, c, by simp, ?_, HKK.out⟩
      have h1 := HOW.out
      rw [List.take_length] at h1
      rw [List.length_map, List.map_map]
      exact own_rebase h1 (fun k e => by have := (own_base h1 e).1; omega)

def RowOk (xs : List Val) (w : World) (e : Ending) (w' : World) : Prop := ∃ A cap, e = .returned (.slice A xs.length cap) ∧ OwnR w' w.heap.size (.slice A xs.length cap) xs ∧ Kept Kno w w'
set_option maxHeartbeats 2000000 in
theorem rcopy_any (B : Nat) (u : Value) (xs : List Val) (w : World) (h : RIn w B u xs) (hl : xs.length ≤ 1000) :
    Calls Tryz.prog 128 #[u] w (RowOk xs w) := by
  obtain ⟨i0, hi, hz0, hz1, hz2⟩ := info_parts info_val
  have HR := Lib.hid (SlIn.rd h)
  have HO := Lib.hid (rowC_one xs)
  obtain ⟨A, cap, rfl⟩ := SlIn.form h
  have m1 : 0 + xs.length ≤ maxLen := by simp only [maxLen]; omega
  clear h
  go_enter Tryz.func128, Tryz.ntmps128
  go_wp2_with (at_builtin; go_must (refine wpList_append_rd _ rfl _ _ 30 rfl w.heap.size 49 i0 _ 3 32 Tryz.underlying30 hi hz0 hz1 hz2 rfl (by decide) (.slice none 0 0) 0 [] rfl (World.ownsRow_nil _ _ _ _) _ xs.length (rowC xs) rfl HR.out HO.out m1 (by omega) (by simp) ?_); intro A2 c2 w3 hown2 hg2 hat2)
  go_ret
  rw [Nat.zero_add] at *
  exact ⟨A2, c2, rfl, by unfold OwnR; simpa using hown2, (Kept.refl _ _).grown hg2 (fun k hk e => by cases e)⟩

end Go.Proofs.YtffdaohmalmkfaaGreat
/-
  PacketOwns: a map of slices under the numbers 0, 1, .. (a collector's parts). No program in sight, but for the map's type.
-/
namespace Go.Proofs.YtffdaohmalmkfaaGreat
open Go.RowKit
set_option linter.unusedVariables false

/-- Block b is a map whose entries are ss, under 0, 1, .. -/
def MapIs (w : World) (b : Nat) (ss : List Value) : Prop :=
  ∃ (es : Array MapEntry) (clock : Nat), w.heap[b]? = some (.map es clock) ∧ es.toList.map (·.key) = (List.range ss.length).map (fun i : Nat => Value.int .i64 (i : Int)) ∧ es.toList.map (·.val) = ss ∧ ss.length ≤ 1000000
section
variable {w w' : World} {b : Nat} {ss : List Value}
theorem MapIs.lt (h : MapIs w b ss) : b < w.heap.size := by
  obtain ⟨es, clock, h, -⟩ := h
  exact (Array.getElem?_eq_some_iff.1 h).1
theorem MapIs.kept {S : Nat → Prop} (h : MapIs w b ss) (hk : Kept S w w') (hS : ¬ S b) : MapIs w' b ss := by
  have hlt := h.lt
  obtain ⟨es, clock, h1, h2⟩ := h
  exact ⟨es, clock, (hk.block b hlt hS).trans h1, h2⟩
theorem MapIs.new (w : World) : MapIs (w.alloc (.map #[] 0)) w.heap.size [] := ⟨#[], 0, heap_alloc_new w _, rfl, rfl, Nat.zero_le _⟩
theorem numKey {n : Nat} (hn : n ≤ 1000000) : keyOf Tryz.prog 3 (.int .i64 n) = some (.int .i64 n) := Maps.keyOf_int_mk Tryz.underlying3 (i64_wf ⟨by omega, by omega⟩)
theorem MapIs.entry {es : Array MapEntry} (h2 : es.toList.map (·.key) = (List.range ss.length).map (fun i : Nat => Value.int .i64 (i : Int))) {j : Nat} {e : MapEntry} (he : es.toList[j]? = some e) : j < ss.length ∧ e.key = .int .i64 (j : Nat) := by
  have h := congrArg (fun l => l[j]?) h2
  simp only [List.getElem?_map, he, Option.map_some] at h
  by_cases hj : j < ss.length
  · rw [List.getElem?_range hj] at h
    exact ⟨hj, by simpa using h⟩
  · rw [List.getElem?_eq_none (by simpa using hj)] at h
    simp at h
theorem MapIs.keys {es : Array MapEntry} (h2 : es.toList.map (·.key) = (List.range ss.length).map (fun i : Nat => Value.int .i64 (i : Int))) (h4 : ss.length ≤ 1000000) : ∀ e ∈ es.toList, ∃ l, keyOf Tryz.prog 3 e.key = some l := fun e he => by
  obtain ⟨j, hj⟩ := List.mem_iff_getElem?.1 he
  obtain ⟨h1, h3⟩ := MapIs.entry h2 hj
  exact ⟨_, by rw [h3]; exact numKey (by omega)⟩
theorem MapIs.hit (h : MapIs w b ss) (c : Bool) {k : Nat} {s : Value} (hs : ss[k]? = some s) :
    (Instr.lookup 140 (.map (some b)) (.int .i64 k) c).run Tryz.prog w = .ok (if c then .tuple #[s, .bool true] else s) w := by
  obtain ⟨es, clock, h1, h2, h3, h4⟩ := h
  have hk : k < ss.length := (List.getElem?_eq_some_iff.1 hs).1
  have hkey := numKey (n := k) (by omega)
  rcases int_keys.find w hkey es.toList (MapIs.keys h2 h4) with ⟨-, hno⟩ | ⟨j, e, hf, hj, he⟩
  · exfalso
    have hl : es.toList.length = ss.length := by rw [← h3, List.length_map]
    obtain ⟨e, he⟩ : ∃ e, es.toList[k]? = some e := ⟨_, List.getElem?_eq_getElem (by omega)⟩
    exact hno e (List.mem_of_getElem? he) (MapIs.entry h2 he).2
  · obtain ⟨-, hk2⟩ := MapIs.entry h2 hj
    rw [he] at hk2
    simp only [Value.int.injEq, Int.natCast_inj, true_and] at hk2
    subst hk2
    have hv : e.val = s := by
      have := congrArg (fun l => l[k]?) h3
      simp only [List.getElem?_map, hj, hs, Option.map_some, Option.some.injEq] at this
      exact this
    simp [Instr.lookup, run_underlying Tryz.underlying140, MapKept.run_getObj_map h1, int_keys.check w _ hkey, hf, Result.andThen, hv]
theorem zero_edits (w : World) : (zeroValue 25).run Tryz.prog w = .ok (.slice none 0 0) w := by
  have h : (Tryz.prog.info? 25).map (·.zero) = some (some (.slice none 0 0)) := by kernel_rfl
  obtain ⟨i, hi, hz⟩ := Option.map_eq_some_iff.1 h
  simp [zeroValue, typeInfo, hi, hz]
theorem MapIs.miss (h : MapIs w b ss) (c : Bool) {k : Nat} (hk : ss.length ≤ k) (hk2 : k ≤ 1000000) :
    (Instr.lookup 140 (.map (some b)) (.int .i64 k) c).run Tryz.prog w = .ok (if c then .tuple #[.slice none 0 0, .bool false] else .slice none 0 0) w := by
  obtain ⟨es, clock, h1, h2, h3, h4⟩ := h
  have hkey := numKey hk2
  rcases int_keys.find w hkey es.toList (MapIs.keys h2 h4) with ⟨hf, -⟩ | ⟨j, e, hf, hj, he⟩
  · simp [Instr.lookup, run_underlying Tryz.underlying140, MapKept.run_getObj_map h1, int_keys.check w _ hkey, hf, zero_edits, Result.andThen]
  · exfalso
    obtain ⟨hj1, hk2⟩ := MapIs.entry h2 hj
    rw [he] at hk2
    simp only [Value.int.injEq, Int.natCast_inj, true_and] at hk2
    omega
/-- A new entry. -/
theorem MapIs.put (h : MapIs w b ss) (s : Value) (hl : ss.length < 1000000) :
    ∃ w', (Instr.mapUpdate 140 (.map (some b)) (.int .i64 ss.length) s).run Tryz.prog w = .ok () w' ∧ MapIs w' b (ss ++ [s]) ∧ Kept (Kone b) w w' := by
  have hlt := h.lt
  obtain ⟨es, clock, h1, h2, h3, h4⟩ := h
  have hkey := numKey (n := ss.length) (by omega)
  rcases int_keys.find w hkey es.toList (MapIs.keys h2 h4) with ⟨hf, -⟩ | ⟨j, e, hf, hj, he⟩
  · refine ⟨ChangeMaps.setBlock w b (.map (es.push ⟨.int .i64 ss.length, s, clock⟩) (clock + 1)), ?_, ⟨es.push ⟨.int .i64 ss.length, s, clock⟩, clock + 1, ?_, ?_, ?_, by simp; omega⟩, ?_⟩
    · simp [Instr.mapUpdate, run_underlying Tryz.underlying140, MapKept.run_getObj_map h1, int_keys.check w _ hkey, hf, MapKept.run_setObj_map _ h1, Result.andThen, ChangeMaps.setBlock]
    · simp [ChangeMaps.setBlock, Array.getElem?_setIfInBounds, hlt]
    · simp [h2, List.range_succ]
    · simp [h3]
    · exact ⟨rfl, rfl, rfl, by simp [ChangeMaps.setBlock], fun i hi hne => Array.getElem?_setIfInBounds_ne (fun e : b = i => hne (show i = b from e.symm))⟩
  · exfalso
    obtain ⟨hj1, hk2⟩ := MapIs.entry h2 hj
    rw [he] at hk2
    simp only [Value.int.injEq, Int.natCast_inj, true_and] at hk2
    omega
theorem MapIs.len (h : MapIs w b ss) (ty : TypeId) : (Builtin.len_ #[140] ty #[.map (some b)]).run Tryz.prog w = .ok (.int .i64 ss.length) w := by
  obtain ⟨es, clock, h1, h2, h3, h4⟩ := h
  have e1 : es.size = ss.length := by rw [← h3, List.length_map, Array.length_toList]
  rw [← e1]
  simp [Builtin.len_, run_underlying Tryz.underlying140, MapKept.run_getObj_map h1, goInt, Result.andThen]
end

end Go.Proofs.YtffdaohmalmkfaaGreat
