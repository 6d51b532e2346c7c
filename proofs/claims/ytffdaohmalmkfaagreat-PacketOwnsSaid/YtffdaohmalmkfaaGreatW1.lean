/-
  Contracts and plain laws that the claim's theorem rests on.
-/
import Derived.Below
import Derived.Laws.OwnMore
import Derived.Deep.AppendLies
import Derived.Deep.Draws
import Derived.Laws.Rows
import Derived.Maps.AppendAt
import Derived.RegionTactic
import Derived.OwnWalk
import Derived.Laws.IdiomStrings
import Derived.Lib.BufferRead
import Derived.Test.YtffdaohmalmkfaaGreatChecked
import Derived.Tactics
import Derived.Tactics2
import Derived.WalkKit
import Derived.WalkSpells
import Derived.WalkLawsBesides
import Derived.Deep.QuietTactic
import Derived.BigQuiet
import Derived.Deep.RegionHeld3
import Derived.Deep.RegionLaw
import Derived.Deep.DeepCutAuto
import Derived.Deep.DrawnRows
import Derived.Deep.LoopGhost
import Derived.LoopTactic
import Derived.IntWalk
import Derived.Lib.Hide
import Derived.Outline
import Derived.KernelRfl
import Derived.Laws.Bits64b
import Derived.Laws.CopyOwn
import Derived.Lib.AppendStr
set_option linter.unusedSimpArgs false
set_option linter.unusedVariables false
/-
  Plain words for memory used by all contracts of this seat: 'Kept S w w'' (only the blocks of S, and new ones, may have changed), 'Blk' (a block known whole), 'Bs' (a slice value that reads as a list of bytes). No program in sight.
-/
namespace Go.Proofs.YtffdaohmalmkfaaGreat
open Go.RowKit
set_option linter.unusedVariables false

theorem block_of_add (a : Addr) (n : Nat) : (a.add n).block = a.block := by unfold Addr.add; split <;> rfl
theorem add_lit0 (g o n : Nat) : (⟨g, o, none⟩ : Addr).add n = ⟨g, o + n, none⟩ := by unfold Addr.add; split <;> simp_all

/-- Only the blocks of S, and new ones, may have changed. -/
structure Kept (S : Nat → Prop) (w w' : World) : Prop where
  os : w'.os = w.os
  tape : w'.tape = w.tape
  output : w'.output = w.output
  size : w.heap.size ≤ w'.heap.size
  block : ∀ k, k < w.heap.size → ¬ S k → w'.heap[k]? = w.heap[k]?

def Kno : Nat → Prop := fun _ => False
def Kone (g : Nat) : Nat → Prop := fun k => k = g
def Kown (v : Value) : Nat → Prop := fun k => v.ownBlock = some k

section
variable {S T : Nat → Prop} {a b c w : World}
theorem Kept.refl (S : Nat → Prop) (w : World) : Kept S w w := ⟨rfl, rfl, rfl, Nat.le_refl _, fun _ _ _ => rfl⟩
theorem Kept.mono (h : Kept S a b) (hST : ∀ k, k < a.heap.size → S k → T k) : Kept T a b :=
  ⟨h.os, h.tape, h.output, h.size, fun k hk hT => h.block k hk (fun hS => hT (hST k hk hS))⟩
/-- Two steps: what the second may change is S or new. -/
theorem Kept.trans (h : Kept S a b) (k : Kept T b c) (hTS : ∀ i, i < a.heap.size → T i → S i) : Kept S a c :=
  ⟨k.os.trans h.os, k.tape.trans h.tape, k.output.trans h.output, Nat.le_trans h.size k.size,
   fun i hi hS => (k.block i (Nat.lt_of_lt_of_le hi h.size) (fun hT => hS (hTS i hi hT))).trans (h.block i hi hS)⟩
theorem Kept.drew (h : Kept S a w) : Kept S a w.drew := ⟨h.os, h.tape, h.output, h.size, h.block⟩
theorem Kept.drewN (h : Kept S a w) (n : Nat) : Kept S a (w.drewN n) := ⟨h.os, h.tape, h.output, h.size, h.block⟩
theorem Kept.alloc (h : Kept S a w) (o : Obj) : Kept S a (w.alloc o) :=
  ⟨h.os, h.tape, h.output, Nat.le_trans h.size (by simp), fun i hi hS => (Below.heap_alloc w o i (Nat.lt_of_lt_of_le hi h.size)).trans (h.block i hi hS)⟩
theorem Kept.setCell (h : Kept S a w) {p : Addr} (hp : p.block < a.heap.size → S p.block) (u : Value) : Kept S a (w.setCell p u) :=
  ⟨h.os, h.tape, h.output, by simpa [World.setCell] using h.size, fun i hi hS => (Below.heap_setCell w p u i (by rintro rfl; exact hS (hp hi))).trans (h.block i hi hS)⟩
theorem Kept.setNew (h : Kept S a w) {p : Addr} (hp : a.heap.size ≤ p.block) (u : Value) : Kept S a (w.setCell p u) := h.setCell (fun h => absurd h (by omega)) u
theorem Kept.setIn (h : Kept S a w) {p : Addr} (hp : S p.block) (u : Value) : Kept S a (w.setCell p u) := h.setCell (fun _ => hp) u
theorem Kept.then0 (h : Kept S a b) (k : Kept Kno b c) : Kept S a c := h.trans k (fun _ _ h => h.elim)
theorem Kept.grown (h : Kept S a b) {row : Option Nat} (hg : b.grownBy c row) (hr : ∀ k, k < a.heap.size → row = some k → S k) : Kept S a c :=
  ⟨hg.os.trans h.os, hg.tape.trans h.tape, hg.output.trans h.output, Nat.le_trans h.size hg.size,
   fun i hi hS => (hg.block i (Nat.lt_of_lt_of_le hi h.size) (fun e => hS (hr i hi e.symm))).trans (h.block i hi hS)⟩
theorem Kept.below (h : Kept S a b) {B : Nat} (hB : B ≤ a.heap.size) (hS : ∀ k, k < B → ¬ S k) : Below B a b :=
  ⟨h.os, h.tape, h.output, h.size, fun k hk => h.block k (by omega) (hS k hk)⟩
theorem Kept.to_below (h : Kept Kno a b) : Below a.heap.size a b := h.below (Nat.le_refl _) (fun _ _ h => h)
theorem Kept.cell (h : Kept S a b) {p : Addr} (hp : p.block < a.heap.size) (hS : ¬ S p.block) : b.cell? p = a.cell? p := World.cell?_of_block (h.block p.block hp hS)
theorem Kept.frozen (h : Kept S a b) {p : Addr} (hp : p.block < a.heap.size) (hS : ¬ S p.block) : b.frozen? p = a.frozen? p := World.frozen?_of_block (h.block p.block hp hS)
theorem Kept.frozen_no (h : Kept S a b) {p : Addr} (hf : a.frozen? p = false) (hp : p.block < a.heap.size) (hS : ¬ S p.block) : b.frozen? p = false := (h.frozen hp hS).trans hf
theorem Kept.cell_some (h : Kept S a b) {p : Addr} {v : Value} (hc : a.cell? p = some v) (hS : ¬ S p.block) : b.cell? p = some v :=
  (h.cell (World.block_lt_of_cell? a p hc) hS).trans hc
end

/-- Block g is just the cells cs of element type t, none frozen. -/
def Blk (w : World) (g : Nat) (t : TypeId) (cs : Array Value) : Prop := w.heap[g]? = some (.cells cs t (0, 0))

section
variable {w w' : World} {g : Nat} {t : TypeId} {cs : Array Value}
theorem Blk.lt (h : Blk w g t cs) : g < w.heap.size := by
  rcases Nat.lt_or_ge g w.heap.size with hlt | hge
  · exact hlt
  · unfold Blk at h; rw [Array.getElem?_eq_none hge] at h; cases h
theorem Blk.cell (h : Blk w g t cs) (i : Nat) : w.cell? ⟨g, i, none⟩ = cs[i]? := cell_of_row w g i cs t (0, 0) h
theorem Blk.frozen (h : Blk w g t cs) (i : Nat) : w.frozen? ⟨g, i, none⟩ = false := by
  unfold Blk at h
  simp [World.frozen?, h]
theorem Blk.new (w : World) (t : TypeId) (cs : Array Value) : Blk (w.alloc (.cells cs t)) w.heap.size t cs := heap_alloc_new w _
theorem Blk.drew (h : Blk w g t cs) : Blk w.drew g t cs := h
theorem Blk.drewN (h : Blk w g t cs) (n : Nat) : Blk (w.drewN n) g t cs := h
theorem Blk.alloc (h : Blk w g t cs) (o : Obj) : Blk (w.alloc o) g t cs := (Below.heap_alloc w o g h.lt).trans h
theorem Blk.set_ (h : Blk w g t cs) (i : Nat) (u : Value) : Blk (w.setCell ⟨g, i, none⟩ u) g t (cs.setIfInBounds i u) := by
  unfold Blk at h ⊢
  simp [World.setCell, Array.getElem?_modify, h]
theorem Blk.far (h : Blk w g t cs) {p : Addr} (hp : g ≠ p.block) (u : Value) : Blk (w.setCell p u) g t cs := (Below.heap_setCell w p u g hp).trans h
theorem Blk.grown {row : Option Nat} (h : Blk w g t cs) (hb : w.grownBy w' row) (hg : some g ≠ row) : Blk w' g t cs := (hb.block g h.lt hg).trans h
theorem Blk.kept {S : Nat → Prop} (h : Blk w g t cs) (hb : Kept S w w') (hg : ¬ S g) : Blk w' g t cs := (hb.block g h.lt hg).trans h
theorem Blk.ne_ {g' : Nat} {t' : TypeId} {cs' : Array Value} (h : Blk w g t cs) (h' : Blk w g' t' cs') (hne : t ≠ t') : g ≠ g' := by
  rintro rfl
  unfold Blk at h h'
  rw [h] at h'
  injection h' with h'
  injection h' with _ ht
  exact hne ht
theorem own_blk_ne {base : Nat} {e : TypeId} {size n : Nat} {v : Value} {xs : List Value} (h : w.ownsRow base e size v n xs) (hg : Blk w g t cs) (hne : e ≠ t) : v.ownBlock ≠ some g := by
  rcases h.2 with ⟨rfl, _⟩ | ⟨g', cap, cur, rfl, _, hh, _⟩
  · simp [Value.ownBlock]
  · intro he
    have : g' = g := by simpa [Value.ownBlock] using he
    subst this
    exact Blk.ne_ (t := e) hh hg hne rfl
theorem own_kept {S : Nat → Prop} {base : Nat} {e : TypeId} {size n : Nat} {v : Value} {xs : List Value} (h : w.ownsRow base e size v n xs) (hb : Kept S w w') (hS : ∀ k, v.ownBlock = some k → ¬ S k) : w'.ownsRow base e size v n xs := by
  refine ⟨h.1, ?_⟩
  rcases h.2 with hn | ⟨g', cap, cur, rfl, hbg, hh, rest⟩
  · exact .inl hn
  · refine .inr ⟨g', cap, cur, rfl, hbg, ?_, rest⟩
    exact (hb.block g' (Array.getElem?_eq_some_iff.1 hh).1 (hS _ rfl)).trans hh
end

theorem own_far {w : World} {base : Nat} {e : TypeId} {size n : Nat} {v : Value} {xs : List Value} (h : w.ownsRow base e size v n xs) {p : Addr} (hp : v.ownBlock ≠ some p.block) (u : Value) : (w.setCell p u).ownsRow base e size v n xs :=
  own_kept (S := Kone p.block) h (Kept.setIn (S := Kone p.block) (Kept.refl _ _) (Eq.refl p.block) u) (fun k hk hS => hp (by unfold Kone at hS; rw [hk, hS]))

/-- The slice value v has n elements (of 'size' cells each) that read as the cells xs; nil let in. -/
def Rd (w : World) (size : Nat) (v : Value) (n : Nat) (xs : List Value) : Prop :=
  ∃ (A : Option Addr) (cap : Nat), v = .slice A n cap ∧ n ≤ cap ∧ xs.length = n * size ∧ (A = none → n = 0 ∧ cap = 0) ∧ ∀ ad, A = some ad → ∀ (j : Nat) (u : Value), xs[j]? = some u → w.cell? (ad.add j) = some u

section
variable {w w' : World} {v : Value} {size n : Nat} {xs : List Value}
theorem Rd.keep (h : Rd w size v n xs) (hk : ∀ (p : Addr) (u : Value), v.ownBlock = some p.block → w.cell? p = some u → w'.cell? p = some u) : Rd w' size v n xs := by
  obtain ⟨A, cap, rfl, hl, hx, hn, hc⟩ := h
  refine ⟨A, cap, rfl, hl, hx, hn, fun ad hA j c hj => hk _ _ ?_ (hc ad hA j c hj)⟩
  subst hA
  simp [Value.ownBlock, block_of_add]
theorem Rd.kept {S : Nat → Prop} (h : Rd w size v n xs) (hb : Kept S w w') (hS : ∀ k, v.ownBlock = some k → ¬ S k) : Rd w' size v n xs :=
  h.keep fun p _ hp hc => hb.cell_some hc (hS _ hp)
theorem Rd.kept0 (h : Rd w size v n xs) (hb : Kept Kno w w') : Rd w' size v n xs := h.kept hb (fun _ _ h => h)
theorem Rd.drew (h : Rd w size v n xs) : Rd w.drew size v n xs := h
theorem Rd.alloc (h : Rd w size v n xs) (o : Obj) : Rd (w.alloc o) size v n xs := h.kept0 ((Kept.refl _ _).alloc o)
theorem Rd.of_own {base : Nat} {e : TypeId} (h : w.ownsRow base e size v n xs) : Rd w size v n xs := by
  obtain ⟨h1, h2⟩ := h
  rcases h2 with ⟨rfl, hn⟩ | ⟨g, cap, cur, rfl, hb, hh, hnc, hcm, hs, ht⟩
  · exact ⟨none, 0, by rw [hn], by omega, h1, fun _ => ⟨hn, rfl⟩, (fun ad h => by cases h)⟩
  · refine ⟨some ⟨g, 0, none⟩, cap, rfl, hnc, h1, (fun h => by cases h), fun ad hA j u hj => ?_⟩
    cases hA
    rw [add_lit0, cell_of_row w g _ cur e (0, 0) hh, Nat.zero_add]
    rw [← ht, List.getElem?_take] at hj
    split at hj
    · simpa using hj
    · cases hj
/-- The one element that 'append(s, x)' lays into a block of its own first. -/
theorem Rd.one (w : World) (t : TypeId) (cs : Array Value) (hs : cs.size = size) : Rd (w.alloc (.cells cs t)) size (.slice (some ⟨w.heap.size, 0, none⟩) 1 1) 1 cs.toList := by
  refine ⟨_, _, rfl, by omega, by simp [hs], (fun h => by cases h), fun ad hA j u hj => ?_⟩
  cases hA
  rw [add_lit0, Nat.zero_add, (Blk.new w t cs).cell]
  simpa using hj
theorem Rd.one' (w : World) (t : TypeId) (cs : Array Value) (hs : cs.size = size) {h : Nat} (hh : w.heap.size = h) : Rd (w.alloc (.cells cs t)) size (.slice (some ⟨h, 0, none⟩) 1 1) 1 cs.toList := hh ▸ Rd.one w t cs hs
theorem own_form {base : Nat} {e : TypeId} (h : w.ownsRow base e size v n xs) : ∃ A cap, v = .slice A n cap := by
  rcases h.2 with ⟨rfl, hn⟩ | ⟨g, cap, cur, rfl, _⟩
  · exact ⟨none, 0, by rw [hn]⟩
  · exact ⟨_, _, rfl⟩
theorem own_base {base : Nat} {e : TypeId} {k : Nat} (h : w.ownsRow base e size v n xs) (hk : v.ownBlock = some k) : base ≤ k ∧ k < w.heap.size := h.lt k hk
theorem own_rebase {base base' : Nat} {e : TypeId} (h : w.ownsRow base e size v n xs) (hk : ∀ k, v.ownBlock = some k → base' ≤ k) : w.ownsRow base' e size v n xs := by
  refine ⟨h.1, ?_⟩
  rcases h.2 with hn | ⟨g, cap, cur, rfl, hb, r⟩
  · exact .inl hn
  · exact .inr ⟨g, cap, cur, rfl, hk g rfl, r⟩
end

section
variable {P : Program} (w : World)
theorem run_append_of_nil (base : Nat) (t ty e : TypeId) (i : TypeInfo) (size : Nat) (ht : P.underlying t = some (.slice e)) (hi : P.info? e = some i)
    (v : Value) (n : Nat) (xs : List Value) (hown : w.ownsRow base e size v n xs) (c : Nat) : (Builtin.append_ #[t, t] ty #[v, .slice none 0 c]).run P w = .ok v w := by
  rcases hown.2 with ⟨rfl, rfl⟩ | ⟨g, cap, cur, rfl, _, _, hnc, _⟩
  · simp [Builtin.append_, run_underlying ht, sizeOf, typeInfo, hi, Builtin.lenOf, Builtin.firstCells]
  · simp [Builtin.append_, run_underlying ht, sizeOf, typeInfo, hi, Builtin.lenOf, Builtin.firstCells, hnc, storeCells]

/-- 'append(s, x...)', s a row of the call's own (or nil), x whatever reads. -/
theorem run_append_rd (base : Nat) (t ty e : TypeId) (i : TypeInfo) (z : Value) (size bytes : Nat) (ht : P.underlying t = some (.slice e)) (hi : P.info? e = some i) (hz : i.zero = some z)
    (hsize : i.size = size) (hby : i.bytes = bytes) (hzs : z.cells.size = size) (hsz : 0 < size)
    (v : Value) (n : Nat) (xs : List Value) (hown : w.ownsRow base e size v n xs)
    (x : Value) (m : Nat) (news : List Value) (hr : Rd w size x m news) (h1 : ∀ u ∈ news, u.oneCell' = true)
    (h63 : n + m ≤ maxLen) (hbytes : (n + m) * bytes ≤ 140737488355328) (hbase : base ≤ w.heap.size) :
    ∃ A cap w', (Builtin.append_ #[t, t] ty #[v, x]).run P w = .ok (.slice A (n + m) cap) w' ∧ w'.ownsRow base e size (.slice A (n + m) cap) (n + m) (xs ++ news) ∧ w.grownBy w' v.ownBlock ∧
      ((Value.slice A (n + m) cap).ownBlock = v.ownBlock ∨ (Value.slice A (n + m) cap).ownBlock = some w.heap.size) := by
  obtain ⟨A, c, rfl, hmc, hl, hnone, hc⟩ := hr
  rcases A with _ | ad
  · obtain ⟨rfl, rfl⟩ := hnone rfl
    have hn : news = [] := List.eq_nil_of_length_eq_zero (by simpa using hl)
    subst hn
    obtain ⟨A, cap, rfl⟩ := own_form hown
    exact ⟨A, cap, w, run_append_of_nil w base t ty e i size ht hi _ n xs hown 0, by simpa using hown, World.grownBy.refl w _, .inl rfl⟩
  · obtain ⟨v', w', hrun, h2, h3, _, h5⟩ := run_append_own_at (P := P) w base t ty e i z size bytes ht hi hz hsize hby hzs hsz v n xs hown ad m c news hl (hc ad rfl) h1 h63 hbytes hbase
    obtain ⟨A, cap, rfl⟩ := own_form h2
    exact ⟨A, cap, w', hrun, h2, h3, h5⟩

theorem wp_append_rd {o : Oper} {a : Act} {K : Act → World → Prop} {Q : Exit → Act → World → Prop} (s x : Operand) (t : TypeId)
    (ho : o.op = .call { callee := .builtin .append, args := #[s, x], argTypes := #[t, t] })
    (base : Nat) (e : TypeId) (i : TypeInfo) (z : Value) (size bytes : Nat) (ht : P.underlying t = some (.slice e)) (hi : P.info? e = some i) (hz : i.zero = some z)
    (hsize : i.size = size) (hby : i.bytes = bytes) (hzs : z.cells.size = size) (hsz : 0 < size)
    (v : Value) (n : Nat) (xs : List Value) (hs : a.eval s = v) (hown : w.ownsRow base e size v n xs)
    (xv : Value) (m : Nat) (news : List Value) (hx : a.eval x = xv) (hr : Rd w size xv m news) (h1 : ∀ u ∈ news, u.oneCell' = true)
    (h63 : n + m ≤ maxLen) (hbytes : (n + m) * bytes ≤ 140737488355328) (hbase : base ≤ w.heap.size)
    (h : ∀ A cap w', w'.ownsRow base e size (.slice A (n + m) cap) (n + m) (xs ++ news) → w.grownBy w' v.ownBlock → ((Value.slice A (n + m) cap).ownBlock = v.ownBlock ∨ (Value.slice A (n + m) cap).ownBlock = some w.heap.size) → K (a.put o.dst (.slice A (n + m) cap)) w') : o.wp P a w K Q := by
  obtain ⟨A, cap, w', hrun, h2, h3, h4⟩ := run_append_rd (P := P) w base t o.type e i z size bytes ht hi hz hsize hby hzs hsz v n xs hown xv m news hr h1 h63 hbytes hbase
  unfold Oper.wp execOp
  simp only [ho, resolve, invoke, builtin, Sem.run_bind, Sem.run_pure, Result.andThen_ok, List.map_toArray, List.map_cons, List.map_nil, hs, hx, hrun]
  exact h A cap w' h2 h3 h4

theorem wpList_append_rd {ops : Array Oper} {rest : List Oper} {o : Oper} {a : Act} {Q : Exit → Act → World → Prop} (hgd : o.guard = none) (s x : Operand) (t : TypeId)
    (ho : o.op = .call { callee := .builtin .append, args := #[s, x], argTypes := #[t, t] })
    (base : Nat) (e : TypeId) (i : TypeInfo) (z : Value) (size bytes : Nat) (ht : P.underlying t = some (.slice e)) (hi : P.info? e = some i) (hz : i.zero = some z)
    (hsize : i.size = size) (hby : i.bytes = bytes) (hzs : z.cells.size = size) (hsz : 0 < size)
    (v : Value) (n : Nat) (xs : List Value) (hs : a.eval s = v) (hown : w.ownsRow base e size v n xs)
    (xv : Value) (m : Nat) (news : List Value) (hx : a.eval x = xv) (hr : Rd w size xv m news) (h1 : ∀ u ∈ news, u.oneCell' = true)
    (h63 : n + m ≤ maxLen) (hbytes : (n + m) * bytes ≤ 140737488355328) (hbase : base ≤ w.heap.size)
    (h : ∀ A cap w', w'.ownsRow base e size (.slice A (n + m) cap) (n + m) (xs ++ news) → w.grownBy w' v.ownBlock → ((Value.slice A (n + m) cap).ownBlock = v.ownBlock ∨ (Value.slice A (n + m) cap).ownBlock = some w.heap.size) → wpList P ops Q rest (a.put o.dst (.slice A (n + m) cap)) w') : wpList P ops Q (o :: rest) a w :=
  wpList_plain hgd fun _ hK => wp_append_rd w s x t ho base e i z size bytes ht hi hz hsize hby hzs hsz v n xs hs hown xv m news hx hr h1 h63 hbytes hbase fun A cap w' h2 h3 h4 => hK _ _ (h A cap w' h2 h3 h4)

theorem step_append_rd {ops : Array Oper} {o : Oper} {a : Act} {K : Act → World → Prop} {Q : Exit → Act → World → Prop} {E : Prop} (hgd : o.guard = none) (s x : Operand) (t : TypeId)
    (ho : o.op = .call { callee := .builtin .append, args := #[s, x], argTypes := #[t, t] })
    (base : Nat) (e : TypeId) (i : TypeInfo) (z : Value) (size bytes : Nat) (ht : P.underlying t = some (.slice e)) (hi : P.info? e = some i) (hz : i.zero = some z)
    (hsize : i.size = size) (hby : i.bytes = bytes) (hzs : z.cells.size = size) (hsz : 0 < size)
    (v : Value) (n : Nat) (xs : List Value) (hs : a.eval s = v) (hown : w.ownsRow base e size v n xs)
    (xv : Value) (m : Nat) (news : List Value) (hx : a.eval x = xv) (hr : Rd w size xv m news) (h1 : ∀ u ∈ news, u.oneCell' = true)
    (h63 : n + m ≤ maxLen) (hbytes : (n + m) * bytes ≤ 140737488355328) (hbase : base ≤ w.heap.size)
    (h : ∀ A cap w', w'.ownsRow base e size (.slice A (n + m) cap) (n + m) (xs ++ news) → w.grownBy w' v.ownBlock → ((Value.slice A (n + m) cap).ownBlock = v.ownBlock ∨ (Value.slice A (n + m) cap).ownBlock = some w.heap.size) → K (a.put o.dst (.slice A (n + m) cap)) w') :
    if Region.wanted o (yielded ops a.tmps) = true then Oper.wp P o a w K Q else E := by
  have hw : Region.wanted o (yielded ops a.tmps) = true := by simp [Region.wanted, hgd]
  rw [if_pos hw]
  exact wp_append_rd w s x t ho base e i z size bytes ht hi hz hsize hby hzs hsz v n xs hs hown xv m news hx hr h1 h63 hbytes hbase h
end

/-- The byte as a cell. -/
def bv (c : UInt8) : Value := .int .u8 c.toNat
theorem bvs_one (l : List UInt8) : ∀ u ∈ l.map bv, u.oneCell' = true := by
  intro u hu; obtain ⟨c, _, rfl⟩ := List.mem_map.1 hu; rfl

/-- The slice value v reads as the bytes l (nil let in). -/
def Bs (w : World) (v : Value) (l : List UInt8) : Prop := Rd w 1 v l.length (l.map bv)

/-- The slice value v is nil, or owns a row of bytes in a block from base on (t: the type number of byte). -/
def OwnB (w : World) (base : Nat) (t : TypeId) (v : Value) (l : List UInt8) : Prop := w.ownsRow base t 1 v l.length (l.map bv)

section
variable {w w' : World} {v : Value} {l : List UInt8}
theorem OwnB.bs {base : Nat} {t : TypeId} (h : OwnB w base t v l) : Bs w v l := Rd.of_own h
end
end Go.Proofs.YtffdaohmalmkfaaGreat
/-
  More plain laws on memory: a row whose block is known whole, written inside its capacity. No program in sight.
-/
namespace Go.Proofs.YtffdaohmalmkfaaGreat
open Go.RowKit
set_option linter.unusedVariables false

section
variable {S : Nat → Prop} {a w : World} {g : Nat} {t : TypeId} {cs : Array Value}
theorem Kept.setRow (h : Kept S a w) (hp : g < a.heap.size → S g) (ds : Array Value) : Kept S a (w.setRow g ds) :=
  ⟨h.os, h.tape, h.output, by simpa using h.size, fun i hi hS => (setRow_other w g i ds (by rintro rfl; exact hS (hp hi))).trans (h.block i hi hS)⟩
theorem Blk.setRow (h : Blk w g t cs) (ds : Array Value) : Blk (w.setRow g ds) g t ds := setRow_heap w g cs ds t (0, 0) h
end

section
variable {P : Program} (w : World)

end

end Go.Proofs.YtffdaohmalmkfaaGreat
/-
  'string(b)' of a slice that reads as bytes; a minimum as a natural number; a slice cut. No program in sight.
-/
namespace Go.Proofs.YtffdaohmalmkfaaGreat
open Go.RowKit
set_option linter.unusedVariables false

theorem run_string_bs {P : Program} {w : World} {v : Value} {l : List UInt8} (src dst e : TypeId) (h : Bs w v l) (hs : P.underlying src = some (.slice e)) (he : P.underlying e = some (.int .u8)) (hd : P.underlying dst = some .string) :
    (convert src dst v).run P w = .ok (.string ⟨l.toArray⟩) w := by
  obtain ⟨A, cap, rfl, hl, hx, hn, hc⟩ := h
  rcases A with _ | a
  · obtain ⟨h0, rfl⟩ := hn rfl
    have : l = [] := List.eq_nil_of_length_eq_zero h0
    subst this
    exact Go.Lib.run_convert_nil_bytes w src dst e 0 hs he hd
  · refine run_convert_bytes_back w src dst e a cap l hs he hd (fun j hj => ?_)
    exact hc a rfl j (bv l[j]) (by simp [List.getElem?_eq_getElem hj])

theorem min_natw (n b : Nat) : (if (b : Int) < (n : Int) then (b : Int) else (n : Int)) = ((min n b : Nat) : Int) := by
  by_cases h : (b : Int) < (n : Int)
  · rw [if_pos h]; omega
  · rw [if_neg h]; omega

theorem Bs.cut {w : World} {A : Option Addr} {cap m : Nat} {l : List UInt8} (h : Bs w (.slice A l.length cap) l) (hm : m ≤ l.length) : Bs w (.slice A m cap) (l.take m) := by
  obtain ⟨A', cap', hv, h1, h2, h3, h4⟩ := h
  have e : (l.take m).length = m := by rw [List.length_take]; omega
  injection hv with hA hn hc
  subst hA hc
  refine ⟨A, cap, by rw [e], by rw [e]; omega, by rw [List.length_map]; omega, fun hA => ?_, fun ad hA j u hj => h4 ad hA j u ?_⟩
  · have := h3 hA; rw [e]; omega
  · rw [List.map_take, List.getElem?_take] at hj
    split at hj
    · exact hj
    · cases hj
end Go.Proofs.YtffdaohmalmkfaaGreat
/-
  Codec: numbers as bytes (LEB128): the writer's contracts.
-/
namespace Go.Proofs.YtffdaohmalmkfaaGreat
open Go.RowKit
set_option linter.unusedVariables false

theorem info_byte : (Tryz.prog.info? 5).map (fun i => (i.zero, i.size, i.bytes)) = some (some (.int .u8 0), 1, 1) := by kernel_rfl

/-- A call that changes nothing that was there. -/
def RetNew (v : Value) (w : World) (e : Ending) (w' : World) : Prop := e = .returned v ∧ Kept Kno w w'

/-- A number as bytes: seven bits each, the lowest first. -/
def lebF : Nat → Nat → List UInt8
  | 0, n => [UInt8.ofNat n]
  | f + 1, n => if n < 128 then [UInt8.ofNat n] else UInt8.ofNat (n % 128 + 128) :: lebF f (n / 128)
def leb (n : Nat) : List UInt8 := lebF 10 n
theorem lebF_small (f n : Nat) (h : n < 128) : lebF f n = [UInt8.ofNat n] := by
  cases f with
  | zero => rfl
  | succ f => simp [lebF, h]
theorem lebF_more (f n : Nat) (h : n < 128 ^ (f + 1)) : lebF (f + 1) n = lebF f n := by
  induction f generalizing n with
  | zero => simp only [lebF]; rw [if_pos (by simpa using h)]
  | succ f ih =>
    show (if n < 128 then [UInt8.ofNat n] else UInt8.ofNat (n % 128 + 128) :: lebF (f + 1) (n / 128)) = (if n < 128 then [UInt8.ofNat n] else UInt8.ofNat (n % 128 + 128) :: lebF f (n / 128))
    rw [ih (n / 128) (by rw [Nat.div_lt_iff_lt_mul (by decide)]; rw [Nat.pow_succ] at h; exact h)]
theorem leb_step (n : Nat) (h : 128 ≤ n) (h2 : n < 18446744073709551616) : leb n = UInt8.ofNat (n % 128 + 128) :: leb (n / 128) := by
  unfold leb
  rw [lebF_more 9 (n / 128) (by omega)]
  show (if n < 128 then [UInt8.ofNat n] else UInt8.ofNat (n % 128 + 128) :: lebF 9 (n / 128)) = _
  rw [if_neg (by omega)]
theorem leb_small (n : Nat) (h : n < 128) : leb n = [UInt8.ofNat n] := lebF_small 10 n h
theorem lebF_length (f n : Nat) : 1 ≤ (lebF f n).length ∧ (lebF f n).length ≤ f + 1 := by
  induction f generalizing n with
  | zero => simp [lebF]
  | succ f ih =>
    simp only [lebF]
    split
    · simp
    · have := ih (n / 128); simp; omega
theorem leb_length (n : Nat) : 1 ≤ (leb n).length ∧ (leb n).length ≤ 11 := lebF_length 10 n

/-- A row of the caller's own has become another: m. -/
def PutOk (base : Nat) (b : Value) (m : List UInt8) (w : World) (e : Ending) (w' : World) : Prop :=
  ∃ A cap, e = .returned (.slice A m.length cap) ∧ OwnB w' base 5 (.slice A m.length cap) m ∧ Kept (Kown b) w w' ∧ ∀ k, (Value.slice A m.length cap).ownBlock = some k → b.ownBlock = some k ∨ w.heap.size ≤ k

def PutRel (base : Nat) (b0 : Value) (l : List UInt8) (n : Nat) (w : World) (b nv : Value) (wr : World) : Prop :=
  ∃ (A : Option Addr) (cap : Nat) (l' : List UInt8) (n' : Nat), b = .slice A l'.length cap ∧ nv = .int .u64 n' ∧ n' < 18446744073709551616 ∧ OwnB wr base 5 (.slice A l'.length cap) l' ∧ l' ++ leb n' = l ++ leb n ∧ Kept (Kown b0) w wr ∧ ∀ k, (Value.slice A l'.length cap).ownBlock = some k → b0.ownBlock = some k ∨ w.heap.size ≤ k

/-- A row that was appended to, from any source. -/
theorem grow_put {base m : Nat} {b0 : Value} {w wr wa w2 : World} {A A2 : Option Addr} {cap cap2 : Nat} {l' news : List UInt8} (hk : Kept (Kown b0) w wr) (hat : ∀ k, (Value.slice A l'.length cap).ownBlock = some k → b0.ownBlock = some k ∨ w.heap.size ≤ k) (hwa : Kept Kno wr wa)
    (hm : news.length = m) (hown2 : w2.ownsRow base 5 1 (.slice A2 (l'.length + m) cap2) (l'.length + m) (l'.map bv ++ news.map bv)) (hg2 : wa.grownBy w2 (Value.slice A l'.length cap).ownBlock)
    (hat2 : (Value.slice A2 (l'.length + m) cap2).ownBlock = (Value.slice A l'.length cap).ownBlock ∨ (Value.slice A2 (l'.length + m) cap2).ownBlock = some wa.heap.size) :
    OwnB w2 base 5 (.slice A2 (l' ++ news).length cap2) (l' ++ news) ∧ Kept (Kown b0) w w2 ∧ (∀ k, (Value.slice A2 (l' ++ news).length cap2).ownBlock = some k → b0.ownBlock = some k ∨ w.heap.size ≤ k) := by
  have e : (l' ++ news).length = l'.length + m := by rw [List.length_append, hm]
  have hs := hk.size
  have hs2 := hwa.size
  refine ⟨?_, (hk.then0 hwa).grown hg2 (fun k hk' he => ?_), fun k hk' => ?_⟩
  · unfold OwnB; rw [e, List.map_append]; exact hown2
  · rcases hat k he with h | h
    · exact h
    · omega
  · rw [e] at hk'
    rcases hat2 with h | h
    · rw [h] at hk'; exact hat k hk'
    · rw [h] at hk'; injection hk' with hk'; exact .inr (by omega)

theorem or_low (n : Nat) : bits BinOp.or IntKind.u8 ((n : Int) % 256) 128 = (((UInt8.ofNat (n % 128 + 128)).toNat : Nat) : Int) := by
  have h1 : ∀ x : Fin 256, bits BinOp.or IntKind.u8 ((x.val : Nat) : Int) 128 = ((x.val % 128 + 128 : Nat) : Int) := by decide +kernel
  have h2 := h1 ⟨n % 256, Nat.mod_lt _ (by decide)⟩
  simp only at h2
  have e : ((n : Int) % 256) = ((n % 256 : Nat) : Int) := by omega
  rw [e, h2, UInt8.toNat_ofNat']
  omega

set_option maxHeartbeats 1000000 in
theorem putUint_any (base : Nat) (b : Value) (l : List UInt8) (n : Nat) (w : World) (h : OwnB w base 5 b l) (hn : n < 18446744073709551616) (hl : l.length ≤ 140737488355000) (hb : base ≤ w.heap.size) :
    Calls Tryz.prog 239 #[b, .int .u64 n] w (PutOk base b (l ++ leb n) w) := by
  obtain ⟨i0, hi, hz0, hz1, hz2⟩ := info_parts info_byte
  have H := Lib.hid h
  obtain ⟨A0, cap0, rfl⟩ := own_form h
  clear h
  go_enter Tryz.func239, Tryz.ntmps239
  go_wp2_with fail
  go_loopw [0, 1] (fun b nv wr => PutRel base (.slice A0 l.length cap0) l n w b nv wr) (fun _ nv _ => (intOf nv).toNat)
  case atStart => exact ⟨A0, cap0, l, n, rfl, rfl, hn, H.out, rfl, Kept.refl _ _, fun k hk => .inl hk⟩
  case round =>
    obtain ⟨A, cap, l', n', rfl, rfl, hn', hown, heq, hk, hat⟩ := hrel
    have HO := Lib.hid hown
    have HE := Lib.hid heq
    have HAT := Lib.hid hat
    have hll : l'.length + 1 ≤ l.length + 11 := by
      have h1 := congrArg List.length heq
      have h2 := (leb_length n).2
      have h3 := (leb_length n').1
      simp only [List.length_append] at h1
      omega
    clear hown heq hat
    by_cases hge : 128 ≤ n'
    · have hge2 : (128 : Int) ≤ (n' : Int) := by omega
      have hor := or_low n'
      have hst := leb_step n' hge hn'
      have HST := Lib.hid hst
      generalize UInt8.ofNat (n' % 128 + 128) = c at hor HST
      have m1 : l'.length + 1 ≤ maxLen := by simp only [maxLen]; omega
      have hbw : base ≤ wr.heap.size := Nat.le_trans hb hk.size
      clear hst
      go_wp2_with (at_builtin; go_must (refine wpList_append_rd _ rfl _ _ 22 rfl base 5 i0 _ 1 1 Tryz.underlying22 hi hz0 hz1 hz2 rfl (by decide) (.slice A l'.length cap) l'.length (l'.map bv) rfl (World.ownsRow.alloc HO.out _) _ 1 [bv c] rfl (Rd.one _ _ _ rfl) (by simp [Value.oneCell', bv]) m1 (by omega) (by simp; omega) ?_); intro A2 cap2 w2 hown2 hg2 hat2)
      refine ⟨?_, by simp only [intOf]; omega⟩
      obtain ⟨p1, p2, p3⟩ := grow_put (news := [c]) hk HAT.out ((Kept.refl _ _).alloc _) rfl hown2 hg2 hat2
      refine ⟨A2, cap2, l' ++ [c], n' / 128, by simp, by go_num, by omega, p1, ?_, p2, p3⟩
      rw [← HE.out, HST.out]
      simp
    · have hge2 : ¬ (128 : Int) ≤ (n' : Int) := by omega
      obtain ⟨c, rfl⟩ : ∃ c : UInt8, n' = c.toNat := ⟨UInt8.ofNat n', by rw [UInt8.toNat_ofNat']; omega⟩
      have hst : leb c.toNat = [c] := by rw [leb_small c.toNat (by omega), UInt8.ofNat_toNat]
      have HST := Lib.hid hst
      have m1 : l'.length + 1 ≤ maxLen := by simp only [maxLen]; omega
      have hbw : base ≤ wr.heap.size := Nat.le_trans hb hk.size
      clear hst
      go_wp2_with (at_builtin; go_must (refine wpList_append_rd _ rfl _ _ 22 rfl base 5 i0 _ 1 1 Tryz.underlying22 hi hz0 hz1 hz2 rfl (by decide) (.slice A l'.length cap) l'.length (l'.map bv) rfl (World.ownsRow.alloc HO.out _) _ 1 [bv c] rfl (Rd.one _ _ _ rfl) (by simp [Value.oneCell', bv]) m1 (by omega) (by simp; omega) ?_); intro A2 cap2 w2 hown2 hg2 hat2)
      go_ret
      obtain ⟨p1, p2, p3⟩ := grow_put (news := [c]) hk HAT.out ((Kept.refl _ _).alloc _) rfl hown2 hg2 hat2
      have e : l' ++ [c] = l ++ leb n := by rw [← HE.out, HST.out]
      rw [e] at p1 p3
      have el : l'.length + 1 = (l ++ leb n).length := by rw [← e]; simp
      exact ⟨A2, cap2, by rw [← el]; rfl, p1, p2, p3⟩

end Go.Proofs.YtffdaohmalmkfaaGreat
/-
  Codec: the writers of numbers and texts, and those of the reference.
-/
namespace Go.Proofs.YtffdaohmalmkfaaGreat
open Go.RowKit
set_option linter.unusedVariables false

/-- The blocks from base on. -/
def From (base : Nat) : Nat → Prop := fun k => base ≤ k
/-- A row of bytes in memory from base on, of which alone something may have changed. -/
def PutB (base : Nat) (m : List UInt8) (w : World) (e : Ending) (w' : World) : Prop :=
  ∃ A cap, e = .returned (.slice A m.length cap) ∧ OwnB w' base 5 (.slice A m.length cap) m ∧ Kept (From base) w w'
theorem PutOk.b {base : Nat} {b : Value} {m l : List UInt8} {w w' : World} {e : Ending} (h : PutOk base b m w e w') (hb : OwnB w base 5 b l) : PutB base m w e w' := by
  obtain ⟨A, cap, h1, h2, h3, _⟩ := h
  exact ⟨A, cap, h1, h2, h3.mono (fun k _ hk => (own_base hb hk).1)⟩
theorem kept_from {base : Nat} {w w1 w2 : World} (h : Kept Kno w w1) (h2 : Kept (From base) w1 w2) (hb : w.heap.size ≤ base) : Kept Kno w w2 :=
  h.trans h2 (fun k hk h => by unfold From at h; omega)

/-- A new slice in new memory that reads as l. -/
def RetB (l : List UInt8) (w : World) (e : Ending) (w' : World) : Prop :=
  ∃ A cap, e = .returned (.slice A l.length cap) ∧ OwnB w' w.heap.size 5 (.slice A l.length cap) l ∧ Kept Kno w w'

set_option maxHeartbeats 800000 in
theorem grown_any (v : Value) (l : List UInt8) (more : Nat) (w : World) (h : Bs w v l) (hl : l.length + more ≤ 16777000) :
    Calls Tryz.prog 148 #[v, .int .i64 more] w (RetB l w) := by
  obtain ⟨i0, hi, hz0, hz1, hz2⟩ := info_parts info_byte
  have H := Lib.hid h
  obtain ⟨A, cap, rfl, hlc, -⟩ := h
  have mk := run_makeSlice (P := Tryz.prog) w 22 5 i0 _ Tryz.underlying22 hi hz0 .i64 .i64 (l.length : Int) ((l.length : Int) + more) (by omega) (by omega) (by rw [hz1]; omega) (by rw [hz2]; omega) (by omega)
  have hms : (madeCells #[Value.int .u8 0] (l.length + more)).size = l.length + more := size_madeCells _ _
  have hcp : ∃ w1, (Builtin.copy_ #[22, 22] 3 #[.slice (some ⟨w.heap.size, 0, none⟩) l.length (l.length + more), .slice A l.length cap]).run Tryz.prog (w.alloc (.cells (madeCells #[Value.int .u8 0] (l.length + more)) 5)) = .ok (goInt l.length) w1 ∧
      OwnB w1 w.heap.size 5 (.slice (some ⟨w.heap.size, 0, none⟩) l.length (l.length + more)) l ∧ Kept Kno w w1 := by
    have hsz1 : (Tryz.prog.info? 5).map (·.size) = some 1 := by rw [hi]; simp [hz1]
    have hgn := heap_alloc_new w (.cells (madeCells #[Value.int .u8 0] (l.length + more)) 5)
    obtain ⟨A', cap', hv, h1, h2, h3, h4⟩ := H.out.alloc (.cells (madeCells #[Value.int .u8 0] (l.length + more)) 5)
    injection hv with e1 e2 e3
    subst e1 e3
    rcases A with _ | ad
    · have h0 : l.length = 0 := (h3 rfl).1
      have hl0 : l = [] := List.eq_nil_of_length_eq_zero h0
      subst hl0
      refine ⟨_, run_copy_none (P := Tryz.prog) _ 22 22 3 5 _ _ _ _ _ _ Tryz.underlying22 hsz1 rfl, ?_, (Kept.refl _ _).alloc _⟩
      exact ⟨rfl, .inr ⟨w.heap.size, _, _, rfl, Nat.le_refl _, hgn, by simp, by simp only [maxLen]; omega, by rw [hms]; simp, by simp⟩⟩
    · have hr := run_copy_row (P := Tryz.prog) (w.alloc (.cells (madeCells #[Value.int .u8 0] (l.length + more)) 5)) 22 22 3 5 w.heap.size 0 l.length (l.length + more) ad l.length cap _ 5 (l.map bv) Tryz.underlying22 hsz1 hgn (by simp) (h4 ad rfl) (by rw [hms]; simp) (bvs_one l)
      rw [List.length_map] at hr
      refine ⟨_, hr, ?_, Kept.setRow ((Kept.refl _ _).alloc _) (fun h => absurd h (Nat.lt_irrefl _)) _⟩
      refine ⟨by simp, .inr ⟨w.heap.size, _, _, rfl, Nat.le_refl _, setRow_heap _ _ _ _ _ _ hgn, by omega, by simp only [maxLen]; omega, ?_, ?_⟩⟩
      · simp [hms]
      · simp
  obtain ⟨w1, hcp, hown, hk⟩ := hcp
  have HO := Lib.hid hown
  clear hown hms
  go_enter Tryz.func148, Tryz.ntmps148
  go_wp2
  go_ret
  exact ⟨_, _, rfl, HO.out, hk⟩

end Go.Proofs.YtffdaohmalmkfaaGreat
/-
  Codec: putInt, putText, AppendUint, AppendInt, AppendText, and those of the reference.
-/
namespace Go.Proofs.YtffdaohmalmkfaaGreat
open Go.RowKit
set_option linter.unusedVariables false

/-- Zigzag. -/
def zz (m : Int) : Nat := if 0 ≤ m then (2 * m).toNat else (-2 * m - 1).toNat
theorem zz_lt (m : Int) (h1 : -9223372036854775808 ≤ m) (h2 : m ≤ 9223372036854775807) : zz m < 18446744073709551616 := by unfold zz; split <;> omega

theorem xor_ones (a : Nat) (h : a < 18446744073709551616) : a ^^^ 18446744073709551615 = 18446744073709551615 - a := by
  have h1 := BitVec.xor_allOnes (x := BitVec.ofNat 64 a)
  have h2 := congrArg BitVec.toNat h1
  rw [BitVec.toNat_xor, BitVec.toNat_not, BitVec.toNat_ofNat, BitVec.toNat_allOnes] at h2
  rw [Nat.mod_eq_of_lt (by omega)] at h2
  exact h2
theorem zig (x m : Int) (h1 : -9223372036854775808 ≤ m) (h2 : m ≤ 9223372036854775807) (hx : x % 18446744073709551616 = (2 * m) % 18446744073709551616) :
    bits BinOp.xor IntKind.u64 (IntKind.u64.wrap x) (IntKind.u64.wrap (m / 9223372036854775808)) = (zz m : Int) := by
  rw [IntKind.wrap_u64, IntKind.wrap_u64, hx]
  by_cases hm : 0 ≤ m
  · have e1 : (2 * m) % 18446744073709551616 = (((2 * m).toNat : Nat) : Int) := by omega
    have e2 : (m / 9223372036854775808) % 18446744073709551616 = ((0 : Nat) : Int) := by omega
    rw [e1, e2, bits_xor_u64_nat _ _ (by omega) (by decide), Nat.xor_zero]
    simp [zz, hm]
  · have e1 : (2 * m) % 18446744073709551616 = (((2 * m + 18446744073709551616).toNat : Nat) : Int) := by omega
    have e2 : (m / 9223372036854775808) % 18446744073709551616 = ((18446744073709551615 : Nat) : Int) := by omega
    rw [e1, e2, bits_xor_u64_nat _ _ (by omega) (by decide), xor_ones _ (by omega)]
    simp only [zz, if_neg hm]
    omega
theorem zig1 (m : Int) (h1 : -9223372036854775808 ≤ m) (h2 : m ≤ 9223372036854775807) : bits BinOp.xor IntKind.u64 (IntKind.u64.wrap (wrap64 (m * 2))) (IntKind.u64.wrap (m / 9223372036854775808)) = (zz m : Int) := by
  refine zig _ m h1 h2 ?_
  unfold wrap64
  omega

set_option maxHeartbeats 800000 in
theorem putInt_any (base : Nat) (b : Value) (l : List UInt8) (m : Int) (w : World) (h : OwnB w base 5 b l) (h1 : -9223372036854775808 ≤ m) (h2 : m ≤ 9223372036854775807) (hl : l.length ≤ 140737488355000) (hb : base ≤ w.heap.size) :
    Calls Tryz.prog 147 #[b, .int .i64 m] w (PutOk base b (l ++ leb (zz m)) w) := by
  obtain ⟨M, hM⟩ : ∃ M, M = l ++ leb (zz m) := ⟨_, rfl⟩
  rw [← hM]
  have HM := Lib.hid hM
  clear hM
  have H := Lib.hid h
  obtain ⟨A0, cap0, rfl⟩ := own_form h
  clear h
  go_enter Tryz.func147, Tryz.ntmps147
  go_wp2_with fail
  rw [zig1 m h1 h2]
  refine (putUint_any base _ l (zz m) w H.out (zz_lt m h1 h2) hl hb).mono ?_
  rw [← HM.out]
  rintro e w1 ⟨A1, cap1, rfl, hown, hk1, hat⟩
  have HX : Hid (PutOk base (.slice A0 l.length cap0) M w (.returned (.slice A1 M.length cap1)) w1) := Lib.hid ⟨A1, cap1, rfl, hown, hk1, hat⟩
  clear hown hat
  go_wp2
  go_ret
  exact HX.out

/-- The bytes of a string. -/
def sbytes (s : ByteArray) : List UInt8 := s.data.toList
theorem strCells_bytes (s : ByteArray) : Lib.strCells s = (sbytes s).map bv := rfl
theorem sbytes_length (s : ByteArray) : (sbytes s).length = s.size := by simp [sbytes]

set_option maxHeartbeats 800000 in
theorem putText_any (base : Nat) (b : Value) (l : List UInt8) (s : ByteArray) (w : World) (h : OwnB w base 5 b l) (hs : s.size ≤ 16777000) (hl : l.length ≤ 140737000000000) (hb : base ≤ w.heap.size) :
    Calls Tryz.prog 313 #[b, .string s] w (PutB base (l ++ (leb s.size ++ sbytes s)) w) := by
  obtain ⟨M, hM⟩ : ∃ M, M = l ++ leb s.size := ⟨_, rfl⟩
  have hML : M.length ≤ l.length + 11 := by rw [hM, List.length_append]; have := (leb_length s.size).2; omega
  rw [← List.append_assoc, ← hM]
  have HM := Lib.hid hM
  clear hM
  obtain ⟨i0, hi, hz0, hz1, hz2⟩ := info_parts info_byte
  have H := Lib.hid h
  obtain ⟨A0, cap0, rfl⟩ := own_form h
  clear h
  go_enter Tryz.func313, Tryz.ntmps313
  go_wp2_with fail
  refine (putUint_any base _ l s.size w H.out (by omega) (by omega) hb).mono ?_
  rw [← HM.out]
  rintro e w1 ⟨A1, cap1, rfl, hown, hk1, hat⟩
  have m1 : M.length + s.size ≤ maxLen := by simp only [maxLen]; omega
  have m2 : M.length + s.size ≤ 140737488355328 := by omega
  have HO := Lib.hid hown
  have hb1 : base ≤ w1.heap.size := Nat.le_trans hb hk1.size
  clear hown
  go_wp2_with (at_builtin; go_must (refine Lib.wpList_append_own_string _ rfl _ _ 22 9 rfl base 5 i0 Tryz.underlying22 Tryz.underlying9 hi hz0 hz1 hz2 (.slice A1 M.length cap1) M.length (M.map bv) rfl HO.out s rfl m1 m2 hb1 ?_); intro v2 w2 hown2 hg2 hat2)
  obtain ⟨A2, cap2, hv2⟩ := own_form hown2
  subst hv2
  have e : (M ++ sbytes s).length = M.length + s.size := by simp [sbytes_length]
  have hx : PutB base (M ++ sbytes s) w (.returned (.slice A2 (M.length + s.size) cap2)) w2 := by
    refine ⟨A2, cap2, by rw [e], ?_, ?_⟩
    · unfold OwnB
      rw [e]
      have h9 := hown2
      rw [strCells_bytes, ← List.map_append] at h9
      exact h9
    · exact (hk1.mono (T := From base) (fun k _ h => (own_base H.out h).1)).grown hg2 (fun k _ h => (own_base HO.out h).1)
  have HX := Lib.hid hx
  clear hx hown2 hg2 hat2 e
  go_ret
  exact HX.out

theorem RetB.ofPut {m : List UInt8} {w w1 w2 : World} {e : Ending} (hk : Kept Kno w w1) (h : PutB w.heap.size m w1 e w2) : RetB m w e w2 := by
  obtain ⟨A, cap, h1, h2, h3⟩ := h
  exact ⟨A, cap, h1, h2, kept_from hk h3 (Nat.le_refl _)⟩

set_option maxHeartbeats 800000 in
theorem appendUint_any (v : Value) (l : List UInt8) (n : Nat) (w : World) (h : Bs w v l) (hn : n < 18446744073709551616) (hl : l.length ≤ 16000000) :
    Calls Tryz.prog 203 #[v, .int .u64 n] w (RetB (l ++ leb n) w) := by
  obtain ⟨M, hM⟩ : ∃ M, M = l ++ leb n := ⟨_, rfl⟩
  rw [← hM]
  have HM := Lib.hid hM
  clear hM
  have H := Lib.hid h
  obtain ⟨A, cap, rfl, -⟩ := h
  go_enter Tryz.func203, Tryz.ntmps203
  go_wp2_with fail
  refine (grown_any _ l 10 w H.out (by omega)).mono ?_
  rintro e w1 ⟨A1, cap1, rfl, hown, hk1⟩
  have HO := Lib.hid hown
  clear hown
  go_wp2_with fail
  refine (putUint_any w.heap.size _ l n w1 HO.out hn (by omega) hk1.size).mono ?_
  rw [← HM.out]
  rintro e w2 hp
  obtain ⟨A2, cap2, he, hown2, hk2⟩ := RetB.ofPut hk1 (hp.b HO.out)
  subst he
  have HX : Hid (RetB M w (.returned (.slice A2 M.length cap2)) w2) := Lib.hid ⟨A2, cap2, rfl, hown2, hk2⟩
  clear hp hown2
  go_wp2
  go_ret
  exact HX.out

set_option maxHeartbeats 800000 in
theorem appendInt_any (v : Value) (l : List UInt8) (m : Int) (w : World) (h : Bs w v l) (h1 : -9223372036854775808 ≤ m) (h2 : m ≤ 9223372036854775807) (hl : l.length ≤ 16000000) :
    Calls Tryz.prog 83 #[v, .int .i64 m] w (RetB (l ++ leb (zz m)) w) := by
  obtain ⟨M, hM⟩ : ∃ M, M = l ++ leb (zz m) := ⟨_, rfl⟩
  rw [← hM]
  have HM := Lib.hid hM
  clear hM
  have H := Lib.hid h
  obtain ⟨A, cap, rfl, -⟩ := h
  go_enter Tryz.func83, Tryz.ntmps83
  go_wp2_with fail
  refine (grown_any _ l 10 w H.out (by omega)).mono ?_
  rintro e w1 ⟨A1, cap1, rfl, hown, hk1⟩
  have HO := Lib.hid hown
  clear hown
  go_wp2_with fail
  refine (putInt_any w.heap.size _ l m w1 HO.out h1 h2 (by omega) hk1.size).mono ?_
  rw [← HM.out]
  rintro e w2 hp
  obtain ⟨A2, cap2, he, hown2, hk2⟩ := RetB.ofPut hk1 (hp.b HO.out)
  subst he
  have HX : Hid (RetB M w (.returned (.slice A2 M.length cap2)) w2) := Lib.hid ⟨A2, cap2, rfl, hown2, hk2⟩
  clear hp hown2
  go_wp2
  go_ret
  exact HX.out

end Go.Proofs.YtffdaohmalmkfaaGreat
