/-
  Contracts and plain laws that the claim's theorem rests on.
-/
import Derived.Test.YtffdaohmalmkfaaGreatW19
import Derived.Test.YtffdaohmalmkfaaGreatW20
import Derived.Laws.OwnMore
import Derived.BigQuiet
import Derived.Deep.RegionHeld3
set_option linter.unusedSimpArgs false
set_option linter.unusedVariables false
/-
  PacketOwns: trees as they come out of the case: what they leave in memory. No program in sight.
-/
namespace Go.Proofs.YtffdaohmalmkfaaGreat
open Go.RowKit
set_option linter.unusedVariables false

/-- A new predicate, whose blocks are none of S. -/
def TreeOk (S : Nat → Bool) (K : Nat) (v : Value) (l : List UInt8) (w : World) (e : Ending) (w' : World) : Prop :=
  ∃ (p : Prd) (s : Value), e = .returned (p.v s) ∧ PIn (erase S w') w'.heap.size p s ∧ Goes K v l w w'
theorem PIn.leaf {w : World} {B : Nat} {op cmp : Int} {lo ro : Opnd} (h1 : I64 op) (h2 : I64 cmp) (h3 : okOpnd lo) (h4 : okOpnd ro) : PIn w B (.mk op cmp lo ro []) (.slice none 0 0) := by
  simp only [PIn]
  exact ⟨h1, h2, h3, h4, none, 0, rfl, Nat.le_refl _, Nat.zero_le _, fun _ => rfl, fun k h => (by simp [Value.ownBlock] at h), fun h => absurd h (Nat.lt_irrefl 0)⟩
/-- Predicates in a row. -/
def prdCs (qs : List (Prd × Value)) : List Value := (qs.map fun x => x.1.cells x.2).flatten
theorem prdCs_snoc (qs : List (Prd × Value)) (x : Prd × Value) : prdCs (qs ++ [x]) = prdCs qs ++ x.1.cells x.2 := by simp [prdCs]
theorem ps_at {w : World} {B g : Nat} : ∀ (qs : List (Prd × Value)) (o : Nat), (∀ x ∈ qs, PIn w B x.1 x.2) → CellsAt w g o (prdCs qs) → PsAt w B (qs.map (·.1)) g o
  | [], o, _, _ => by simp only [List.map_nil, PsAt]
  | x :: qs, o, hp, h => by
    simp only [List.map_cons, PsAt]
    have hn := x.1.cells_length x.2
    refine ⟨⟨x.2, hp x (by simp), fun j u hj => h j u ?_⟩, ps_at qs (o + 13) (fun y hy => hp y (by simp [hy])) ?_⟩
    · simp only [prdCs, List.map_cons, List.flatten_cons]
      rw [List.getElem?_append_left (by obtain ⟨h1, -⟩ := List.getElem?_eq_some_iff.1 hj; exact h1)]
      exact hj
    · have := CellsAt.drop 13 h
      simp only [prdCs, List.map_cons, List.flatten_cons] at this
      rwa [List.drop_left' hn] at this
/-- A node over a row of its own. -/
theorem PIn.node {S : Nat → Bool} {w : World} {base cap : Nat} {A : Option Addr} {op cmp : Int} {lo ro : Opnd} (qs : List (Prd × Value)) (h1 : I64 op) (h2 : I64 cmp) (h3 : okOpnd lo) (h4 : okOpnd ro)
    (hr : w.ownsRow base 54 13 (.slice A qs.length cap) qs.length (prdCs qs)) (hS : ∀ k, base ≤ k → S k = false) (hp : ∀ x ∈ qs, PIn (erase S w) w.heap.size x.1 x.2) :
    PIn (erase S w) w.heap.size (.mk op cmp lo ro (qs.map (·.1))) (.slice A qs.length cap) := by
  simp only [PIn, List.length_map]
  have hlt : ∀ k, (Value.slice A qs.length cap).ownBlock = some k → base ≤ k ∧ k < w.heap.size := fun k hk => own_base hr hk
  obtain ⟨-, h⟩ := hr
  rcases h with ⟨he, h0⟩ | ⟨g, cap', cur, he, hbg, hblk, hle, hmax, hsz, htake⟩
  · simp only [Value.slice.injEq] at he
    obtain ⟨rfl, -, rfl⟩ := he
    exact ⟨h1, h2, h3, h4, none, 0, rfl, by omega, Nat.zero_le _, fun _ => rfl, fun k hk => (hlt k hk).2, fun h => by omega⟩
  · simp only [Value.slice.injEq] at he
    obtain ⟨rfl, -, rfl⟩ := he
    refine ⟨h1, h2, h3, h4, some ⟨g, 0, none⟩, cap, rfl, hle, hmax, fun h => (by cases h), fun k hk => (hlt k hk).2, fun _ => ⟨g, 0, rfl, (hlt g rfl).2, ps_at qs 0 hp (fun j u hj => ?_)⟩⟩
    rw [Nat.zero_add, World.cell?_of_block (erase_get (S := S) (w := w) (hS g hbg))]
    rw [← htake, List.getElem?_take] at hj
    split at hj
    · exact (Blk.cell hblk j).trans (by simpa using hj)
    · cases hj

end Go.Proofs.YtffdaohmalmkfaaGreat
/-
  PacketOwns: a schema in memory. No program in sight.
-/
namespace Go.Proofs.YtffdaohmalmkfaaGreat
open Go.RowKit
set_option linter.unusedVariables false

structure Tbl where
  name : ByteArray
  cols : List (ByteArray × Int)
  key : Int
  refs : List (List Int × Int)
  chk : List Prd
structure TS where
  cols : Value
  refs : Value
  chk : Value
def colC (l : List (ByteArray × Int)) : List Value := l.flatMap fun c => [.string c.1, .int .i64 c.2]
def tblC (t : Tbl) (s : TS) : List Value := [.string t.name, s.cols, .int .i64 t.key, s.refs, s.chk]
/-- The references of a table. -/
def RefsAt (w : World) (B : Nat) : List (List Int × Int) → Nat → Nat → Prop
  | [], _, _ => True
  | r :: rs, g, o => (∃ s, SlIn w B 1 s r.1.length (r.1.map iv) ∧ CellsAt w g o [s, .int .i64 r.2]) ∧ RefsAt w B rs g (o + 2)
/-- A slice value s of n elements, which lie in a block below B as P says. -/
def LyIn (B : Nat) (s : Value) (n : Nat) (P : Nat → Nat → Prop) : Prop :=
  ∃ (A : Option Addr) (cap : Nat), s = .slice A n cap ∧ n ≤ cap ∧ cap ≤ maxLen ∧ (A = none → cap = 0) ∧ (∀ k, s.ownBlock = some k → k < B) ∧ (0 < n → ∃ g o, A = some ⟨g, o, none⟩ ∧ g < B ∧ P g o)
theorem LyIn.mono {B B' n : Nat} {s : Value} {P Q : Nat → Nat → Prop} (h : LyIn B s n P) (hB : B ≤ B') (hPQ : ∀ g o, g < B → P g o → Q g o) : LyIn B' s n Q := by
  obtain ⟨A, cap, h1, h2, h3, h4, h5, h6⟩ := h
  exact ⟨A, cap, h1, h2, h3, h4, fun k hk => by have := h5 k hk; omega, fun h0 => by obtain ⟨g, o, a, b, c⟩ := h6 h0; exact ⟨g, o, a, by omega, hPQ g o b c⟩⟩
/-- A table in memory: its columns' kinds are those of cells, its key is among its columns. -/
def TIn (w : World) (B : Nat) (t : Tbl) (s : TS) : Prop :=
  SlIn w B 2 s.cols t.cols.length (colC t.cols) ∧ (∀ c ∈ t.cols, 3 ≤ c.2 ∧ c.2 ≤ 5) ∧ t.cols.length ≤ 8 ∧ 1 ≤ t.key ∧ t.key ≤ t.cols.length ∧
  LyIn B s.refs t.refs.length (RefsAt w B t.refs) ∧ LyIn B s.chk t.chk.length (PsAt w B t.chk)
def TsAt (w : World) (B : Nat) : List Tbl → Nat → Nat → Prop
  | [], _, _ => True
  | t :: ts, g, o => (∃ s, TIn w B t s ∧ CellsAt w g o (tblC t s)) ∧ TsAt w B ts g (o + 5)
/-- A schema's value. -/
def SchIn (w : World) (B : Nat) (ver : Int) (ts : List Tbl) (v : Value) : Prop := ∃ s, v = .agg #[.int .i64 ver, s] ∧ I64 ver ∧ ts.length ≤ 4 ∧ LyIn B s ts.length (TsAt w B ts)

theorem RefsAt.old {w w' : World} {B B' : Nat} (ho : Old B w w') (hB : B ≤ B') : ∀ (rs : List (List Int × Int)) (g o : Nat), g < B → RefsAt w B rs g o → RefsAt w' B' rs g o
  | [], _, _, _, _ => by simp only [RefsAt]
  | r :: rs, g, o, hg, h => by
    simp only [RefsAt] at h ⊢
    obtain ⟨⟨s, a, b⟩, c⟩ := h
    exact ⟨⟨s, a.old ho hB, b.old hg ho⟩, RefsAt.old ho hB rs g (o + 2) hg c⟩
theorem TIn.old {w w' : World} {B B' : Nat} (ho : Old B w w') (hB : B ≤ B') {t : Tbl} {s : TS} (h : TIn w B t s) : TIn w' B' t s := by
  obtain ⟨h1, h2, h3, h4, h5, h6, h7⟩ := h
  exact ⟨h1.old ho hB, h2, h3, h4, h5, h6.mono hB (fun g o hg h => RefsAt.old ho hB _ _ _ hg h), h7.mono hB (fun g o hg h => PsAt.old ho hB _ _ _ hg h)⟩
theorem TsAt.old {w w' : World} {B B' : Nat} (ho : Old B w w') (hB : B ≤ B') : ∀ (ts : List Tbl) (g o : Nat), g < B → TsAt w B ts g o → TsAt w' B' ts g o
  | [], _, _, _, _ => by simp only [TsAt]
  | t :: ts, g, o, hg, h => by
    simp only [TsAt] at h ⊢
    obtain ⟨⟨s, a, b⟩, c⟩ := h
    exact ⟨⟨s, TIn.old ho hB a, b.old hg ho⟩, TsAt.old ho hB ts g (o + 5) hg c⟩
theorem SchIn.old {w w' : World} {B B' : Nat} (ho : Old B w w') (hB : B ≤ B') {ver : Int} {ts : List Tbl} {v : Value} (h : SchIn w B ver ts v) : SchIn w' B' ver ts v := by
  obtain ⟨s, h1, h2, h3, h4⟩ := h
  exact ⟨s, h1, h2, h3, h4.mono hB (fun g o hg h => TsAt.old ho hB _ _ _ hg h)⟩
theorem RefsAt.sub0 {w w' : World} {B : Nat} (hc : Sub0 w w') : ∀ (rs : List (List Int × Int)) (g o : Nat), RefsAt w B rs g o → RefsAt w' B rs g o
  | [], _, _, _ => by simp only [RefsAt]
  | r :: rs, g, o, h => by
    simp only [RefsAt] at h ⊢
    obtain ⟨⟨s, a, b⟩, c⟩ := h
    exact ⟨⟨s, SlIn.sub0 hc a, CellsAt.sub0 hc b⟩, RefsAt.sub0 hc rs g (o + 2) c⟩
theorem TIn.sub0 {w w' : World} {B : Nat} (hc : Sub0 w w') {t : Tbl} {s : TS} (h : TIn w B t s) : TIn w' B t s := by
  obtain ⟨h1, h2, h3, h4, h5, h6, h7⟩ := h
  exact ⟨SlIn.sub0 hc h1, h2, h3, h4, h5, h6.mono (Nat.le_refl _) (fun g o _ h => RefsAt.sub0 hc _ _ _ h), h7.mono (Nat.le_refl _) (fun g o _ h => PsAt.sub0 hc _ _ _ h)⟩
theorem TsAt.sub0 {w w' : World} {B : Nat} (hc : Sub0 w w') : ∀ (ts : List Tbl) (g o : Nat), TsAt w B ts g o → TsAt w' B ts g o
  | [], _, _, _ => by simp only [TsAt]
  | t :: ts, g, o, h => by
    simp only [TsAt] at h ⊢
    obtain ⟨⟨s, a, b⟩, c⟩ := h
    exact ⟨⟨s, TIn.sub0 hc a, CellsAt.sub0 hc b⟩, TsAt.sub0 hc ts g (o + 5) c⟩
theorem SchIn.sub0 {w w' : World} {B : Nat} (hc : Sub0 w w') {ver : Int} {ts : List Tbl} {v : Value} (h : SchIn w B ver ts v) : SchIn w' B ver ts v := by
  obtain ⟨s, h1, h2, h3, h4⟩ := h
  exact ⟨s, h1, h2, h3, h4.mono (Nat.le_refl _) (fun g o _ h => TsAt.sub0 hc _ _ _ h)⟩
theorem TsAt.get {w : World} {B : Nat} : ∀ {ts : List Tbl} {g o : Nat}, TsAt w B ts g o → ∀ {i : Nat} {t : Tbl}, ts[i]? = some t → ∃ s, TIn w B t s ∧ CellsAt w g (o + i * 5) (tblC t s)
  | [], _, _, _, i, p, hp => by simp at hp
  | q :: ps, g, o, h, 0, p, hp => by
    simp only [List.getElem?_cons_zero, Option.some.injEq] at hp
    subst hp
    simp only [TsAt] at h
    simpa using h.1
  | q :: ps, g, o, h, i + 1, p, hp => by
    simp only [TsAt] at h
    have h2 := TsAt.get h.2 (i := i) (t := p) (by simpa using hp)
    have e : o + 5 + i * 5 = o + (i + 1) * 5 := by omega
    rw [e] at h2
    exact h2
theorem RefsAt.get {w : World} {B : Nat} : ∀ {ts : List (List Int × Int)} {g o : Nat}, RefsAt w B ts g o → ∀ {i : Nat} {t : List Int × Int}, ts[i]? = some t → ∃ s, SlIn w B 1 s t.1.length (t.1.map iv) ∧ CellsAt w g (o + i * 2) [s, .int .i64 t.2]
  | [], _, _, _, i, p, hp => by simp at hp
  | q :: ps, g, o, h, 0, p, hp => by
    simp only [List.getElem?_cons_zero, Option.some.injEq] at hp
    subst hp
    simp only [RefsAt] at h
    simpa using h.1
  | q :: ps, g, o, h, i + 1, p, hp => by
    simp only [RefsAt] at h
    have h2 := RefsAt.get h.2 (i := i) (t := p) (by simpa using hp)
    have e : o + 2 + i * 2 = o + (i + 1) * 2 := by omega
    rw [e] at h2
    exact h2

end Go.Proofs.YtffdaohmalmkfaaGreat
/-
  PacketOwns: trees under one more erased block. No program in sight.
-/
namespace Go.Proofs.YtffdaohmalmkfaaGreat
open Go.RowKit
set_option linter.unusedVariables false

/-- One more block. -/
def more (S : Nat → Bool) (R : Nat) : Nat → Bool := fun k => S k || k == R
theorem more_old {S : Nat → Bool} {R k : Nat} (h : k < R) : more S R k = S k := by
  have : (k == R) = false := by rw [beq_eq_false_iff_ne]; omega
  simp [more, this]
theorem more_self (S : Nat → Bool) (R : Nat) : more S R R = true := by simp [more]
theorem more_le {S : Nat → Bool} {R k : Nat} (h : S k = true) : more S R k = true := by simp [more, h]
theorem more_no {S : Nat → Bool} {R k : Nat} (h : more S R k = false) : S k = false := by
  cases hs : S k with
  | false => rfl
  | true => rw [more_le hs] at h; cases h
theorem more_sub (S : Nat → Bool) (R : Nat) (w : World) : Sub0 (erase (more S R) w) (erase S w) := fun a u h => by
  cases hs : more S R a.block with
  | true => rw [erase_none hs] at h; cases h
  | false =>
    rw [World.cell?_of_block (erase_get hs)] at h
    rw [World.cell?_of_block (erase_get (more_no hs))]
    exact h
/-- What is read without R stays when R is set. -/
theorem PIn.setRow {S : Nat → Bool} {R : Nat} {w : World} {p : Prd} {s : Value} (h : PIn (erase (more S R) w) w.heap.size p s) (cs : Array Value) : PIn (erase S (w.setRow R cs)) (w.setRow R cs).heap.size p s := by
  have hk : Kept (Kone R) w (w.setRow R cs) := Kept.setRow (S := Kone R) (Kept.refl _ _) (fun _ => Eq.refl R) cs
  have ho := (erase_kept (S := more S R) (S' := more S R) hk (fun k hk => by unfold Kone at hk; rw [hk]; exact more_self S R) (fun _ _ => rfl)).old (B := w.heap.size) (by rw [erase_size]; exact Nat.le_refl _) (fun _ _ h => h)
  exact PIn.sub0 (more_sub S R _) _ _ (PIn.old ho hk.size _ _ h)
/-- Not: a node over one new row. -/
theorem PIn.one_ {S : Nat → Bool} {w : World} {p : Prd} {s : Value} {op cmp : Int} {lo ro : Opnd} (h1 : I64 op) (h2 : I64 cmp) (h3 : okOpnd lo) (h4 : okOpnd ro) (hS : ∀ k, w.heap.size ≤ k → S k = false) (hp : PIn (erase S w) w.heap.size p s) :
    PIn (erase S (w.alloc (.cells (p.cells s).toArray 54))) (w.alloc (.cells (p.cells s).toArray 54)).heap.size (.mk op cmp lo ro [p]) (.slice (some ⟨w.heap.size, 0, none⟩) 1 1) := by
  have hk : Kept Kno w (w.alloc (.cells (p.cells s).toArray 54)) := (Kept.refl _ _).alloc _
  have ho := (erase_kept (S := S) (S' := S) hk (fun k h => h.elim) (fun _ _ => rfl)).old (B := w.heap.size) (by rw [erase_size]; exact Nat.le_refl _) (fun _ _ h => h)
  have hr : (w.alloc (.cells (p.cells s).toArray 54)).ownsRow w.heap.size 54 13 (.slice (some ⟨w.heap.size, 0, none⟩) 1 1) 1 (prdCs [(p, s)]) := by
    have hn := p.cells_length s
    refine ⟨by simp [prdCs, hn], .inr ⟨w.heap.size, 1, (p.cells s).toArray, rfl, Nat.le_refl _, Blk.new _ _ _, Nat.le_refl _, by decide, by simp [hn], ?_⟩⟩
    simp only [prdCs, List.map_cons, List.map_nil, List.flatten_cons, List.flatten_nil, List.append_nil]
    rw [List.take_of_length_le (by simp [hn])]
  exact PIn.node (S := S) [(p, s)] h1 h2 h3 h4 hr hS (fun x hx => by
    simp only [List.mem_singleton] at hx
    subst hx
    exact PIn.old ho hk.size _ _ hp)

end Go.Proofs.YtffdaohmalmkfaaGreat
/-
  PacketOwns: rows that are being built out of things that lie elsewhere. No program in sight.
-/
namespace Go.Proofs.YtffdaohmalmkfaaGreat
open Go.RowKit
set_option linter.unusedVariables false

/-- The blocks of S and the row of v. -/
def orow (S : Nat → Bool) (v : Value) : Nat → Bool := fun k => S k || decide (v.ownBlock = some k)
def uni (S S' : Nat → Bool) : Nat → Bool := fun k => S k || S' k
theorem orow_le {S : Nat → Bool} {v : Value} {k : Nat} (h : S k = true) : orow S v k = true := by simp [orow, h]
theorem orow_own {S : Nat → Bool} {v : Value} {k : Nat} (h : v.ownBlock = some k) : orow S v k = true := by simp [orow, h]
theorem orow_cases {S : Nat → Bool} {v : Value} {k : Nat} (h : orow S v k = true) : S k = true ∨ v.ownBlock = some k := by simpa [orow] using h
theorem orow_old {S : Nat → Bool} {v : Value} {k base : Nat} (hv : ∀ k, v.ownBlock = some k → base ≤ k) (h : k < base) : orow S v k = S k := by
  have : ¬ v.ownBlock = some k := fun e => absurd (hv k e) (by omega)
  simp [orow, this]
theorem sub_le {S S' : Nat → Bool} (h : ∀ k, S k = true → S' k = true) (w : World) : Sub0 (erase S' w) (erase S w) := fun a u ha => by
  cases hs : S' a.block with
  | true => rw [erase_none hs] at ha; cases ha
  | false =>
    have hs' : S a.block = false := by
      cases hx : S a.block with
      | false => rfl
      | true => rw [h _ hx] at hs; cases hs
    rw [World.cell?_of_block (erase_get hs)] at ha
    rw [World.cell?_of_block (erase_get hs')]
    exact ha
theorem orow_sub (S : Nat → Bool) (v : Value) (w : World) : Sub0 (erase (orow S v) w) (erase S w) := sub_le (fun _ h => orow_le h) w
theorem uni_sub (S S' : Nat → Bool) (w : World) : Sub0 (erase (uni S S') w) (erase S' w) := sub_le (fun k h => by simp [uni, h]) w
theorem orow_next {S : Nat → Bool} {v v' : Value} {n : Nat} (hat : v'.ownBlock = v.ownBlock ∨ v'.ownBlock = some n) {k : Nat} (hk : k < n) (h : orow S v' k = true) : orow S v k = true := by
  rcases orow_cases h with h | h
  · exact orow_le h
  · rcases hat with e | e
    · exact orow_own (e ▸ h)
    · rw [e] at h
      cases h
      omega
theorem grown_old {S S' : Nat → Bool} {w w' : World} {row : Option Nat} (hg : w.grownBy w' row) (hrow : ∀ k, row = some k → S k = true) (hS : ∀ k, k < w.heap.size → S' k = true → S k = true) : Old w.heap.size (erase S w) (erase (uni S S') w') := fun k hk => by
  have hk' : k < w'.heap.size := Nat.lt_of_lt_of_le hk hg.size
  cases hs : S k with
  | true =>
    have : uni S S' k = true := by simp [uni, hs]
    rw [erase_gone hs hk, erase_gone this hk']
  | false =>
    have h2 : S' k = false := by
      cases hx : S' k with
      | false => rfl
      | true => rw [hS k hk hx] at hs; cases hs
    have : uni S S' k = false := by simp [uni, hs, h2]
    rw [erase_get hs, erase_get this]
    exact hg.block k hk (fun e => by rw [hrow k e.symm] at hs; cases hs)
section
variable {S : Nat → Bool} {w w' : World} {v v' : Value}
/-- What is read without the row v stays when the row is appended to. -/
theorem PIn.app {p : Prd} {s : Value} (h : PIn (erase (orow S v) w) w.heap.size p s) (hg : w.grownBy w' v.ownBlock) (hat : v'.ownBlock = v.ownBlock ∨ v'.ownBlock = some w.heap.size) : PIn (erase (orow S v') w') w'.heap.size p s :=
  PIn.sub0 (uni_sub _ _ _) _ _ (PIn.old (grown_old hg (fun k hk => orow_own hk) (fun k hk => orow_next hat hk)) hg.size _ _ h)
theorem PIn.keep {R : Nat → Prop} {p : Prd} {s : Value} (h : PIn (erase S w) w.heap.size p s) (hk : Kept R w w') (hR : ∀ k, R k → S k = true) : PIn (erase S w') w'.heap.size p s :=
  PIn.old ((erase_kept hk hR (fun _ _ => rfl)).old (B := w.heap.size) (by rw [erase_size]; exact Nat.le_refl _) (fun _ _ h => h)) hk.size _ _ h
end

/-! Drawn regions by hand. -/
theorem wpAnyH_takeE {P : Program} {ops : Array Oper} {Q : Exit → Act → World → Prop} {md : Region.Mode} {S : World → Prop} {i d : Nat} {oi : Oper} {v : Value} {fuel : Nat} {listed : Array Bool} {tm : Array Value} {df : List Deferred} {w : World} (hi : ops[i]? = some oi) (hd : oi.dst = some d)
    (hs : Region.noSelect ops = true) (hf : Region.free md ops listed i = true) (hr : (Region.ready md ops listed).contains i = true)
    (hQ : ∀ c a w, Q (.panic c) (a.put oi.dst v) w → Q (.panic c) a w) (hy : YieldsIf P ops S oi v ⟨tm, df⟩) (hS : S w)
    (h : wpAnyH P md ops Q S fuel (listed.setIfInBounds i true) ⟨tm.setIfInBounds d v, df⟩ w) : wpAnyH P md ops Q S (fuel + 1) listed ⟨tm, df⟩ w :=
  wpAnyH_take hi hs hf hr hQ hy hS (by rw [hd]; exact h)
theorem yieldsIf_load_atE {P : Program} {ops : Array Oper} {S : World → Prop} {op : Oper} {a : Act} (hw : Region.wanted op (yielded ops a.tmps) = true) (ty : TypeId) (x : Operand) (ho : op.op = .load ty x)
    (g o : Nat) (hx : a.eval x = .pointer (some ⟨g, o, none⟩)) (cs : List Value) (d : TypeDesc) (hS : ∀ w, S w → CellsAt w g o cs)
    (hu : P.underlying ty = some d) (hd : (match d with | .struct _ | .array _ _ => true | _ => false) = true) (hi : (P.info? ty).map (·.size) = some cs.length) : YieldsIf P ops S op (.agg cs.toArray) a :=
  .inl ⟨hw, fun w hw' => by
    have hr := run_loadVar_at (P := P) w ty g o cs d (hS w hw') hu hd hi
    unfold execOp
    simp only [ho, hx, Instr.loadAt, Instr.sureAddr, Sem.run_bind, Sem.run_pure, Result.andThen_ok, hr]⟩

end Go.Proofs.YtffdaohmalmkfaaGreat
/-
  Lists of numbers and rows compared with themselves.
-/
namespace Go.Proofs.YtffdaohmalmkfaaGreat
open Go.RowKit
set_option linter.unusedVariables false

def IdxRel (n : Nat) (w : World) (i : Value) (wr : World) : Prop := ∃ k : Nat, k ≤ n ∧ i = .int .i64 k ∧ Kept Kno w wr

set_option maxRecDepth 100000 in
set_option maxHeartbeats 2000000 in
theorem xsameInts (u v : Value) (xs : List Int) (B : Nat) (w : World) (hu : SlIn w B 1 u xs.length (xs.map iv)) (hv : SlIn w B 1 v xs.length (xs.map iv)) (hB : B ≤ w.heap.size) :
    Calls Tryz.prog 40 #[u, v] w (RetBool true w) := by
  obtain ⟨A, cap, rfl, hcap, hmax, -, hnil, hlow, hat⟩ := hu
  obtain ⟨A', cap', rfl, hcap', -, -, hnil', hlow', hat'⟩ := hv
  have HAT := Lib.hid hat
  have HAT' := Lib.hid hat'
  have hmax' : cap ≤ 9223372036854775807 := by simpa only [maxLen] using hmax
  clear hat hat' hnil hnil' hlow hlow' hmax
  go_enter Tryz.func40, Tryz.ntmps40
  go_wp2_with fail
  go_loopw [13] (fun i wr => IdxRel xs.length w i wr) (fun i _ => xs.length - (intOf i).toNat)
  case atStart => exact ⟨0, Nat.zero_le _, rfl, Kept.refl _ _⟩
  case round =>
    obtain ⟨k, hk, rfl, hkk⟩ := hrel
    by_cases hlt : k < xs.length
    · obtain ⟨g, o, rfl, hgB, hc⟩ := HAT.out (by omega)
      obtain ⟨g', o', rfl, hgB', hc'⟩ := HAT'.out (by omega)
      have hold : Old B w wr := hkk.old hB (fun _ _ h => h)
      obtain ⟨x, hx⟩ : ∃ x, xs[k]? = some x := ⟨xs[k], List.getElem?_eq_getElem hlt⟩
      have c0 : wr.cell? ⟨g, o + k, none⟩ = some (.int .i64 x) := (hc.old hgB hold) k (iv x) (by rw [List.getElem?_map, hx]; rfl)
      have c1 : wr.cell? ⟨g', o' + k, none⟩ = some (.int .i64 x) := (hc'.old hgB' hold) k (iv x) (by rw [List.getElem?_map, hx]; rfl)
      have hk0 : (0 : Int) ≤ (k : Int) := by omega
      have hk9 : (k : Int) < (xs.length : Int) := by omega
      have HK := Lib.hid hkk
      clear hc hc' hx hold hkk
      go_wp2_with fail
      go_quiet (fail)
      have HK2 := Lib.hid (HK.out.trans ((Kept.refl Kno wr).drewN nq) (fun _ _ h => h))
      go_wp2
      go_roundw
      case rel => exact ⟨k + 1, by omega, by go_num, HK2.out⟩
      case measure => simp [intOf]; omega
    · have hk9 : ¬ (k : Int) < (xs.length : Int) := by omega
      have HX : Hid (RetBool true w (.returned (.bool true)) wr) := Lib.hid ⟨rfl, hkk⟩
      clear hkk
      go_wp2
      go_ret
      exact HX.out

set_option maxRecDepth 100000 in
set_option maxHeartbeats 2000000 in
theorem equal_same (u v : Value) (xs : List Int) (B : Nat) (w : World) (hu : SlIn w B 1 u xs.length (xs.map iv)) (hv : SlIn w B 1 v xs.length (xs.map iv)) (hB : B ≤ w.heap.size) :
    Calls Tryz.prog 119 #[u, v] w (RetBool true w) := by
  obtain ⟨A, cap, rfl, hcap, hmax, -, hnil, hlow, hat⟩ := hu
  obtain ⟨A', cap', rfl, hcap', -, -, hnil', hlow', hat'⟩ := hv
  have HAT := Lib.hid hat
  have HAT' := Lib.hid hat'
  have hmax' : cap ≤ 9223372036854775807 := by simpa only [maxLen] using hmax
  clear hat hat' hnil hnil' hlow hlow' hmax
  go_enter Tryz.func119, Tryz.ntmps119
  go_wp2_with fail
  go_loopw [13] (fun i wr => IdxRel xs.length w i wr) (fun i _ => xs.length - (intOf i).toNat)
  case atStart => exact ⟨0, Nat.zero_le _, rfl, Kept.refl _ _⟩
  case round =>
    obtain ⟨k, hk, rfl, hkk⟩ := hrel
    by_cases hlt : k < xs.length
    · obtain ⟨g, o, rfl, hgB, hc⟩ := HAT.out (by omega)
      obtain ⟨g', o', rfl, hgB', hc'⟩ := HAT'.out (by omega)
      have hold : Old B w wr := hkk.old hB (fun _ _ h => h)
      obtain ⟨x, hx⟩ : ∃ x, xs[k]? = some x := ⟨xs[k], List.getElem?_eq_getElem hlt⟩
      have c0 : wr.cell? ⟨g, o + k, none⟩ = some (.int .i64 x) := (hc.old hgB hold) k (iv x) (by rw [List.getElem?_map, hx]; rfl)
      have c1 : wr.cell? ⟨g', o' + k, none⟩ = some (.int .i64 x) := (hc'.old hgB' hold) k (iv x) (by rw [List.getElem?_map, hx]; rfl)
      have hk0 : (0 : Int) ≤ (k : Int) := by omega
      have hk9 : (k : Int) < (xs.length : Int) := by omega
      have HK := Lib.hid hkk
      clear hc hc' hx hold hkk
      go_wp2_with fail
      go_quiet (fail)
      have HK2 := Lib.hid (HK.out.trans ((Kept.refl Kno wr).drewN nq) (fun _ _ h => h))
      go_wp2
      go_roundw
      case rel => exact ⟨k + 1, by omega, by go_num, HK2.out⟩
      case measure => simp [intOf]; omega
    · have hk9 : ¬ (k : Int) < (xs.length : Int) := by omega
      have HX : Hid (RetBool true w (.returned (.bool true)) wr) := Lib.hid ⟨rfl, hkk⟩
      clear hkk
      go_wp2
      go_ret
      exact HX.out

theorem bytesLess_irrefl : ∀ l : List UInt8, Op.bytesLess l l = false
  | [] => rfl
  | c :: r => by simp [Op.bytesLess, bytesLess_irrefl r]

set_option maxHeartbeats 1000000 in
theorem compare_same (kind n : Int) (s : ByteArray) (w : World) :
    Calls Tryz.prog 120 #[.agg #[.int .i64 kind, .int .i64 n, .string s], .agg #[.int .i64 kind, .int .i64 n, .string s]] w (RetNew (.int .i64 0) w) := by
  have hs := bytesLess_irrefl s.toList
  have h1 : ¬ kind < kind := by omega
  have h2 : ¬ n < n := by omega
  go_enter Tryz.func120, Tryz.ntmps120
  go_wp2
  go_ret
  exact ⟨rfl, ((Kept.refl _ _).alloc _).alloc _⟩

def CmpRel (xs : List Val) (w : World) (i : Value) (wr : World) : Prop := ∃ j : Nat, j ≤ xs.length ∧ i = .int .i64 j ∧ Kept Kno w wr

set_option maxRecDepth 100000 in
set_option maxHeartbeats 2000000 in
theorem compareRows_same (u v : Value) (xs : List Val) (w : World) (hu : RowIn w u xs) (hv : RowIn w v xs) :
    Calls Tryz.prog 58 #[u, v] w (RetNew (.int .i64 0) w) := by
  have HU := Lib.hid hu
  have HV := Lib.hid hv
  obtain ⟨A, cap, rfl, hlc, hlm, -, -⟩ := hu
  obtain ⟨B, cap2, rfl, hlc2, -, -, -⟩ := hv
  have hll : xs.length ≤ 9223372036854775807 := by simp only [maxLen] at hlm; omega
  go_enter Tryz.func58, Tryz.ntmps58
  go_wp2_with fail
  go_loopw [5] (fun i wr => CmpRel xs w i wr) (fun i _ => xs.length - (intOf i).toNat)
  case atStart => exact ⟨0, by omega, rfl, Kept.refl _ _⟩
  case round =>
    obtain ⟨j, hj, rfl, hk⟩ := hrel
    by_cases hlt : j < xs.length
    · have hlt' : (j : Int) < (xs.length : Int) := by omega
      have hj0 : (0 : Int) ≤ (j : Int) := by omega
      obtain ⟨x, hx⟩ : ∃ x, xs[j]? = some x := ⟨_, List.getElem?_eq_getElem hlt⟩
      obtain ⟨A', capA, hv1, -, -, hcA, -⟩ := HU.out.kept0 hk
      injection hv1 with e1 e2 e3
      subst e1 e3
      obtain ⟨B', capB, hv2, -, -, hcB, -⟩ := HV.out.kept0 hk
      injection hv2 with e1 e2 e3
      subst e1 e3
      obtain ⟨g, o, rfl, hA⟩ := hcA (by omega)
      obtain ⟨g2, o2, rfl, hB⟩ := hcB (by omega)
      obtain ⟨a0, a1, a2⟩ := hA j x hx
      obtain ⟨b0, b1, b2⟩ := hB j x hx
      obtain ⟨kind, n, s⟩ := x
      simp only at a0 a1 a2 b0 b1 b2
      clear hA hB hcA hcB e2 hx
      go_upto_region 4 with (fail)
      go_region_held3 (fun w' => w'.cell? ⟨g, o + j * 3, none⟩ = some (.int .i64 kind) ∧ w'.cell? ⟨g, o + j * 3 + 1, none⟩ = some (.int .i64 n) ∧ w'.cell? ⟨g, o + j * 3 + 1 + 1, none⟩ = some (.string s) ∧ w'.cell? ⟨g2, o2 + j * 3, none⟩ = some (.int .i64 kind) ∧ w'.cell? ⟨g2, o2 + j * 3 + 1, none⟩ = some (.int .i64 n) ∧ w'.cell? ⟨g2, o2 + j * 3 + 1 + 1, none⟩ = some (.string s)) (first | (exact ⟨r0, r1, r2, r3, r4, r5⟩) | (exact ⟨a0, a1, a2, b0, b1, b2⟩) | go_keep)
        (first | (go_at_call 120; refine (compare_same _ _ _ _).mono ?_; rintro e w9 ⟨rfl, hkk9⟩; have hk9 : Kept Kno w w9 := (hk.drew).then0 hkk9; have r0 := hkk9.cell_some (p := ⟨g, o + j * 3, none⟩) a0 (fun h => h); have r1 := hkk9.cell_some (p := ⟨g, o + j * 3 + 1, none⟩) a1 (fun h => h); have r2 := hkk9.cell_some (p := ⟨g, o + j * 3 + 1 + 1, none⟩) a2 (fun h => h); have r3 := hkk9.cell_some (p := ⟨g2, o2 + j * 3, none⟩) b0 (fun h => h); have r4 := hkk9.cell_some (p := ⟨g2, o2 + j * 3 + 1, none⟩) b1 (fun h => h); have r5 := hkk9.cell_some (p := ⟨g2, o2 + j * 3 + 1 + 1, none⟩) b2 (fun h => h); clear hkk9))
      clear r0 r1 r2 r3 r4 r5 a0 a1 a2 b0 b1 b2
      go_wp2
      go_roundw
      case rel => exact ⟨j + 1, by omega, by go_num, hk9⟩
      case measure => simp only [intOf]; omega
    · have hlt' : ¬ (j : Int) < (xs.length : Int) := by omega
      have h2 : ¬ (xs.length : Int) < (xs.length : Int) := by omega
      go_wp2
      go_ret
      exact ⟨rfl, hk⟩

end Go.Proofs.YtffdaohmalmkfaaGreat
