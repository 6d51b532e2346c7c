/-
  PacketOwns: the case's tree of predicates.
-/
import Derived.Test.YtffdaohmalmkfaaGreatW22
import Derived.Test.YtffdaohmalmkfaaGreatW23
import Derived.Deep.DeepCutAuto
import Derived.Great.BuildSlice
import Derived.IntWalk
set_option linter.unusedSimpArgs false
set_option linter.unusedVariables false
namespace Go.Proofs.YtffdaohmalmkfaaGreat
open Go.RowKit
set_option linter.unusedVariables false

theorem Goes.of0 {K : Nat} {v : Value} {l : List UInt8} {w w' : World} (hc : ∃ a, CaseIs w K v l a) (hk : Kept Kno w w') : Goes K v l w w' := by
  obtain ⟨a, h⟩ := hc
  exact ⟨⟨a, h.kept0 hk⟩, hk.mono (fun _ _ h => h.elim)⟩
theorem Goes.then_ {K : Nat} {v : Value} {l : List UInt8} {w w1 w2 : World} (h : Goes K v l w w1) (h2 : Goes K v l w1 w2) : Goes K v l w w2 := Goes.trans h.2 h2
theorem Goes.then0 {K : Nat} {v : Value} {l : List UInt8} {w w1 w2 : World} (h : Goes K v l w w1) (h2 : Kept Kno w1 w2) : Goes K v l w w2 := h.then_ (Goes.of0 h.1 h2)
/-- What a tree is made of. -/
structure TrPre (S : Nat → Bool) (K : Nat) (v : Value) (l : List UInt8) (us vs : Value) (ks ps : List Int) (B0 : Nat) (w : World) : Prop where
  c : ∃ a, CaseIs w K v l a
  u : SlIn (erase S w) B0 1 us ks.length (ks.map iv)
  p : SlIn (erase S w) B0 1 vs ps.length (ps.map iv)
  B : B0 ≤ w.heap.size
  SK : S K = true
  lt : ∀ k, S k = true → k < w.heap.size
  kind : ∀ x ∈ ks, 3 ≤ x ∧ x ≤ 5
  kl : ks.length ≤ 1000
  pl : ps.length ≤ 1000
section
variable {S : Nat → Bool} {K : Nat} {v : Value} {l : List UInt8} {us vs : Value} {ks ps : List Int} {B0 : Nat} {w w' : World}
theorem goes_erase (hSK : S K = true) (hg : Kept (Kone K) w w') : Kept Kno (erase S w) (erase S w') := erase_kept hg (fun k hk => by unfold Kone at hk; subst hk; exact hSK) (fun _ _ => rfl)
theorem TrPre.step (h : TrPre S K v l us vs ks ps B0 w) (hg : Goes K v l w w') : TrPre S K v l us vs ks ps B0 w' := by
  have ho : Old B0 (erase S w) (erase S w') := (goes_erase h.SK hg.2).old (by rw [erase_size]; exact h.B) (fun _ _ h => h)
  exact ⟨hg.1, h.u.old ho (Nat.le_refl _), h.p.old ho (Nat.le_refl _), Nat.le_trans h.B hg.2.size, h.SK, fun k hk => Nat.lt_of_lt_of_le (h.lt k hk) hg.2.size, h.kind, h.kl, h.pl⟩
theorem TrPre.step0 (h : TrPre S K v l us vs ks ps B0 w) (hk : Kept Kno w w') : TrPre S K v l us vs ks ps B0 w' := h.step (Goes.of0 h.c hk)
theorem TrPre.more (h : TrPre S K v l us vs ks ps B0 w) (hg : Goes K v l w w') (hlt : w.heap.size < w'.heap.size) : TrPre (more S w.heap.size) K v l us vs ks ps B0 w' := by
  have hk : Kept Kno (erase S w) (erase (Go.Proofs.YtffdaohmalmkfaaGreat.more S w.heap.size) w') := erase_kept hg.2 (fun k hk => by unfold Kone at hk; subst hk; exact h.SK) (fun k hk => more_old hk)
  have ho : Old B0 (erase S w) (erase (Go.Proofs.YtffdaohmalmkfaaGreat.more S w.heap.size) w') := hk.old (by rw [erase_size]; exact h.B) (fun _ _ h => h)
  refine ⟨hg.1, h.u.old ho (Nat.le_refl _), h.p.old ho (Nat.le_refl _), Nat.le_trans h.B hg.2.size, more_le h.SK, fun k hk => ?_, h.kind, h.kl, h.pl⟩
  by_cases hkw : k < w.heap.size
  · exact Nat.lt_of_lt_of_le hkw hg.2.size
  · cases hs : S k with
    | true => exact absurd (h.lt k hs) hkw
    | false =>
      have : k = w.heap.size := by simpa [Go.Proofs.YtffdaohmalmkfaaGreat.more, hs] using hk
      omega
theorem TrPre.int (h : TrPre S K v l us vs ks ps B0 w) (n : Nat) (h1 : 1 ≤ n) (h2 : n ≤ 1000000) : Calls Tryz.prog 25 #[.pointer (some ⟨K, 0, none⟩), .int .i64 n] w (IntOk K v l n w) := by
  obtain ⟨a, hc⟩ := h.c
  exact int_any K a n v l w hc h1 h2
theorem TrPre.bool (h : TrPre S K v l us vs ks ps B0 w) (n : Nat) (h1 : 1 ≤ n) (h2 : n ≤ 1000000) : Calls Tryz.prog 31 #[.pointer (some ⟨K, 0, none⟩), .int .i64 n] w (BoolOk K v l w) := by
  obtain ⟨a, hc⟩ := h.c
  exact cbool_any K a n v l w hc h1 h2
theorem TrPre.value (h : TrPre S K v l us vs ks ps B0 w) (kind : Int) (h1 : 3 ≤ kind) (h2 : kind ≤ 5) : Calls Tryz.prog 51 #[.pointer (some ⟨K, 0, none⟩), .int .i64 kind] w (KindOk K kind v l w) := by
  obtain ⟨a, hc⟩ := h.c
  exact valueK_any K a kind v l w hc h1 h2
theorem TrPre.operand (h : TrPre S K v l us vs ks ps B0 w) (kind : Int) (h1 : 3 ≤ kind) (h2 : kind ≤ 5) : Calls Tryz.prog 209 #[.pointer (some ⟨K, 0, none⟩), us, vs, .int .i64 kind] w (OpndOk K v l w) := by
  obtain ⟨a, hc⟩ := h.c
  exact coperand_any K a v l us vs ks ps kind B0 w hc (SlIn.sub0 (erase_sub S w) h.u) (SlIn.sub0 (erase_sub S w) h.p) h.B h.kl h.pl h1 h2
end
theorem Goes.setRow' {K R : Nat} {v : Value} {l : List UInt8} {w w4 : World} (h : ∃ a, CaseIs w K v l a) (hg : Goes K v l w w4) (hR : w.heap.size ≤ R) (cs : Array Value) : Goes K v l w (w4.setRow R cs) := by
  obtain ⟨a, h⟩ := h
  exact Goes.setRow h hg hR cs
theorem Goes.setNew {K : Nat} {v : Value} {l : List UInt8} {w w4 : World} (h : ∃ a, CaseIs w K v l a) (hg : Goes K v l w w4) {p : Addr} (hR : w.heap.size ≤ p.block) (u : Value) : Goes K v l w (w4.setCell p u) := by
  obtain ⟨a, h⟩ := h
  obtain ⟨⟨a4, c4⟩, hk⟩ := hg
  have hk' : Kept (Kone K) w (w4.setCell p u) := hk.setNew hR u
  exact ⟨⟨a4, h.kept hk' (c4.blk.far (by have := h.blk.lt; omega) u)⟩, hk'⟩
section
variable {w4 : World} {T k1 k2 k3 k4 k5 : Nat} {u1 u2 u3 u4 u5 : Value}
theorem Goes.set5 {K : Nat} {v : Value} {l : List UInt8} {w : World} (h : ∃ a, CaseIs w K v l a) (hg : Goes K v l w w4) (hT : w.heap.size ≤ T) : Goes K v l w (((((w4.setCell ⟨T, k1, none⟩ u1).setCell ⟨T, k2, none⟩ u2).setCell ⟨T, k3, none⟩ u3).setCell ⟨T, k4, none⟩ u4).setCell ⟨T, k5, none⟩ u5) :=
  Goes.setNew h (Goes.setNew h (Goes.setNew h (Goes.setNew h (Goes.setNew h hg hT u1) hT u2) hT u3) hT u4) hT u5
theorem Blk.far5 {R : Nat} {t : TypeId} {cs : Array Value} (h : Blk w4 R t cs) (hne : R ≠ T) : Blk (((((w4.setCell ⟨T, k1, none⟩ u1).setCell ⟨T, k2, none⟩ u2).setCell ⟨T, k3, none⟩ u3).setCell ⟨T, k4, none⟩ u4).setCell ⟨T, k5, none⟩ u5) R t cs := ((((h.far (p := ⟨T, k1, none⟩) hne u1).far (p := ⟨T, k2, none⟩) hne u2).far (p := ⟨T, k3, none⟩) hne u3).far (p := ⟨T, k4, none⟩) hne u4).far (p := ⟨T, k5, none⟩) hne u5
theorem Blk.set5 {t : TypeId} {cs ds : Array Value} (h : Blk w4 T t cs) (hd : ((((cs.setIfInBounds k1 u1).setIfInBounds k2 u2).setIfInBounds k3 u3).setIfInBounds k4 u4).setIfInBounds k5 u5 = ds) : Blk (((((w4.setCell ⟨T, k1, none⟩ u1).setCell ⟨T, k2, none⟩ u2).setCell ⟨T, k3, none⟩ u3).setCell ⟨T, k4, none⟩ u4).setCell ⟨T, k5, none⟩ u5) T t ds := by
  subst hd
  exact ((((h.set_ k1 u1).set_ k2 u2).set_ k3 u3).set_ k4 u4).set_ k5 u5
end
def prdZ : List Value := [.int .i64 0, .int .i64 0, .int .i64 0, .int .i64 0, .int .i64 0, .int .i64 0, .string ⟨#[]⟩, .int .i64 0, .int .i64 0, .int .i64 0, .int .i64 0, .string ⟨#[]⟩, .slice none 0 0]
def prdL (op cmp : Int) (l r : Opnd) (s : Value) : List Value := [.int .i64 op, .int .i64 cmp, .int .i64 l.kind, .int .i64 l.idx, .int .i64 l.val.kind, .int .i64 l.val.n, .string l.val.s, .int .i64 r.kind, .int .i64 r.idx, .int .i64 r.val.kind, .int .i64 r.val.n, .string r.val.s, s]
theorem prdL_one {op cmp : Int} {l r : Opnd} {A : Option Addr} {n c : Nat} : (prdL op cmp l r (.slice A n c)).toArray.all (·.oneCell') = true := by simp [prdL, Value.oneCell']
theorem prdL_r (op cmp : Int) (lo ro r2 : Opnd) (s : Value) : (((((prdL op cmp lo ro s).toArray.setIfInBounds 7 (.int .i64 r2.kind)).setIfInBounds 8 (.int .i64 r2.idx)).setIfInBounds 9 (.int .i64 r2.val.kind)).setIfInBounds 10 (.int .i64 r2.val.n)).setIfInBounds 11 (.string r2.val.s) = (prdL op cmp lo r2 s).toArray := rfl
theorem prdL_l (op cmp : Int) (lo ro l2 : Opnd) (s : Value) : (((((prdL op cmp lo ro s).toArray.setIfInBounds 2 (.int .i64 l2.kind)).setIfInBounds 3 (.int .i64 l2.idx)).setIfInBounds 4 (.int .i64 l2.val.kind)).setIfInBounds 5 (.int .i64 l2.val.n)).setIfInBounds 6 (.string l2.val.s) = (prdL op cmp l2 ro s).toArray := rfl
theorem opd0_ok : okOpnd ⟨0, 0, ⟨0, 0, ⟨#[]⟩⟩⟩ := ok_idx 0 0 (by decide) (by decide) (by decide)

theorem TrPre.at2 {S S' : Nat → Bool} {K : Nat} {v : Value} {l : List UInt8} {us vs : Value} {ks ps : List Int} {B0 : Nat} {w w' : World} (h : TrPre S K v l us vs ks ps B0 w) (hg : Goes K v l w w') (hS : ∀ k, k < w.heap.size → S' k = S k) (hlt : ∀ k, S' k = true → k < w'.heap.size) : TrPre S' K v l us vs ks ps B0 w' := by
  have hk : Kept Kno (erase S w) (erase S' w') := erase_kept hg.2 (fun k hk => by unfold Kone at hk; subst hk; exact h.SK) hS
  have ho : Old B0 (erase S w) (erase S' w') := hk.old (by rw [erase_size]; exact h.B) (fun _ _ h => h)
  exact ⟨hg.1, h.u.old ho (Nat.le_refl _), h.p.old ho (Nat.le_refl _), Nat.le_trans h.B hg.2.size, by rw [hS K (h.lt K h.SK)]; exact h.SK, hlt, h.kind, h.kl, h.pl⟩
/-- A node's arguments under way: T its block, R the result's. -/
def TreesRel (S : Nat → Bool) (K : Nat) (v : Value) (l : List UInt8) (T R : Nat) (op : Int) (w : World) (i : Value) (wr : World) : Prop :=
  ∃ (j : Int) (A : Option Addr) (cap : Nat) (qs : List (Prd × Value)), -1 ≤ j ∧ j ≤ 2 ∧ i = .int .i64 j ∧ Blk wr T 54 (prdL op 0 ⟨0, 0, ⟨0, 0, ⟨#[]⟩⟩⟩ ⟨0, 0, ⟨0, 0, ⟨#[]⟩⟩⟩ (.slice A qs.length cap)).toArray ∧ wr.ownsRow (T + 1) 54 13 (.slice A qs.length cap) qs.length (prdCs qs) ∧
    (qs.length : Int) + (j + 1) ≤ 3 ∧ (∀ x ∈ qs, PIn (erase (orow (more (more S R) T) (.slice A qs.length cap)) wr) wr.heap.size x.1 x.2) ∧ Goes K v l w wr ∧ Blk wr R 54 prdZ.toArray
theorem info_prd : (Tryz.prog.info? 54).map (fun i => (i.zero, i.size, i.bytes)) = some (some (.agg prdZ.toArray), 13, 136) := by kernel_rfl

structure TreesX (S : Nat → Bool) (K : Nat) (v : Value) (l : List UInt8) (T R : Nat) (op : Int) (w : World) (vo : Value) (A2 : Option Addr) (c2 : Nat) (qs : List (Prd × Value)) (x : Prd × Value) (w7 : World) : Prop where
  g : Goes K v l w w7
  p : Blk w7 T 54 (prdL op 0 ⟨0, 0, ⟨0, 0, ⟨#[]⟩⟩⟩ ⟨0, 0, ⟨0, 0, ⟨#[]⟩⟩⟩ vo).toArray
  r : Blk w7 R 54 prdZ.toArray
  own : w7.ownsRow (T + 1) 54 13 (.slice A2 (qs.length + 1) c2) (qs.length + 1) (prdCs qs ++ x.1.cells x.2)
  all : ∀ y ∈ qs ++ [x], PIn (erase (orow (more (more S R) T) (.slice A2 (qs.length + 1) c2)) w7) w7.heap.size y.1 y.2
  lt : w.heap.size ≤ T
  ne : T ≠ R
  c : ∃ a, CaseIs w K v l a
theorem Goes.grown {K : Nat} {v : Value} {l : List UInt8} {w w6 w7 : World} {row : Option Nat} (h : ∃ a, CaseIs w K v l a) (hg : Goes K v l w w6) (hgr : w6.grownBy w7 row) (hrow : ∀ k, row = some k → w.heap.size ≤ k) : Goes K v l w w7 := by
  obtain ⟨a, h⟩ := h
  obtain ⟨⟨a4, c4⟩, hk⟩ := hg
  have hk' : Kept (Kone K) w w7 := hk.grown hgr (fun k hk e => absurd (hrow k e) (by omega))
  exact ⟨⟨a4, h.kept hk' (c4.blk.grown hgr (fun e => by have := hrow K e.symm; have := h.blk.lt; omega))⟩, hk'⟩
theorem trees_next {S : Nat → Bool} {K : Nat} {v : Value} {l : List UInt8} {T R : Nat} {op : Int} {w w5 w7 : World} {A A2 : Option Addr} {cap c2 : Nat} {qs : List (Prd × Value)} {p : Prd} {s : Value} (hc : ∃ a, CaseIs w K v l a) (hg : Goes K v l w w5)
    (hp : Blk w5 T 54 (prdL op 0 ⟨0, 0, ⟨0, 0, ⟨#[]⟩⟩⟩ ⟨0, 0, ⟨0, 0, ⟨#[]⟩⟩⟩ (.slice A qs.length cap)).toArray) (hr : Blk w5 R 54 prdZ.toArray) (how : w5.ownsRow (T + 1) 54 13 (.slice A qs.length cap) qs.length (prdCs qs))
    (hall : ∀ x ∈ qs, PIn (erase (orow (more (more S R) T) (.slice A qs.length cap)) w5) w5.heap.size x.1 x.2) (hn : PIn (erase (orow (more (more S R) T) (.slice A qs.length cap)) w5) w5.heap.size p s)
    (hg2 : (w5.alloc (.cells (p.cells s).toArray 54)).grownBy w7 (Value.slice A qs.length cap).ownBlock) (hown2 : w7.ownsRow (T + 1) 54 13 (.slice A2 (qs.length + 1) c2) (qs.length + 1) (prdCs qs ++ p.cells s))
    (hat2 : (Value.slice A2 (qs.length + 1) c2).ownBlock = (Value.slice A qs.length cap).ownBlock ∨ (Value.slice A2 (qs.length + 1) c2).ownBlock = some (w5.alloc (.cells (p.cells s).toArray 54)).heap.size)
    (h1 : (Value.slice A qs.length cap).ownBlock ≠ some T) (h2 : (Value.slice A qs.length cap).ownBlock ≠ some R) (hwT : w.heap.size ≤ T) (hTR : T ≠ R) : TreesX S K v l T R op w (.slice A qs.length cap) A2 c2 qs (p, s) w7 := by
  have hka : Kept Kno w5 (w5.alloc (.cells (p.cells s).toArray 54)) := (Kept.refl _ _).alloc _
  refine ⟨Goes.grown hc (hg.then0 hka) hg2 (fun k e => by have := (own_base how e).1; omega), (hp.alloc _).grown hg2 (fun e => h1 e.symm), (hr.alloc _).grown hg2 (fun e => h2 e.symm), hown2, fun y hy => ?_, hwT, hTR, hc⟩
  rcases List.mem_append.1 hy with hy | hy
  · exact ((hall y hy).keep hka (fun k h => h.elim)).app hg2 hat2
  · simp only [List.mem_singleton] at hy
    subst hy
    exact (hn.keep hka (fun k h => h.elim)).app hg2 hat2
theorem TreesX.rel {S : Nat → Bool} {K : Nat} {v : Value} {l : List UInt8} {T R : Nat} {op : Int} {w w7 : World} {vo : Value} {A2 : Option Addr} {c2 : Nat} {qs : List (Prd × Value)} {x : Prd × Value} (h : TreesX S K v l T R op w vo A2 c2 qs x w7) {j : Int} (hj : (qs.length : Int) + (j + 1) ≤ 3) :
    Blk (w7.setCell ⟨T, 12, none⟩ (.slice A2 (qs.length + 1) c2)) T 54 (prdL op 0 ⟨0, 0, ⟨0, 0, ⟨#[]⟩⟩⟩ ⟨0, 0, ⟨0, 0, ⟨#[]⟩⟩⟩ (.slice A2 (qs ++ [x]).length c2)).toArray ∧ (w7.setCell ⟨T, 12, none⟩ (.slice A2 (qs.length + 1) c2)).ownsRow (T + 1) 54 13 (.slice A2 (qs ++ [x]).length c2) (qs ++ [x]).length (prdCs (qs ++ [x])) ∧
    ((qs ++ [x]).length : Int) + (j - 1 + 1) ≤ 3 ∧ (∀ y ∈ qs ++ [x], PIn (erase (orow (more (more S R) T) (.slice A2 (qs ++ [x]).length c2)) (w7.setCell ⟨T, 12, none⟩ (.slice A2 (qs.length + 1) c2))) (w7.setCell ⟨T, 12, none⟩ (.slice A2 (qs.length + 1) c2)).heap.size y.1 y.2) ∧ Goes K v l w (w7.setCell ⟨T, 12, none⟩ (.slice A2 (qs.length + 1) c2)) ∧ Blk (w7.setCell ⟨T, 12, none⟩ (.slice A2 (qs.length + 1) c2)) R 54 prdZ.toArray := by
  have hl : (qs ++ [x]).length = qs.length + 1 := by simp
  rw [hl, prdCs_snoc]
  have hk : Kept (Kone T) w7 (w7.setCell ⟨T, 12, none⟩ (.slice A2 (qs.length + 1) c2)) := Kept.setIn (S := Kone T) (p := ⟨T, 12, none⟩) (Kept.refl _ _) (by unfold Kone; rfl) _
  refine ⟨h.p.set_ 12 _, own_kept h.own hk (fun k hk e => by unfold Kone at e; have := (own_base h.own hk).1; omega), by omega, fun y hy => (h.all y hy).keep hk (fun k hk => by unfold Kone at hk; subst hk; exact orow_le (more_self _ _)), Goes.setNew h.c h.g h.lt _, h.r.far (fun e => h.ne e.symm) _⟩

theorem TreesRel.done {S : Nat → Bool} {K : Nat} {v : Value} {l : List UInt8} {T R : Nat} {op : Int} {w wr : World} {A : Option Addr} {cap : Nat} {qs : List (Prd × Value)} (hop : I64 op) (hc : ∃ a, CaseIs w K v l a) (hg : Goes K v l w wr)
    (hp : Blk wr T 54 (prdL op 0 ⟨0, 0, ⟨0, 0, ⟨#[]⟩⟩⟩ ⟨0, 0, ⟨0, 0, ⟨#[]⟩⟩⟩ (.slice A qs.length cap)).toArray) (hr : Blk wr R 54 prdZ.toArray) (how : wr.ownsRow (T + 1) 54 13 (.slice A qs.length cap) qs.length (prdCs qs))
    (hall : ∀ x ∈ qs, PIn (erase (orow (more (more S R) T) (.slice A qs.length cap)) wr) wr.heap.size x.1 x.2) (hlt : ∀ k, S k = true → k < w.heap.size) (hwT : w.heap.size ≤ T) (hR : R = w.heap.size) {cs : Array Value} :
    TreeOk S K v l w (.returned (.agg (prdL op 0 ⟨0, 0, ⟨0, 0, ⟨#[]⟩⟩⟩ ⟨0, 0, ⟨0, 0, ⟨#[]⟩⟩⟩ (.slice A qs.length cap)).toArray)) (wr.setRow R cs) := by
  subst hR
  have hS : ∀ k, T + 1 ≤ k → more S w.heap.size k = false := fun k hk => by
    cases hs : S k with
    | true => have := hlt k hs; omega
    | false =>
      have : (k == w.heap.size) = false := by rw [beq_eq_false_iff_ne]; omega
      simp [more, hs, this]
  have hn := PIn.node (S := more S w.heap.size) (cmp := 0) qs hop ⟨by decide, by decide⟩ opd0_ok opd0_ok how hS (fun x hx => PIn.sub0 (sub_le (fun k h => orow_le (more_le h)) wr) _ _ (hall x hx))
  exact ⟨.mk op 0 ⟨0, 0, ⟨0, 0, ⟨#[]⟩⟩⟩ ⟨0, 0, ⟨0, 0, ⟨#[]⟩⟩⟩ (qs.map (·.1)), .slice A qs.length cap, rfl, PIn.setRow hn _, Goes.setRow' hc hg (Nat.le_refl _) _⟩

set_option maxRecDepth 100000 in
set_option maxHeartbeats 8000000 in
theorem ctree_step (S : Nat → Bool) (K : Nat) (v : Value) (l : List UInt8) (us vs : Value) (ks ps : List Int) (B0 : Nat) (d : Nat) (hd : d ≤ 5)
    (IH : 1 ≤ d → ∀ (S : Nat → Bool) (w : World), TrPre S K v l us vs ks ps B0 w → Calls Tryz.prog 121 #[.pointer (some ⟨K, 0, none⟩), us, vs, .int .i64 (d - 1 : Nat)] w (TreeOk S K v l w)) (w : World) (h : TrPre S K v l us vs ks ps B0 w) :
    Calls Tryz.prog 121 #[.pointer (some ⟨K, 0, none⟩), us, vs, .int .i64 d] w (TreeOk S K v l w) := by
  obtain ⟨i0, hi, hz0, hz1, hz2⟩ := info_parts info_prd
  obtain ⟨uA, uc, rfl⟩ : ∃ A c, us = .slice A ks.length c := by obtain ⟨A, c, h, -⟩ := h.u; exact ⟨_, _, h⟩
  obtain ⟨vA, vn, vc, rfl⟩ : ∃ A n c, vs = .slice A n c := by obtain ⟨A, c, h, -⟩ := h.p; exact ⟨_, _, _, h⟩
  have H := Lib.hid h
  have HIH := Lib.hid IH
  have hdI : (d : Int) ≤ 5 := by omega
  have hd0 : (0 : Int) ≤ (d : Int) := by omega
  clear h IH
  go_enter Tryz.func121, Tryz.ntmps121
  go_upto_region 1 with (fail)
  obtain ⟨w0, h0⟩ : ∃ w0, w.alloc (.cells prdZ.toArray 54) = w0 := ⟨_, rfl⟩
  have HR0 : Hid (Blk w0 w.heap.size 54 prdZ.toArray) := Lib.hid (by rw [← h0]; exact Blk.new _ _ _)
  have HK0 : Hid (Kept Kno w w0) := Lib.hid (by rw [← h0]; exact (Kept.refl _ _).alloc _)
  have H0 : w.alloc (.cells #[.int .i64 0, .int .i64 0, .int .i64 0, .int .i64 0, .int .i64 0, .int .i64 0, .string ⟨#[]⟩, .int .i64 0, .int .i64 0, .int .i64 0, .int .i64 0, .string ⟨#[]⟩, .slice none 0 0] 54) = w0 := h0
  rw [H0]
  clear H0 h0
  go_wp2_with fail
  refine ((H.out.step0 HK0.out).int 9 (by decide) (by decide)).mono ?_
  rintro e w1 ⟨m, hm, rfl, hg1⟩
  have HG1 : Hid (Goes K v l w w1) := Lib.hid (hg1.before0 HK0.out)
  have HR1 : Hid (Blk w1 w.heap.size 54 prdZ.toArray) := Lib.hid (HR0.out.kept hg1.2 (fun e => by unfold Kone at e; have := H.out.lt K H.out.SK; omega))
  clear hg1 HR0 HK0
  go_upto_region 2 with fail
  go_cut [16] (fun s wx => ∃ b : Bool, s = .bool b ∧ (b = false → m = 0 → True) ∧ Goes K v l w1 wx)
  case first =>
    have hm9 : (m : Int) < 9 := by omega
    have hm0 : (0 : Int) ≤ (m : Int) := by omega
    by_cases h0 : m = 0
    · subst h0
      go_wp2_with fail
      refine ((H.out.step HG1.out).bool 2 (by decide) (by decide)).mono ?_
      rintro e w2 ⟨b, rfl, hg2⟩
      have HG2 := Lib.hid hg2
      clear hg2
      cases b with
      | false =>
        go_wp2
        go_meet
        exact ⟨false, rfl, fun _ _ => trivial, HG2.out⟩
      | true =>
        go_wp2
        go_meet
        exact ⟨true, rfl, fun _ _ => trivial, HG2.out⟩
    · have h0b : ((m : Int) == 0) = false := by rw [beq_eq_false_iff_ne]; omega
      go_wp2
      go_meet
      exact ⟨false, rfl, fun _ _ => trivial, Goes.of0 HG1.out.1 (Kept.refl _ _)⟩
  case rest =>
    obtain ⟨b, rfl, -, hg2⟩ := hcut
    have HG2 : Hid (Goes K v l w wc) := Lib.hid (HG1.out.then_ hg2)
    have HR2 : Hid (Blk wc w.heap.size 54 prdZ.toArray) := Lib.hid (HR1.out.kept hg2.2 (fun e => by unfold Kone at e; have := H.out.lt K H.out.SK; omega))
    clear hg2 HG1 HR1
    cases b with
    | true =>
      go_wp2_with fail
      refine ((H.out.step HG2.out).int 2 (by decide) (by decide)).mono ?_
      rintro e w3 ⟨m3, hm3, rfl, hg3⟩
      have HG3 : Hid (Goes K v l w w3) := Lib.hid (HG2.out.then_ hg3)
      have HR3 : Hid (Blk w3 w.heap.size 54 prdZ.toArray) := Lib.hid (HR2.out.kept hg3.2 (fun e => by unfold Kone at e; have := H.out.lt K H.out.SK; omega))
      clear hg3 HG2 HR2
      go_wp2_with (refine wpList_store_row rfl 54 (.tmp 8) (.tmp 26) rfl w.heap.size (prdL (1 + (m3 : Int)) 0 ⟨0, 0, ⟨0, 0, ⟨#[]⟩⟩⟩ ⟨0, 0, ⟨0, 0, ⟨#[]⟩⟩⟩ (.slice none 0 0)).toArray rfl rfl 54 _ HR3.out (by kernel_rfl) rfl prdL_one ?_)
      simp only [Act.put]
      refine bodyPost_ret (v := .agg (prdL (1 + (m3 : Int)) 0 ⟨0, 0, ⟨0, 0, ⟨#[]⟩⟩⟩ ⟨0, 0, ⟨0, 0, ⟨#[]⟩⟩⟩ (.slice none 0 0)).toArray) ?_ rfl ⟨.mk (1 + (m3 : Int)) 0 ⟨0, 0, ⟨0, 0, ⟨#[]⟩⟩⟩ ⟨0, 0, ⟨0, 0, ⟨#[]⟩⟩⟩ [], .slice none 0 0, rfl, PIn.leaf ⟨by omega, by omega⟩ ⟨by decide, by decide⟩ opd0_ok opd0_ok, Goes.setRow' H.out.c HG3.out (Nat.le_refl _) _⟩
      exact results_cell_row rfl _ _ w.heap.size 54 _ (0, 0) _ rfl (HR3.out.setRow _) Tryz.underlying54 rfl (by kernel_rfl)
    | false =>
      have hm9 : (m : Int) < 9 := by omega
      have hm0 : (0 : Int) ≤ (m : Int) := by omega
      go_upto_region 4 with fail
      go_cut [27] (fun s wx => ∃ b : Bool, s = .bool b ∧ (b = false → 6 ≤ m ∧ 1 ≤ d) ∧ wx = wc)
      case first =>
        by_cases h6 : m < 6
        · have h6I : (m : Int) < 6 := by omega
          go_wp2
          go_meet
          exact ⟨true, rfl, fun h => (by cases h), rfl⟩
        · have h6I : ¬ (m : Int) < 6 := by omega
          by_cases hd1 : d < 1
          · have hd1I : (d : Int) < 1 := by omega
            go_wp2
            go_meet
            exact ⟨true, rfl, fun h => (by cases h), rfl⟩
          · have hd1I : ¬ (d : Int) < 1 := by omega
            go_wp2
            go_meet
            exact ⟨false, rfl, fun _ => ⟨by omega, by omega⟩, rfl⟩
      case rest =>
        obtain ⟨b, rfl, hb6, rfl⟩ := hcut
        cases b with
        | true =>
          go_upto_if 36 with fail
          go_cut [10] (fun s wx => ∃ q : Int, s = .int .i64 q ∧ 3 ≤ q ∧ q ≤ 5 ∧ Goes K v l wc wx)
          case first =>
            by_cases hk : 0 < ks.length
            · have hkI : (0 : Int) < (ks.length : Int) := by omega
              have hkl := H.out.kl
              go_wp2_with fail
              refine ((H.out.step HG2.out).int ks.length (by omega) (by omega)).mono ?_
              rintro e w3 ⟨j, hj, rfl, hg3⟩
              obtain ⟨A', c', he, hc1, hc2, -, -, -, hat⟩ := SlIn.sub0 (erase_sub S w3) ((H.out.step HG2.out).step hg3).u
              simp only [Value.slice.injEq, true_and] at he
              obtain ⟨rfl, rfl⟩ := he
              obtain ⟨g, o, rfl, -, hc⟩ := hat hk
              obtain ⟨q, hq⟩ : ∃ q, ks[j]? = some q := ⟨_, List.getElem?_eq_getElem hj⟩
              have cq : w3.cell? ⟨g, o + j, none⟩ = some (.int .i64 q) := hc j _ (by rw [List.getElem?_map, hq]; rfl)
              have hqr := H.out.kind q (List.mem_of_getElem? hq)
              have hj0 : (0 : Int) ≤ (j : Int) := by omega
              have hjI : (j : Int) < (ks.length : Int) := by omega
              have hcm : uc ≤ 9223372036854775807 := by simpa only [maxLen] using hc2
              have HG3 := Lib.hid hg3
              clear hat hc hq hg3 hc2
              go_wp2
              go_meet
              exact ⟨q, rfl, hqr.1, hqr.2, HG3.out⟩
            · have hkI : ¬ (0 : Int) < (ks.length : Int) := by omega
              go_wp2
              go_meet
              exact ⟨4, rfl, by decide, by decide, Goes.of0 HG2.out.1 (Kept.refl _ _)⟩
          case rest =>
            obtain ⟨q, rfl, hq3, hq5, hg3⟩ := hcut
            rename_i wk
            have HT3 : Hid (TrPre S K v l (.slice uA ks.length uc) (.slice vA vn vc) ks ps B0 wc) := Lib.hid ((H.out.step HG2.out).step hg3)
            have HG3 : Hid (Goes K v l w wc) := Lib.hid (HG2.out.then_ hg3)
            have HR3 : Hid (Blk wc w.heap.size 54 prdZ.toArray) := Lib.hid (HR2.out.kept hg3.2 (fun e => by unfold Kone at e; have := H.out.lt K H.out.SK; omega))
            clear hg3 HG2 HR2
            go_wp2_with fail
            refine (HT3.out.int 6 (by decide) (by decide)).mono ?_
            rintro e w4 ⟨m2, hm2, rfl, hg4⟩
            have HT4 := Lib.hid (HT3.out.step hg4)
            have HG4 := Lib.hid (HG3.out.then_ hg4)
            have HR4 : Hid (Blk w4 w.heap.size 54 prdZ.toArray) := Lib.hid (HR3.out.kept hg4.2 (fun e => by unfold Kone at e; have := H.out.lt K H.out.SK; omega))
            clear hg4 HT3 HG3 HR3
            go_wp2_with fail
            refine (HT4.out.operand q hq3 hq5).mono ?_
            rintro e w5 ⟨⟨ok1, oi1, ⟨ova, ovb, ovs⟩⟩, hok1, rfl, hg5⟩
            have HT5 := Lib.hid (HT4.out.step hg5)
            have HG5 := Lib.hid (HG4.out.then_ hg5)
            have HR5 : Hid (Blk w5 w.heap.size 54 prdZ.toArray) := Lib.hid (HR4.out.kept hg5.2 (fun e => by unfold Kone at e; have := H.out.lt K H.out.SK; omega))
            have HO1 := Lib.hid hok1
            simp only [Opnd.v]
            clear hg5 HT4 HG4 HR4 hok1
            go_wp2_with fail
            refine (HT5.out.value q hq3 hq5).mono ?_
            rintro e w6 ⟨⟨xk, xn, xs⟩, hx, hxk, rfl, hg6⟩
            have HT6 := Lib.hid (HT5.out.step hg6)
            have HG6 := Lib.hid (HG5.out.then_ hg6)
            have HR6 : Hid (Blk w6 w.heap.size 54 prdZ.toArray) := Lib.hid (HR5.out.kept hg6.2 (fun e => by unfold Kone at e; have := H.out.lt K H.out.SK; omega))
            have HO2 := Lib.hid (ok_val hx)
            simp only [Val.v]
            clear hg6 HT5 HG5 HR5 hx hxk
            go_upto_region 9 with (refine wpList_store_new rfl 54 (.tmp 11) (.tmp 56) rfl _ (prdL 3 (1 + (m2 : Int)) ⟨ok1, oi1, ⟨ova, ovb, ovs⟩⟩ ⟨3, 0, ⟨xk, xn, xs⟩⟩ (.slice none 0 0)).toArray rfl rfl (by kernel_rfl) rfl prdL_one ?_)
            simp only [Act.put]
            obtain ⟨w7, h7⟩ : ∃ w7, w6.alloc (.cells (prdL 3 (1 + (m2 : Int)) ⟨ok1, oi1, ⟨ova, ovb, ovs⟩⟩ ⟨3, 0, ⟨xk, xn, xs⟩⟩ (.slice none 0 0)).toArray 54) = w7 := ⟨_, rfl⟩
            rw [h7]
            have hk7 : Kept Kno w6 w7 := by rw [← h7]; exact (Kept.refl _ _).alloc _
            have HP7 : Hid (Blk w7 w6.heap.size 54 (prdL 3 (1 + (m2 : Int)) ⟨ok1, oi1, ⟨ova, ovb, ovs⟩⟩ ⟨3, 0, ⟨xk, xn, xs⟩⟩ (.slice none 0 0)).toArray) := Lib.hid (by rw [← h7]; exact Blk.new _ _ _)
            have HT7 := Lib.hid (HT6.out.step0 hk7)
            have HG7 := Lib.hid (HG6.out.then0 hk7)
            have HR7 := Lib.hid (HR6.out.kept hk7 (fun h => h))
            have HRT : Hid (w.heap.size < w6.heap.size ∧ K < w.heap.size) := Lib.hid ⟨HR6.out.lt, H.out.lt K H.out.SK⟩
            clear h7 hk7 HT6 HG6 HR6
            go_wp2_with fail
            refine (HT7.out.bool 3 (by decide) (by decide)).mono ?_
            rintro e w8 ⟨b3, rfl, hg8⟩
            have HT8 := Lib.hid (HT7.out.step hg8)
            have HG8 := Lib.hid (HG7.out.then_ hg8)
            have HR8 : Hid (Blk w8 w.heap.size 54 prdZ.toArray) := Lib.hid (HR7.out.kept hg8.2 (fun e => by unfold Kone at e; have := HRT.out; omega))
            have HP8 := Lib.hid (HP7.out.kept hg8.2 (fun e => by unfold Kone at e; have := HRT.out; omega))
            clear hg8 HT7 HG7 HR7 HP7
            go_upto_if 58 with fail
            go_cut [] (fun wx => ∃ lo ro : Opnd, okOpnd lo ∧ okOpnd ro ∧ Blk wx w6.heap.size 54 (prdL 3 (1 + (m2 : Int)) lo ro (.slice none 0 0)).toArray ∧ Goes K v l w wx ∧ TrPre S K v l (.slice uA ks.length uc) (.slice vA vn vc) ks ps B0 wx ∧ Blk wx w.heap.size 54 prdZ.toArray)
            case first =>
              cases b3 with
              | false =>
                go_wp2
                go_meet
                exact ⟨_, _, HO1.out, HO2.out, HP8.out, HG8.out, HT8.out, HR8.out⟩
              | true =>
                go_wp2_with fail
                refine (HT8.out.operand q hq3 hq5).mono ?_
                rintro e w9 ⟨⟨zk, zi, ⟨za, zb, zs⟩⟩, hok9, rfl, hg9⟩
                have HT9 := Lib.hid (HT8.out.step hg9)
                have HG9 := Lib.hid (HG8.out.then_ hg9)
                have HR9 : Hid (Blk w9 w.heap.size 54 prdZ.toArray) := Lib.hid (HR8.out.kept hg9.2 (fun e => by unfold Kone at e; have := HRT.out; omega))
                have HP9 := Lib.hid (HP8.out.kept hg9.2 (fun e => by unfold Kone at e; have := HRT.out; omega))
                have HO9 := Lib.hid hok9
                have c7 : w9.cell? ⟨w6.heap.size, 7, none⟩ = some (.int .i64 3) := HP9.out.cell 7
                have f7 := HP9.out.frozen 7
                have c8 : w9.cell? ⟨w6.heap.size, 8, none⟩ = some (.int .i64 0) := HP9.out.cell 8
                have f8 := HP9.out.frozen 8
                have c9 : w9.cell? ⟨w6.heap.size, 9, none⟩ = some (.int .i64 xk) := HP9.out.cell 9
                have f9 := HP9.out.frozen 9
                have c10 : w9.cell? ⟨w6.heap.size, 10, none⟩ = some (.int .i64 xn) := HP9.out.cell 10
                have f10 := HP9.out.frozen 10
                have c11 : w9.cell? ⟨w6.heap.size, 11, none⟩ = some (.string xs) := HP9.out.cell 11
                have f11 := HP9.out.frozen 11
                clear hg9 HT8 HG8 HR8 HP8 hok9
                simp only [Opnd.v]
                go_wp2_with fail
                go_meet
                have hTT : w.heap.size ≤ w6.heap.size := Nat.le_of_lt HRT.out.1
                have hRR : w.heap.size ≠ w6.heap.size := Nat.ne_of_lt HRT.out.1
                have hg10 := Goes.set5 (T := w6.heap.size) (k1 := 7) (k2 := 8) (k3 := 9) (k4 := 10) (k5 := 11) (u1 := .int .i64 zk) (u2 := .int .i64 zi) (u3 := .int .i64 za) (u4 := .int .i64 zb) (u5 := .string zs) H.out.c HG9.out hTT
                exact ⟨⟨ok1, oi1, ⟨ova, ovb, ovs⟩⟩, ⟨zk, zi, ⟨za, zb, zs⟩⟩, HO1.out, HO9.out, Blk.set5 HP9.out (prdL_r 3 (1 + (m2 : Int)) ⟨ok1, oi1, ⟨ova, ovb, ovs⟩⟩ ⟨3, 0, ⟨xk, xn, xs⟩⟩ ⟨zk, zi, ⟨za, zb, zs⟩⟩ (.slice none 0 0)), hg10, H.out.step hg10, Blk.far5 HR9.out hRR⟩
            case rest =>
              obtain ⟨⟨gk, gi, ⟨ga, gb, gs⟩⟩, ⟨zk, zi, ⟨za, zb, zs⟩⟩, hlo, hro, hp, hg, ht, hr⟩ := hcut
              have HLO := Lib.hid hlo
              have HRO := Lib.hid hro
              have HP10 := Lib.hid hp
              have HG10 := Lib.hid hg
              have HT10 := Lib.hid ht
              have HR10 := Lib.hid hr
              clear hlo hro hp hg ht hr
              go_wp2_with fail
              refine (HT10.out.bool 6 (by decide) (by decide)).mono ?_
              rintro e w11 ⟨b6, rfl, hg11⟩
              have HT11 := Lib.hid (HT10.out.step hg11)
              have HG11 := Lib.hid (HG10.out.then_ hg11)
              have HR11 : Hid (Blk w11 w.heap.size 54 prdZ.toArray) := Lib.hid (HR10.out.kept hg11.2 (fun e => by unfold Kone at e; have := HRT.out; omega))
              have HP11 := Lib.hid (HP10.out.kept hg11.2 (fun e => by unfold Kone at e; have := HRT.out; omega))
              clear hg11 HT10 HG10 HR10 HP10
              go_upto_if 66 with fail
              go_cut [] (fun wx => ∃ lo ro : Opnd, okOpnd lo ∧ okOpnd ro ∧ Blk wx w6.heap.size 54 (prdL 3 (1 + (m2 : Int)) lo ro (.slice none 0 0)).toArray ∧ Goes K v l w wx ∧ TrPre S K v l (.slice uA ks.length uc) (.slice vA vn vc) ks ps B0 wx ∧ Blk wx w.heap.size 54 prdZ.toArray)
              case first =>
                cases b6 with
                | false =>
                  go_wp2
                  go_meet
                  exact ⟨_, _, HLO.out, HRO.out, HP11.out, HG11.out, HT11.out, HR11.out⟩
                | true =>
                  have c2 : w11.cell? ⟨w6.heap.size, 2, none⟩ = some (.int .i64 gk) := HP11.out.cell 2
                  have f2 := HP11.out.frozen 2
                  have c3 : w11.cell? ⟨w6.heap.size, 3, none⟩ = some (.int .i64 gi) := HP11.out.cell 3
                  have f3 := HP11.out.frozen 3
                  have c4 : w11.cell? ⟨w6.heap.size, 4, none⟩ = some (.int .i64 ga) := HP11.out.cell 4
                  have f4 := HP11.out.frozen 4
                  have c5 : w11.cell? ⟨w6.heap.size, 5, none⟩ = some (.int .i64 gb) := HP11.out.cell 5
                  have f5 := HP11.out.frozen 5
                  have c6 : w11.cell? ⟨w6.heap.size, 6, none⟩ = some (.string gs) := HP11.out.cell 6
                  have f6 := HP11.out.frozen 6
                  have c7 : w11.cell? ⟨w6.heap.size, 7, none⟩ = some (.int .i64 zk) := HP11.out.cell 7
                  have f7 := HP11.out.frozen 7
                  have c8 : w11.cell? ⟨w6.heap.size, 8, none⟩ = some (.int .i64 zi) := HP11.out.cell 8
                  have f8 := HP11.out.frozen 8
                  have c9 : w11.cell? ⟨w6.heap.size, 9, none⟩ = some (.int .i64 za) := HP11.out.cell 9
                  have f9 := HP11.out.frozen 9
                  have c10 : w11.cell? ⟨w6.heap.size, 10, none⟩ = some (.int .i64 zb) := HP11.out.cell 10
                  have f10 := HP11.out.frozen 10
                  have c11 : w11.cell? ⟨w6.heap.size, 11, none⟩ = some (.string zs) := HP11.out.cell 11
                  have f11 := HP11.out.frozen 11
                  go_wp2_with fail
                  go_meet
                  have hTT : w.heap.size ≤ w6.heap.size := Nat.le_of_lt HRT.out.1
                  have hRR : w.heap.size ≠ w6.heap.size := Nat.ne_of_lt HRT.out.1
                  have hg12 := Goes.set5 (T := w6.heap.size) (k1 := 7) (k2 := 8) (k3 := 9) (k4 := 10) (k5 := 11) (u1 := .int .i64 gk) (u2 := .int .i64 gi) (u3 := .int .i64 ga) (u4 := .int .i64 gb) (u5 := .string gs) H.out.c (Goes.set5 (T := w6.heap.size) (k1 := 2) (k2 := 3) (k3 := 4) (k4 := 5) (k5 := 6) (u1 := .int .i64 zk) (u2 := .int .i64 zi) (u3 := .int .i64 za) (u4 := .int .i64 zb) (u5 := .string zs) H.out.c HG11.out hTT) hTT
                  exact ⟨⟨zk, zi, ⟨za, zb, zs⟩⟩, ⟨gk, gi, ⟨ga, gb, gs⟩⟩, HRO.out, HLO.out, Blk.set5 (Blk.set5 HP11.out (prdL_l 3 (1 + (m2 : Int)) ⟨gk, gi, ⟨ga, gb, gs⟩⟩ ⟨zk, zi, ⟨za, zb, zs⟩⟩ ⟨zk, zi, ⟨za, zb, zs⟩⟩ (.slice none 0 0))) (prdL_r 3 (1 + (m2 : Int)) ⟨zk, zi, ⟨za, zb, zs⟩⟩ ⟨zk, zi, ⟨za, zb, zs⟩⟩ ⟨gk, gi, ⟨ga, gb, gs⟩⟩ (.slice none 0 0)), hg12, H.out.step hg12, Blk.far5 (Blk.far5 HR11.out hRR) hRR⟩
              case rest =>
                obtain ⟨lo, ro, hlo, hro, hp, hg, ht, hr⟩ := hcut
                obtain ⟨gk, gi, ⟨ga, gb, gs⟩⟩ := lo
                obtain ⟨zk, zi, ⟨za, zb, zs⟩⟩ := ro
                have HLO := Lib.hid hlo
                have HRO := Lib.hid hro
                have HP12 := Lib.hid hp
                have HG12 := Lib.hid hg
                have HR12 := Lib.hid hr
                clear hlo hro hp hg ht hr
                go_wp2_with (first
                  | (refine wpList_load_row rfl 54 (.tmp 11) rfl w6.heap.size rfl 54 _ (0, 0) _ HP12.out Tryz.underlying54 rfl (by kernel_rfl) ?_)
                  | (refine wpList_store_row rfl 54 (.tmp 8) (.tmp 73) rfl w.heap.size _ rfl rfl 54 _ HR12.out (by kernel_rfl) rfl prdL_one ?_))
                try simp only [Act.put]
                refine bodyPost_ret (v := .agg (prdL 3 (1 + (m2 : Int)) ⟨gk, gi, ⟨ga, gb, gs⟩⟩ ⟨zk, zi, ⟨za, zb, zs⟩⟩ (.slice none 0 0)).toArray) ?_ rfl ⟨.mk 3 (1 + (m2 : Int)) ⟨gk, gi, ⟨ga, gb, gs⟩⟩ ⟨zk, zi, ⟨za, zb, zs⟩⟩ [], .slice none 0 0, rfl, PIn.leaf ⟨by decide, by decide⟩ ⟨by omega, by omega⟩ HLO.out HRO.out, Goes.setRow' H.out.c HG12.out (Nat.le_refl _) _⟩
                exact results_cell_row rfl _ _ w.heap.size 54 _ (0, 0) _ rfl (HR12.out.setRow _) Tryz.underlying54 rfl (by kernel_rfl)
        | false =>
          obtain ⟨h6, hd1⟩ := hb6 rfl
          have hdm : ((d - 1 : Nat) : Int) = (d : Int) - 1 := by omega
          have hTM := H.out.more HG2.out HR2.out.lt
          have HTM := Lib.hid hTM
          by_cases m6 : m = 6
          · subst m6
            have hC := HIH.out hd1 _ _ hTM
            rw [hdm] at hC
            have HC := Lib.hid hC
            clear hC hTM
            go_wp2_with fail
            refine HC.out.mono ?_
            rintro e w3 ⟨p, s, rfl, hp, hg3⟩
            obtain ⟨A, n, c, rfl⟩ := hp.form
            have HG3 : Hid (Goes K v l w w3) := Lib.hid (HG2.out.then_ hg3)
            have HR3 : Hid (Blk w3 w.heap.size 54 prdZ.toArray) := Lib.hid (HR2.out.kept hg3.2 (fun e => by unfold Kone at e; have := H.out.lt K H.out.SK; omega))
            have HP3 := Lib.hid hp
            have hS3 : ∀ k, w3.heap.size ≤ k → more S w.heap.size k = false := fun k hk => by
              have h1 := HR3.out.lt
              cases hs : S k with
              | true => have := H.out.lt k hs; omega
              | false =>
                have : (k == w.heap.size) = false := by rw [beq_eq_false_iff_ne]; omega
                simp [more, hs, this]
            have HPN := Lib.hid (PIn.one_ (op := 6) (cmp := 0) ⟨by decide, by decide⟩ ⟨by decide, by decide⟩ opd0_ok opd0_ok hS3 hp)
            obtain ⟨op, cmp, ⟨ok1, oi1, ⟨ova, ovb, ovs⟩⟩, ⟨zk, zi, ⟨za, zb, zs⟩⟩, args⟩ := p
            clear hp hg3 hS3 HC HTM
            simp only [Prd.v]
            go_wp2_with (refine wpList_store_row rfl 54 (.tmp 8) (.tmp 84) rfl w.heap.size (prdL 6 0 ⟨0, 0, ⟨0, 0, ⟨#[]⟩⟩⟩ ⟨0, 0, ⟨0, 0, ⟨#[]⟩⟩⟩ (.slice (some ⟨w3.heap.size, 0, none⟩) 1 1)).toArray rfl rfl 54 _ (HR3.out.alloc _) (by kernel_rfl) rfl prdL_one ?_)
            try simp only [Act.put]
            refine bodyPost_ret (v := .agg (prdL 6 0 ⟨0, 0, ⟨0, 0, ⟨#[]⟩⟩⟩ ⟨0, 0, ⟨0, 0, ⟨#[]⟩⟩⟩ (.slice (some ⟨w3.heap.size, 0, none⟩) 1 1)).toArray) ?_ rfl ⟨.mk 6 0 ⟨0, 0, ⟨0, 0, ⟨#[]⟩⟩⟩ ⟨0, 0, ⟨0, 0, ⟨#[]⟩⟩⟩ [.mk op cmp ⟨ok1, oi1, ⟨ova, ovb, ovs⟩⟩ ⟨zk, zi, ⟨za, zb, zs⟩⟩ args], .slice (some ⟨w3.heap.size, 0, none⟩) 1 1, rfl, PIn.setRow HPN.out _, Goes.setRow' H.out.c (HG3.out.then0 ((Kept.refl _ _).alloc _)) (Nat.le_refl _) _⟩
            exact results_cell_row rfl _ _ w.heap.size 54 _ (0, 0) _ rfl ((HR3.out.alloc _).setRow _) Tryz.underlying54 rfl (by kernel_rfl)
          · have hmI : 6 < (m : Int) := by omega
            have m6b : ((m : Int) == 6) = false := by rw [beq_eq_false_iff_ne]; omega
            clear hTM
            go_upto_region 17 with (refine wpList_store_new rfl 54 (.tmp 12) (.tmp 88) rfl _ (prdL (4 + (m : Int) - 7) 0 ⟨0, 0, ⟨0, 0, ⟨#[]⟩⟩⟩ ⟨0, 0, ⟨0, 0, ⟨#[]⟩⟩⟩ (.slice none 0 0)).toArray rfl rfl (by kernel_rfl) rfl prdL_one ?_)
            simp only [Act.put]
            obtain ⟨w3, h3⟩ : ∃ w3, wc.alloc (.cells (prdL (4 + (m : Int) - 7) 0 ⟨0, 0, ⟨0, 0, ⟨#[]⟩⟩⟩ ⟨0, 0, ⟨0, 0, ⟨#[]⟩⟩⟩ (.slice none 0 0)).toArray 54) = w3 := ⟨_, rfl⟩
            rw [h3]
            have hk3 : Kept Kno wc w3 := by rw [← h3]; exact (Kept.refl _ _).alloc _
            have HP3 : Hid (Blk w3 wc.heap.size 54 (prdL (4 + (m : Int) - 7) 0 ⟨0, 0, ⟨0, 0, ⟨#[]⟩⟩⟩ ⟨0, 0, ⟨0, 0, ⟨#[]⟩⟩⟩ (.slice none 0 0)).toArray) := Lib.hid (by rw [← h3]; exact Blk.new _ _ _)
            have HG3 := Lib.hid (HG2.out.then0 hk3)
            have HR3 := Lib.hid (HR2.out.kept hk3 (fun h => h))
            have hRT : w.heap.size < wc.heap.size := HR2.out.lt
            have hKw : K < w.heap.size := H.out.lt K H.out.SK
            clear h3 hk3 HG2 HR2 HTM m6b
            generalize wc.heap.size = T at HP3 hRT ⊢
            go_wp2_with fail
            refine ((H.out.step HG3.out).int 3 (by decide) (by decide)).mono ?_
            rintro e w4 ⟨m4, hm4, rfl, hg4⟩
            have HG4 := Lib.hid (HG3.out.then_ hg4)
            have HR4 : Hid (Blk w4 w.heap.size 54 prdZ.toArray) := Lib.hid (HR3.out.kept hg4.2 (fun e => by unfold Kone at e; omega))
            have HP4 := Lib.hid (HP3.out.kept hg4.2 (fun e => by unfold Kone at e; omega))
            clear hg4 HG3 HR3 HP3
            go_wp2_with fail
            go_loopw [13] (fun i wr => TreesRel S K v l T w.heap.size (4 + (m : Int) - 7) w i wr) (fun i _ => (intOf i + 1).toNat)
            case atStart => exact ⟨m4, none, 0, [], by omega, by omega, rfl, HP4.out, World.ownsRow_nil _ _ _ _, by simp; omega, by simp, HG4.out, HR4.out⟩
            case round =>
              obtain ⟨j, A, cap, qs, hj1, hj2, rfl, hp, how, hlen, hall, hg, hr⟩ := hrel
              have HP := Lib.hid hp
              have HOW := Lib.hid how
              have HALL := Lib.hid hall
              have HG := Lib.hid hg
              have HR := Lib.hid hr
              have hqt : T < wr.heap.size := hp.lt
              clear hp how hall hg hr
              by_cases hj0 : 0 ≤ j
              · have hRne : (Value.slice A qs.length cap).ownBlock ≠ some T := fun he => by have := (own_base HOW.out he).1; omega
                have hRne2 : (Value.slice A qs.length cap).ownBlock ≠ some w.heap.size := fun he => by have := (own_base HOW.out he).1; omega
                have HTP : Hid (TrPre (orow (more (more S w.heap.size) T) (.slice A qs.length cap)) K v l (.slice uA ks.length uc) (.slice vA vn vc) ks ps B0 wr.drew) := Lib.hid (H.out.at2 (HG.out.then0 ((Kept.refl _ _).drew)) (fun k hk => (orow_old (fun k h => (own_base HOW.out h).1) (by omega)).trans ((more_old (by omega)).trans (more_old hk))) (fun k hk => by
                  show k < wr.heap.size
                  rcases orow_cases hk with h | h
                  · by_cases hkw : k < w.heap.size
                    · exact Nat.lt_of_lt_of_le hkw HG.out.2.size
                    · cases hs : S k with
                      | true => exact absurd (H.out.lt k hs) hkw
                      | false =>
                        have : k = w.heap.size ∨ k = T := by simpa [more, hs] using h
                        omega
                  · exact (own_base HOW.out h).2))
                have hC := HIH.out hd1 _ _ HTP.out
                rw [hdm] at hC
                have m1 : qs.length + 1 ≤ maxLen := by simp only [maxLen]; omega
                have hwT : w.heap.size ≤ T := Nat.le_of_lt hRT
                have HC := Lib.hid hC
                have HHX := Lib.hid hRne
                have HHY := Lib.hid hRne2
                have hq3 : qs.length ≤ 3 := by omega
                clear hC HTP hRne hRne2
                have hwr : IntKind.i64.wrap ((d : Int) - 1) = (d : Int) - 1 := IntWalk.i64_in _ (by omega)
                go_upto_region 20 with fail
                refine wp_region_held_drew (S := fun _ => True) (by kernel_rfl) trivial (fun hHeld => ?_)
                refine wpAnyH_takeE (i := 0) (v := .pointer (some ⟨T, 12, none⟩)) rfl rfl (by kernel_rfl) (by kernel_rfl) (by kernel_rfl) (fun _ _ _ h => h) (Or.inl ⟨by rfl, fun w1 hw => by go_simp⟩) (by assumption) ?_
                (try simp only [Act.put, List.setIfInBounds_toArray, List.set_cons_zero, List.set_cons_succ])
                refine wpAnyH_takeE (i := 2) (v := .pointer (some ⟨K, 0, none⟩)) rfl rfl (by kernel_rfl) (by kernel_rfl) (by kernel_rfl) (fun _ _ _ h => h) (Or.inl ⟨by rfl, fun w1 hw => by go_simp⟩) (by assumption) ?_
                (try simp only [Act.put, List.setIfInBounds_toArray, List.set_cons_zero, List.set_cons_succ])
                refine wpAnyH_takeE (i := 3) (v := .slice uA ks.length uc) rfl rfl (by kernel_rfl) (by kernel_rfl) (by kernel_rfl) (fun _ _ _ h => h) (Or.inl ⟨by rfl, fun w1 hw => by go_simp⟩) (by assumption) ?_
                (try simp only [Act.put, List.setIfInBounds_toArray, List.set_cons_zero, List.set_cons_succ])
                refine wpAnyH_takeE (i := 4) (v := .slice vA vn vc) rfl rfl (by kernel_rfl) (by kernel_rfl) (by kernel_rfl) (fun _ _ _ h => h) (Or.inl ⟨by rfl, fun w1 hw => by go_simp⟩) (by assumption) ?_
                (try simp only [Act.put, List.setIfInBounds_toArray, List.set_cons_zero, List.set_cons_succ])
                refine wpAnyH_takeE (i := 5) (v := .int .i64 (d : Int)) rfl rfl (by kernel_rfl) (by kernel_rfl) (by kernel_rfl) (fun _ _ _ h => h) (Or.inl ⟨by rfl, fun w1 hw => by go_simp⟩) (by assumption) ?_
                (try simp only [Act.put, List.setIfInBounds_toArray, List.set_cons_zero, List.set_cons_succ])
                refine wpAnyH_takeE (i := 6) (v := .int .i64 ((d : Int) - 1)) rfl rfl (by kernel_rfl) (by kernel_rfl) (by kernel_rfl) (fun _ _ _ h => h) (Or.inl ⟨by rfl, fun w1 hw => by go_simp⟩) (by assumption) ?_
                (try simp only [Act.put, List.setIfInBounds_toArray, List.set_cons_zero, List.set_cons_succ])
                clear hwr
                refine wpAnyH_ready (rs := [1, 7]) (by kernel_rfl) (by simp) ?_
                refine AllReadyH.cons rfl (fun K' hK => ?_) (AllReadyH.cons rfl (fun K' hK => ?_) (AllReadyH.nil))
                · have c12 := HP.out.drew.cell 12
                  go_simp
                  clear c12
                  refine hK.out _ _ trivial (fun hHeld => ?_)
                  clear hK K'
                  (try simp only [Act.put, List.setIfInBounds_toArray, List.set_cons_zero, List.set_cons_succ])
                  refine wpAnyH_ready (rs := [7]) (by kernel_rfl) (by simp) ?_
                  refine AllReadyH.cons rfl (fun K' hK => ?_) (AllReadyH.nil)
                  go_simp
                  go_at_call 121
                  refine HC.out.mono ?_
                  rintro e w5 ⟨p, s, rfl, hp5, hg5⟩
                  obtain ⟨A5, n5, c5, rfl⟩ := hp5.form
                  have hkd : Kept (Kone K) wr w5 := ((Kept.refl (Kone K) wr).drew).trans hg5.2 (fun _ _ h => h)
                  have HG5 : Hid (Goes K v l w w5) := Lib.hid ((HG.out.then0 ((Kept.refl _ _).drew)).then_ hg5)
                  have HP5 := Lib.hid (HP.out.kept hkd (fun e => by unfold Kone at e; omega))
                  have HR5 := Lib.hid (HR.out.kept hkd (fun e => by unfold Kone at e; omega))
                  have HOW5 := Lib.hid (own_kept HOW.out hkd (fun k hk e => by unfold Kone at e; have := (own_base HOW.out hk).1; omega))
                  have HALL5 : Hid (∀ x ∈ qs, PIn (erase (orow (more (more S w.heap.size) T) (.slice A qs.length cap)) w5) w5.heap.size x.1 x.2) := Lib.hid (fun x hx => (HALL.out x hx).keep hkd (fun k hk => by unfold Kone at hk; subst hk; exact orow_le (more_le (more_le H.out.SK))))
                  have HN5 := Lib.hid hp5
                  have hT5 : T + 1 ≤ w5.heap.size := by have := hkd.size; omega
                  obtain ⟨op, cmp, ⟨ok1, oi1, ⟨ova, ovb, ovs⟩⟩, ⟨zk, zi, ⟨za, zb, zs⟩⟩, args⟩ := p
                  clear hp5 hg5 hkd HG HP HR HOW HALL HC
                  simp only [Prd.v]
                  go_wp2_with fail
                  refine hK.out _ _ trivial (fun hHeld => ?_)
                  clear hK K'
                  (try simp only [Act.put, List.setIfInBounds_toArray, List.set_cons_zero, List.set_cons_succ])
                  refine wpAnyH_ready (rs := [8]) (by kernel_rfl) (by simp) ?_
                  refine AllReadyH.cons rfl (fun K' hK => ?_) (AllReadyH.nil)
                  go_simp
                  refine hK.out _ _ trivial (fun hHeld => ?_)
                  clear hK K'
                  (try simp only [Act.put, List.setIfInBounds_toArray, List.set_cons_zero, List.set_cons_succ])
                  refine wpAnyH_ready (rs := [9]) (by kernel_rfl) (by simp) ?_
                  refine AllReadyH.cons rfl (fun K' hK => ?_) (AllReadyH.nil)
                  refine step_append_rd _ (by rfl) (.tmp 96) (.tmp 103) 52 (by rfl) (T + 1) 54 i0 _ 13 136 Tryz.underlying52 hi hz0 hz1 hz2 (by rfl) (by decide) (.slice A qs.length cap) qs.length (prdCs qs) (by rfl) (World.ownsRow.alloc HOW5.out _) _ 1 (prdL op cmp ⟨ok1, oi1, ⟨ova, ovb, ovs⟩⟩ ⟨zk, zi, ⟨za, zb, zs⟩⟩ (.slice A5 n5 c5)) (by rfl) (Rd.one _ _ _ rfl) (by simp [prdL, Value.oneCell']) m1 (by omega) (by simp; omega) ?_
                  intro A2 c2 w7 hown2 hg2 hat2
                  have HX7 := Lib.hid (trees_next H.out.c HG5.out HP5.out HR5.out HOW5.out HALL5.out HN5.out hg2 hown2 hat2 HHX.out HHY.out hwT (by omega))
                  have hqt7 : T < w7.heap.size := by have := hg2.size; simp at this; omega
                  clear HG5 HP5 HR5 HOW5 HALL5 HN5 hg2 hown2 hat2
                  refine hK.out _ _ trivial (fun hHeld => ?_)
                  clear hK K'
                  (try simp only [Act.put, List.setIfInBounds_toArray, List.set_cons_zero, List.set_cons_succ])
                  refine wpAnyH_takeE (i := 10) (v := .pointer (some ⟨T, 12, none⟩)) rfl rfl (by kernel_rfl) (by kernel_rfl) (by kernel_rfl) (fun _ _ _ h => h) (Or.inl ⟨by rfl, fun w1 hw => by go_simp⟩) (by assumption) ?_
                  (try simp only [Act.put, List.setIfInBounds_toArray, List.set_cons_zero, List.set_cons_succ])
                  refine wpAnyH_ready (rs := [11]) (by kernel_rfl) (by simp) ?_
                  refine AllReadyH.cons rfl (fun K' hK => ?_) (AllReadyH.nil)
                  have c12 := Blk.cell HX7.out.p 12
                  have f12 := Blk.frozen HX7.out.p 12
                  go_simp
                  clear c12 f12
                  refine hK.out _ _ trivial (fun hHeld => ?_)
                  clear hK K'
                  refine wpAnyH_done (by kernel_rfl) ?_ _
                  clear hHeld
                  go_wp2_with fail
                  go_roundw
                  case rel => exact ⟨j - 1, A2, c2, qs ++ [(.mk op cmp ⟨ok1, oi1, ⟨ova, ovb, ovs⟩⟩ ⟨zk, zi, ⟨za, zb, zs⟩⟩ args, .slice A5 n5 c5)], by omega, by omega, rfl, HX7.out.rel hlen⟩
                  case measure => simp only [intOf]; omega
                · go_simp
                  go_at_call 121
                  refine HC.out.mono ?_
                  rintro e w5 ⟨p, s, rfl, hp5, hg5⟩
                  obtain ⟨A5, n5, c5, rfl⟩ := hp5.form
                  have hkd : Kept (Kone K) wr w5 := ((Kept.refl (Kone K) wr).drew).trans hg5.2 (fun _ _ h => h)
                  have HG5 : Hid (Goes K v l w w5) := Lib.hid ((HG.out.then0 ((Kept.refl _ _).drew)).then_ hg5)
                  have HP5 := Lib.hid (HP.out.kept hkd (fun e => by unfold Kone at e; omega))
                  have HR5 := Lib.hid (HR.out.kept hkd (fun e => by unfold Kone at e; omega))
                  have HOW5 := Lib.hid (own_kept HOW.out hkd (fun k hk e => by unfold Kone at e; have := (own_base HOW.out hk).1; omega))
                  have HALL5 : Hid (∀ x ∈ qs, PIn (erase (orow (more (more S w.heap.size) T) (.slice A qs.length cap)) w5) w5.heap.size x.1 x.2) := Lib.hid (fun x hx => (HALL.out x hx).keep hkd (fun k hk => by unfold Kone at hk; subst hk; exact orow_le (more_le (more_le H.out.SK))))
                  have HN5 := Lib.hid hp5
                  have hT5 : T + 1 ≤ w5.heap.size := by have := hkd.size; omega
                  obtain ⟨op, cmp, ⟨ok1, oi1, ⟨ova, ovb, ovs⟩⟩, ⟨zk, zi, ⟨za, zb, zs⟩⟩, args⟩ := p
                  clear hp5 hg5 hkd HG HP HR HOW HALL HC
                  simp only [Prd.v]
                  go_wp2_with fail
                  refine hK.out _ _ trivial (fun hHeld => ?_)
                  clear hK K'
                  (try simp only [Act.put, List.setIfInBounds_toArray, List.set_cons_zero, List.set_cons_succ])
                  refine wpAnyH_ready (rs := [1, 8]) (by kernel_rfl) (by simp) ?_
                  refine AllReadyH.cons rfl (fun K' hK => ?_) (AllReadyH.cons rfl (fun K' hK => ?_) (AllReadyH.nil))
                  · have c12 := HP5.out.cell 12
                    go_simp
                    clear c12
                    refine hK.out _ _ trivial (fun hHeld => ?_)
                    clear hK K'
                    (try simp only [Act.put, List.setIfInBounds_toArray, List.set_cons_zero, List.set_cons_succ])
                    refine wpAnyH_ready (rs := [8]) (by kernel_rfl) (by simp) ?_
                    refine AllReadyH.cons rfl (fun K' hK => ?_) (AllReadyH.nil)
                    go_simp
                    refine hK.out _ _ trivial (fun hHeld => ?_)
                    clear hK K'
                    (try simp only [Act.put, List.setIfInBounds_toArray, List.set_cons_zero, List.set_cons_succ])
                    refine wpAnyH_ready (rs := [9]) (by kernel_rfl) (by simp) ?_
                    refine AllReadyH.cons rfl (fun K' hK => ?_) (AllReadyH.nil)
                    refine step_append_rd _ (by rfl) (.tmp 96) (.tmp 103) 52 (by rfl) (T + 1) 54 i0 _ 13 136 Tryz.underlying52 hi hz0 hz1 hz2 (by rfl) (by decide) (.slice A qs.length cap) qs.length (prdCs qs) (by rfl) (World.ownsRow.alloc HOW5.out _) _ 1 (prdL op cmp ⟨ok1, oi1, ⟨ova, ovb, ovs⟩⟩ ⟨zk, zi, ⟨za, zb, zs⟩⟩ (.slice A5 n5 c5)) (by rfl) (Rd.one _ _ _ rfl) (by simp [prdL, Value.oneCell']) m1 (by omega) (by simp; omega) ?_
                    intro A2 c2 w7 hown2 hg2 hat2
                    have HX7 := Lib.hid (trees_next H.out.c HG5.out HP5.out HR5.out HOW5.out HALL5.out HN5.out hg2 hown2 hat2 HHX.out HHY.out hwT (by omega))
                    have hqt7 : T < w7.heap.size := by have := hg2.size; simp at this; omega
                    clear HG5 HP5 HR5 HOW5 HALL5 HN5 hg2 hown2 hat2
                    refine hK.out _ _ trivial (fun hHeld => ?_)
                    clear hK K'
                    (try simp only [Act.put, List.setIfInBounds_toArray, List.set_cons_zero, List.set_cons_succ])
                    refine wpAnyH_takeE (i := 10) (v := .pointer (some ⟨T, 12, none⟩)) rfl rfl (by kernel_rfl) (by kernel_rfl) (by kernel_rfl) (fun _ _ _ h => h) (Or.inl ⟨by rfl, fun w1 hw => by go_simp⟩) (by assumption) ?_
                    (try simp only [Act.put, List.setIfInBounds_toArray, List.set_cons_zero, List.set_cons_succ])
                    refine wpAnyH_ready (rs := [11]) (by kernel_rfl) (by simp) ?_
                    refine AllReadyH.cons rfl (fun K' hK => ?_) (AllReadyH.nil)
                    have c12 := Blk.cell HX7.out.p 12
                    have f12 := Blk.frozen HX7.out.p 12
                    go_simp
                    clear c12 f12
                    refine hK.out _ _ trivial (fun hHeld => ?_)
                    clear hK K'
                    refine wpAnyH_done (by kernel_rfl) ?_ _
                    clear hHeld
                    go_wp2_with fail
                    go_roundw
                    case rel => exact ⟨j - 1, A2, c2, qs ++ [(.mk op cmp ⟨ok1, oi1, ⟨ova, ovb, ovs⟩⟩ ⟨zk, zi, ⟨za, zb, zs⟩⟩ args, .slice A5 n5 c5)], by omega, by omega, rfl, HX7.out.rel hlen⟩
                    case measure => simp only [intOf]; omega
                  · go_simp
                    refine hK.out _ _ trivial (fun hHeld => ?_)
                    clear hK K'
                    (try simp only [Act.put, List.setIfInBounds_toArray, List.set_cons_zero, List.set_cons_succ])
                    refine wpAnyH_ready (rs := [1]) (by kernel_rfl) (by simp) ?_
                    refine AllReadyH.cons rfl (fun K' hK => ?_) (AllReadyH.nil)
                    have c12 := (show (w5.alloc (.cells #[.int .i64 op, .int .i64 cmp, .int .i64 ok1, .int .i64 oi1, .int .i64 ova, .int .i64 ovb, .string ovs, .int .i64 zk, .int .i64 zi, .int .i64 za, .int .i64 zb, .string zs, .slice A5 n5 c5] 54)).cell? ⟨T, 12, none⟩ = some (.slice A qs.length cap) from (HP5.out.alloc _).cell 12)
                    go_simp
                    clear c12
                    refine hK.out _ _ trivial (fun hHeld => ?_)
                    clear hK K'
                    (try simp only [Act.put, List.setIfInBounds_toArray, List.set_cons_zero, List.set_cons_succ])
                    refine wpAnyH_ready (rs := [9]) (by kernel_rfl) (by simp) ?_
                    refine AllReadyH.cons rfl (fun K' hK => ?_) (AllReadyH.nil)
                    refine step_append_rd _ (by rfl) (.tmp 96) (.tmp 103) 52 (by rfl) (T + 1) 54 i0 _ 13 136 Tryz.underlying52 hi hz0 hz1 hz2 (by rfl) (by decide) (.slice A qs.length cap) qs.length (prdCs qs) (by rfl) (World.ownsRow.alloc HOW5.out _) _ 1 (prdL op cmp ⟨ok1, oi1, ⟨ova, ovb, ovs⟩⟩ ⟨zk, zi, ⟨za, zb, zs⟩⟩ (.slice A5 n5 c5)) (by rfl) (Rd.one _ _ _ rfl) (by simp [prdL, Value.oneCell']) m1 (by omega) (by simp; omega) ?_
                    intro A2 c2 w7 hown2 hg2 hat2
                    have HX7 := Lib.hid (trees_next H.out.c HG5.out HP5.out HR5.out HOW5.out HALL5.out HN5.out hg2 hown2 hat2 HHX.out HHY.out hwT (by omega))
                    have hqt7 : T < w7.heap.size := by have := hg2.size; simp at this; omega
                    clear HG5 HP5 HR5 HOW5 HALL5 HN5 hg2 hown2 hat2
                    refine hK.out _ _ trivial (fun hHeld => ?_)
                    clear hK K'
                    (try simp only [Act.put, List.setIfInBounds_toArray, List.set_cons_zero, List.set_cons_succ])
                    refine wpAnyH_takeE (i := 10) (v := .pointer (some ⟨T, 12, none⟩)) rfl rfl (by kernel_rfl) (by kernel_rfl) (by kernel_rfl) (fun _ _ _ h => h) (Or.inl ⟨by rfl, fun w1 hw => by go_simp⟩) (by assumption) ?_
                    (try simp only [Act.put, List.setIfInBounds_toArray, List.set_cons_zero, List.set_cons_succ])
                    refine wpAnyH_ready (rs := [11]) (by kernel_rfl) (by simp) ?_
                    refine AllReadyH.cons rfl (fun K' hK => ?_) (AllReadyH.nil)
                    have c12 := Blk.cell HX7.out.p 12
                    have f12 := Blk.frozen HX7.out.p 12
                    go_simp
                    clear c12 f12
                    refine hK.out _ _ trivial (fun hHeld => ?_)
                    clear hK K'
                    refine wpAnyH_done (by kernel_rfl) ?_ _
                    clear hHeld
                    go_wp2_with fail
                    go_roundw
                    case rel => exact ⟨j - 1, A2, c2, qs ++ [(.mk op cmp ⟨ok1, oi1, ⟨ova, ovb, ovs⟩⟩ ⟨zk, zi, ⟨za, zb, zs⟩⟩ args, .slice A5 n5 c5)], by omega, by omega, rfl, HX7.out.rel hlen⟩
                    case measure => simp only [intOf]; omega
              · have hwT : w.heap.size ≤ T := Nat.le_of_lt hRT
                have hm4 : I64 (4 + (m : Int) - 7) := ⟨by omega, by omega⟩
                go_wp2_with (first
                  | (refine wpList_load_row rfl 54 (.tmp 12) rfl T rfl 54 _ (0, 0) _ HP.out Tryz.underlying54 rfl (by kernel_rfl) ?_)
                  | (refine wpList_store_row rfl 54 (.tmp 8) (.tmp 106) rfl w.heap.size _ rfl rfl 54 _ HR.out (by kernel_rfl) rfl prdL_one ?_))
                try simp only [Act.put]
                refine bodyPost_ret (v := .agg (prdL (4 + (m : Int) - 7) 0 ⟨0, 0, ⟨0, 0, ⟨#[]⟩⟩⟩ ⟨0, 0, ⟨0, 0, ⟨#[]⟩⟩⟩ (.slice A qs.length cap)).toArray) ?_ rfl (TreesRel.done hm4 H.out.c HG.out HP.out HR.out HOW.out HALL.out H.out.lt hwT rfl)
                exact results_cell_row rfl _ _ w.heap.size 54 _ (0, 0) _ rfl (HR.out.setRow _) Tryz.underlying54 rfl (by kernel_rfl)

end Go.Proofs.YtffdaohmalmkfaaGreat
