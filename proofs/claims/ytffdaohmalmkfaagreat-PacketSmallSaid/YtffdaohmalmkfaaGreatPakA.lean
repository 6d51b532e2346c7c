/-
  Packet: predicates and queries as trees, how they lie in memory, and their bytes. No program in sight.
-/
import Derived.Test.YtffdaohmalmkfaaGreatCodecJ
namespace Go.Proofs.YtffdaohmalmkfaaGreat
open Go.RowKit
set_option linter.unusedVariables false

/-- A number that an int holds. -/
def I64 (n : Int) : Prop := -9223372036854775808 ≤ n ∧ n ≤ 9223372036854775807
structure Opnd where
  kind : Int
  idx : Int
  val : Val
inductive Prd where
  | mk (op cmp : Int) (l r : Opnd) (args : List Prd)
inductive Qry where
  | mk (op table : Int) (wh : Prd) (cols : List Int) (on : List (Int × Int)) (grp : List Int) (ord : List (Int × Bool)) (lim : Int) (args : List Qry)

/-! Bytes. -/
def inum (n : Int) : List UInt8 := leb (zz n)
def inums (l : List Int) : List UInt8 := leb l.length ++ l.flatMap inum
def ibool (b : Bool) : List UInt8 := if b then [1] else [0]
/-- The zero value. -/
def valZ (x : Val) : Bool := decide (x.kind = 0) && decide (x.n = 0) && decide (x.s.size = 0)
/-- Zero or valid. -/
def plainV (x : Val) : Bool := valZ x || validB x.kind x.n x.s
def ival (x : Val) : List UInt8 := if valZ x then [0] else venc x
def encO (o : Opnd) : List UInt8 := inum o.kind ++ inum o.idx ++ ival o.val
mutual
def encP : Prd → List UInt8
  | .mk op cmp l r args => inum op ++ inum cmp ++ encO l ++ encO r ++ leb args.length ++ encPs args
def encPs : List Prd → List UInt8
  | [] => []
  | p :: ps => encP p ++ encPs ps
end
mutual
def encQ : Qry → List UInt8
  | .mk op table wh cols on grp ord lim args =>
    inum op ++ inum table ++ encP wh ++ inums cols ++ leb on.length ++ on.flatMap (fun p => inum p.1 ++ inum p.2) ++ inums grp ++ leb ord.length ++ ord.flatMap (fun p => inum p.1 ++ ibool p.2) ++ inum lim ++ leb args.length ++ encQs args
def encQs : List Qry → List UInt8
  | [] => []
  | q :: qs => encQ q ++ encQs qs
end
theorem encPs_append (a b : List Prd) : encPs (a ++ b) = encPs a ++ encPs b := by
  induction a with
  | nil => simp [encPs]
  | cons p a ih => simp [encPs, ih]
theorem encQs_append (a b : List Qry) : encQs (a ++ b) = encQs a ++ encQs b := by
  induction a with
  | nil => simp [encQs]
  | cons p a ih => simp [encQs, ih]

/-! What is writable. -/
def fitO (o : Opnd) : Bool := plainV o.val
mutual
/-- The nodes of a predicate. -/
def sizeP : Prd → Nat
  | .mk _ _ _ _ args => 1 + sizePs args
def sizePs : List Prd → Nat
  | [] => 0
  | p :: ps => sizeP p + sizePs ps
end
mutual
/-- Its levels, from d on, and its values are as they must be. -/
def fitP : Nat → Prd → Bool
  | d, .mk _ _ l r args => decide (d ≤ 8) && fitO l && fitO r && fitPs (d + 1) args
def fitPs : Nat → List Prd → Bool
  | _, [] => true
  | d, p :: ps => fitP d p && fitPs d ps
end
mutual
def sizeQ : Qry → Nat
  | .mk _ _ _ _ _ _ _ _ args => 1 + sizeQs args
def sizeQs : List Qry → Nat
  | [] => 0
  | q :: qs => sizeQ q + sizeQs qs
end
mutual
def fitQ : Nat → Qry → Bool
  | d, .mk _ _ wh cols on grp _ _ args => decide (d ≤ 8) && decide (cols.length ≤ 12) && decide (on.length ≤ 12) && decide (grp.length ≤ 12) && (decide (sizeP wh ≤ 24) && fitP 1 wh) && fitQs (d + 1) args
def fitQs : Nat → List Qry → Bool
  | _, [] => true
  | d, q :: qs => fitQ d q && fitQs d qs
end
theorem sizeP_pos (p : Prd) : 1 ≤ sizeP p := by cases p; simp only [sizeP]; omega
theorem sizeQ_pos (p : Qry) : 1 ≤ sizeQ p := by cases p; simp only [sizeQ]; omega
theorem sizePs_append (a b : List Prd) : sizePs (a ++ b) = sizePs a + sizePs b := by
  induction a with
  | nil => simp [sizePs]
  | cons p a ih => simp only [List.cons_append, sizePs, ih]; omega
theorem sizeQs_append (a b : List Qry) : sizeQs (a ++ b) = sizeQs a + sizeQs b := by
  induction a with
  | nil => simp [sizeQs]
  | cons p a ih => simp only [List.cons_append, sizeQs, ih]; omega
theorem sizePs_len (a : List Prd) : a.length ≤ sizePs a := by
  induction a with
  | nil => simp [sizePs]
  | cons p a ih => have := sizeP_pos p; simp only [List.length_cons, sizePs]; omega
theorem sizeQs_len (a : List Qry) : a.length ≤ sizeQs a := by
  induction a with
  | nil => simp [sizeQs]
  | cons p a ih => have := sizeQ_pos p; simp only [List.length_cons, sizeQs]; omega
theorem fitPs_append (d : Nat) (a b : List Prd) : fitPs d (a ++ b) = (fitPs d a && fitPs d b) := by
  induction a with
  | nil => simp [fitPs]
  | cons p a ih => simp only [List.cons_append, fitPs, ih, Bool.and_assoc]
theorem fitQs_append (d : Nat) (a b : List Qry) : fitQs d (a ++ b) = (fitQs d a && fitQs d b) := by
  induction a with
  | nil => simp [fitQs]
  | cons p a ih => simp only [List.cons_append, fitQs, ih, Bool.and_assoc]

/-! Memory. -/
/-- The cells cs lie in block g from o on. -/
def CellsAt (w : World) (g o : Nat) (cs : List Value) : Prop := ∀ (j : Nat) (u : Value), cs[j]? = some u → w.cell? ⟨g, o + j, none⟩ = some u
/-- The slice value s has n elements of 'size' cells, which read as xs, in a block below B. -/
def SlIn (w : World) (B size : Nat) (s : Value) (n : Nat) (xs : List Value) : Prop :=
  ∃ (A : Option Addr) (cap : Nat), s = .slice A n cap ∧ n ≤ cap ∧ cap ≤ maxLen ∧ xs.length = n * size ∧ (A = none → cap = 0) ∧ (∀ k, s.ownBlock = some k → k < B) ∧ (0 < n → ∃ g o, A = some ⟨g, o, none⟩ ∧ g < B ∧ CellsAt w g o xs)
def Opnd.v (o : Opnd) : Value := .agg #[.int .i64 o.kind, .int .i64 o.idx, .int .i64 o.val.kind, .int .i64 o.val.n, .string o.val.s]
def okOpnd (o : Opnd) : Prop := I64 o.kind ∧ I64 o.idx ∧ I64 o.val.kind ∧ okVal o.val
def iv (n : Int) : Value := .int .i64 n
def onC (l : List (Int × Int)) : List Value := l.flatMap fun p => [iv p.1, iv p.2]
def ordC (l : List (Int × Bool)) : List Value := l.flatMap fun p => [iv p.1, .bool p.2]
/-- A predicate's value, s its Args. -/
def Prd.v : Prd → Value → Value
  | .mk op cmp l r _, s => .agg #[.int .i64 op, .int .i64 cmp, .int .i64 l.kind, .int .i64 l.idx, .int .i64 l.val.kind, .int .i64 l.val.n, .string l.val.s, .int .i64 r.kind, .int .i64 r.idx, .int .i64 r.val.kind, .int .i64 r.val.n, .string r.val.s, s]
def Prd.cells : Prd → Value → List Value
  | .mk op cmp l r _, s => [.int .i64 op, .int .i64 cmp, .int .i64 l.kind, .int .i64 l.idx, .int .i64 l.val.kind, .int .i64 l.val.n, .string l.val.s, .int .i64 r.kind, .int .i64 r.idx, .int .i64 r.val.kind, .int .i64 r.val.n, .string r.val.s, s]
mutual
/-- s is the Args of the predicate. -/
def PIn (w : World) (B : Nat) : Prd → Value → Prop
  | .mk op cmp l r args, s => I64 op ∧ I64 cmp ∧ okOpnd l ∧ okOpnd r ∧ ∃ (A : Option Addr) (cap : Nat), s = .slice A args.length cap ∧ args.length ≤ cap ∧ cap ≤ maxLen ∧ (A = none → cap = 0) ∧ (∀ k, s.ownBlock = some k → k < B) ∧ (0 < args.length → ∃ g o, A = some ⟨g, o, none⟩ ∧ g < B ∧ PsAt w B args g o)
def PsAt (w : World) (B : Nat) : List Prd → Nat → Nat → Prop
  | [], _, _ => True
  | p :: ps, g, o => (∃ s, PIn w B p s ∧ CellsAt w g o (p.cells s)) ∧ PsAt w B ps g (o + 13)
end
/-- The slices of a query. -/
structure QS where
  wa : Value
  cols : Value
  on : Value
  grp : Value
  ord : Value
  args : Value
def Qry.v : Qry → QS → Value
  | .mk op table (.mk wo wc l r _) _ _ _ _ lim _, s => .agg #[.int .i64 op, .int .i64 table, .int .i64 wo, .int .i64 wc, .int .i64 l.kind, .int .i64 l.idx, .int .i64 l.val.kind, .int .i64 l.val.n, .string l.val.s, .int .i64 r.kind, .int .i64 r.idx, .int .i64 r.val.kind, .int .i64 r.val.n, .string r.val.s, s.wa, s.cols, s.on, s.grp, s.ord, .int .i64 lim, s.args]
def Qry.cells : Qry → QS → List Value
  | .mk op table (.mk wo wc l r _) _ _ _ _ lim _, s => [.int .i64 op, .int .i64 table, .int .i64 wo, .int .i64 wc, .int .i64 l.kind, .int .i64 l.idx, .int .i64 l.val.kind, .int .i64 l.val.n, .string l.val.s, .int .i64 r.kind, .int .i64 r.idx, .int .i64 r.val.kind, .int .i64 r.val.n, .string r.val.s, s.wa, s.cols, s.on, s.grp, s.ord, .int .i64 lim, s.args]
mutual
def QIn (w : World) (B : Nat) : Qry → QS → Prop
  | .mk op table wh cols on grp ord lim args, s => I64 op ∧ I64 table ∧ I64 lim ∧ PIn w B wh s.wa ∧ SlIn w B 1 s.cols cols.length (cols.map iv) ∧ (∀ x ∈ cols, I64 x) ∧ SlIn w B 2 s.on on.length (onC on) ∧ (∀ x ∈ on, I64 x.1 ∧ I64 x.2) ∧ SlIn w B 1 s.grp grp.length (grp.map iv) ∧ (∀ x ∈ grp, I64 x) ∧ SlIn w B 2 s.ord ord.length (ordC ord) ∧ (∀ x ∈ ord, I64 x.1) ∧
    ∃ (A : Option Addr) (cap : Nat), s.args = .slice A args.length cap ∧ args.length ≤ cap ∧ cap ≤ maxLen ∧ (A = none → cap = 0) ∧ (∀ k, s.args.ownBlock = some k → k < B) ∧ (0 < args.length → ∃ g o, A = some ⟨g, o, none⟩ ∧ g < B ∧ QsAt w B args g o)
def QsAt (w : World) (B : Nat) : List Qry → Nat → Nat → Prop
  | [], _, _ => True
  | q :: qs, g, o => (∃ s, QIn w B q s ∧ CellsAt w g o (q.cells s)) ∧ QsAt w B qs g (o + 21)
end

theorem PsAt.get {w : World} {B : Nat} : ∀ {ps : List Prd} {g o : Nat}, PsAt w B ps g o → ∀ {i : Nat} {p : Prd}, ps[i]? = some p → ∃ s, PIn w B p s ∧ CellsAt w g (o + i * 13) (p.cells s)
  | [], _, _, _, i, p, hp => by simp at hp
  | q :: ps, g, o, h, 0, p, hp => by
    simp only [List.getElem?_cons_zero, Option.some.injEq] at hp
    subst hp
    simp only [PsAt] at h
    simpa using h.1
  | q :: ps, g, o, h, i + 1, p, hp => by
    simp only [PsAt] at h
    have h2 := PsAt.get h.2 (i := i) (p := p) (by simpa using hp)
    have e : o + 13 + i * 13 = o + (i + 1) * 13 := by omega
    rw [e] at h2
    exact h2
theorem QsAt.get {w : World} {B : Nat} : ∀ {ps : List Qry} {g o : Nat}, QsAt w B ps g o → ∀ {i : Nat} {p : Qry}, ps[i]? = some p → ∃ s, QIn w B p s ∧ CellsAt w g (o + i * 21) (p.cells s)
  | [], _, _, _, i, p, hp => by simp at hp
  | q :: ps, g, o, h, 0, p, hp => by
    simp only [List.getElem?_cons_zero, Option.some.injEq] at hp
    subst hp
    simp only [QsAt] at h
    simpa using h.1
  | q :: ps, g, o, h, i + 1, p, hp => by
    simp only [QsAt] at h
    have h2 := QsAt.get h.2 (i := i) (p := p) (by simpa using hp)
    have e : o + 21 + i * 21 = o + (i + 1) * 21 := by omega
    rw [e] at h2
    exact h2

section
variable {w w' : World} {B B' : Nat}
/-- What lies below B is as it was. -/
def Old (B : Nat) (w w' : World) : Prop := ∀ k, k < B → w'.heap[k]? = w.heap[k]?
theorem Old.trans {w1 : World} (h : Old B w w1) (h2 : Old B w1 w') : Old B w w' := fun k hk => (h2 k hk).trans (h k hk)
theorem Old.less (h : Old B w w') (hB : B' ≤ B) : Old B' w w' := fun k hk => h k (by omega)
theorem Kept.old {S : Nat → Prop} (h : Kept S w w') (hB : B ≤ w.heap.size) (hS : ∀ k, k < B → ¬ S k) : Old B w w' := fun k hk => h.block k (by omega) (hS k hk)
theorem CellsAt.old {g o : Nat} {cs : List Value} (h : CellsAt w g o cs) (hg : g < B) (ho : Old B w w') : CellsAt w' g o cs := fun j u hj => (World.cell?_of_block (ho g hg)).trans (h j u hj)
theorem SlIn.old {size n : Nat} {s : Value} {xs : List Value} (h : SlIn w B size s n xs) (ho : Old B w w') (hB : B ≤ B') : SlIn w' B' size s n xs := by
  obtain ⟨A, cap, h1, h2, h3, h4, h5, h6, h7⟩ := h
  exact ⟨A, cap, h1, h2, h3, h4, h5, fun k hk => by have := h6 k hk; omega, fun h0 => by obtain ⟨g, o, a, b, c⟩ := h7 h0; exact ⟨g, o, a, by omega, c.old b ho⟩⟩
mutual
theorem PIn.old (ho : Old B w w') (hB : B ≤ B') : ∀ (p : Prd) (s : Value), PIn w B p s → PIn w' B' p s
  | .mk op cmp l r args, s, h => by
    simp only [PIn] at h ⊢
    obtain ⟨h1, h2, h3, h4, A, cap, h5, h6, h7, h8, h9, h10⟩ := h
    refine ⟨h1, h2, h3, h4, A, cap, h5, h6, h7, h8, fun k hk => by have := h9 k hk; omega, fun h0 => ?_⟩
    obtain ⟨g, o, a, b, c⟩ := h10 h0
    exact ⟨g, o, a, by omega, PsAt.old ho hB args g o b c⟩
theorem PsAt.old (ho : Old B w w') (hB : B ≤ B') : ∀ (ps : List Prd) (g o : Nat), g < B → PsAt w B ps g o → PsAt w' B' ps g o
  | [], _, _, _, _ => by simp only [PsAt]
  | p :: ps, g, o, hg, h => by
    simp only [PsAt] at h ⊢
    obtain ⟨⟨s, a, b⟩, c⟩ := h
    exact ⟨⟨s, PIn.old ho hB p s a, b.old hg ho⟩, PsAt.old ho hB ps g (o + 13) hg c⟩
end
mutual
theorem QIn.old (ho : Old B w w') (hB : B ≤ B') : ∀ (p : Qry) (s : QS), QIn w B p s → QIn w' B' p s
  | .mk op table wh cols on grp ord lim args, s, h => by
    simp only [QIn] at h ⊢
    obtain ⟨h1, h2, h3, h4, a1, a2, a3, a4, a5, a6, a7, a8, A, cap, h5, h6, h7, h8, h9, h10⟩ := h
    refine ⟨h1, h2, h3, PIn.old ho hB wh _ h4, a1.old ho hB, a2, a3.old ho hB, a4, a5.old ho hB, a6, a7.old ho hB, a8, A, cap, h5, h6, h7, h8, fun k hk => by have := h9 k hk; omega, fun h0 => ?_⟩
    obtain ⟨g, o, a, b, c⟩ := h10 h0
    exact ⟨g, o, a, by omega, QsAt.old ho hB args g o b c⟩
theorem QsAt.old (ho : Old B w w') (hB : B ≤ B') : ∀ (ps : List Qry) (g o : Nat), g < B → QsAt w B ps g o → QsAt w' B' ps g o
  | [], _, _, _, _ => by simp only [QsAt]
  | p :: ps, g, o, hg, h => by
    simp only [QsAt] at h ⊢
    obtain ⟨⟨s, a, b⟩, c⟩ := h
    exact ⟨⟨s, QIn.old ho hB p s a, b.old hg ho⟩, QsAt.old ho hB ps g (o + 21) hg c⟩
end
end

end Go.Proofs.YtffdaohmalmkfaaGreat
