/-
  PacketOwns: the case's Schema. (Printed by gen_pakpi.py.)
-/
import Derived.Test.YtffdaohmalmkfaaGreatW30
set_option linter.unusedSimpArgs false
set_option linter.unusedVariables false
namespace Go.Proofs.YtffdaohmalmkfaaGreat
open Go.RowKit
set_option linter.unusedVariables false

def cols0 (q : Int) : List (ByteArray × Int) := [(⟨#[105, 100]⟩, 4), (⟨#[111, 119, 110, 101, 114]⟩, 4)]
def cols1 (q : Int) : List (ByteArray × Int) := [(⟨#[105, 100]⟩, q), (⟨#[112, 114, 111, 106, 101, 99, 116]⟩, 4), (⟨#[116, 105, 116, 108, 101]⟩, 5), (⟨#[100, 111, 110, 101]⟩, 3)]
def cols2 (q : Int) : List (ByteArray × Int) := [(⟨#[112, 114, 111, 106, 101, 99, 116]⟩, 4), (⟨#[112, 101, 114, 115, 111, 110]⟩, 4)]
def cols3 (q : Int) : List (ByteArray × Int) := [(⟨#[116, 97, 115, 107]⟩, q)]
def tblCells (C0 C1 C2 C3 : Nat) (r1 r2 r3 k1 : Value) : Array Value := #[.string ⟨#[112, 114, 111, 106, 101, 99, 116, 115]⟩, .slice (some ⟨C0, 0, none⟩) 2 2, .int .i64 1, .slice none 0 0, .slice none 0 0, .string ⟨#[116, 97, 115, 107, 115]⟩, .slice (some ⟨C1, 0, none⟩) 4 4, .int .i64 1, r1, k1, .string ⟨#[109, 101, 109, 98, 101, 114, 115]⟩, .slice (some ⟨C2, 0, none⟩) 2 2, .int .i64 2, r2, .slice none 0 0, .string ⟨#[97, 114, 99, 104, 105, 118, 101, 100]⟩, .slice (some ⟨C3, 0, none⟩) 1 1, .int .i64 1, r3, .slice none 0 0]
def tbl0 : Tbl := ⟨⟨#[112, 114, 111, 106, 101, 99, 116, 115]⟩, cols0 4, 1, [], []⟩
def tbl1 (q : Int) (f : List (List Int × Int)) (p : List Prd) : Tbl := ⟨⟨#[116, 97, 115, 107, 115]⟩, cols1 q, 1, f, p⟩
def tbl2 (f : List (List Int × Int)) : Tbl := ⟨⟨#[109, 101, 109, 98, 101, 114, 115]⟩, cols2 4, 2, f, []⟩
def tbl3 (q : Int) (f : List (List Int × Int)) : Tbl := ⟨⟨#[97, 114, 99, 104, 105, 118, 101, 100]⟩, cols3 q, 1, f, []⟩
/-- A schema under way: T5 its variable, Tb its tables. -/
structure ScB (S : Nat → Bool) (K : Nat) (v : Value) (l : List UInt8) (R2 T5 Tb n : Nat) (ver q : Int) (C0 C1 C2 C3 : Nat) (r1 r2 r3 k1 : Value) (f1 f2 f3 : List (List Int × Int)) (p1 : List Prd) (w wr : World) : Prop where
  g : Goes K v l w wr
  bT : Blk wr Tb 151 (tblCells C0 C1 C2 C3 r1 r2 r3 k1)
  b5 : Blk wr T5 82 #[.int .i64 ver, .slice (some ⟨Tb, 0, none⟩) n 4]
  b2 : Blk wr R2 82 #[.int .i64 0, .slice none 0 0]
  x0 : TIn (erase (S3 S R2 T5 Tb) wr) wr.heap.size tbl0 ⟨.slice (some ⟨C0, 0, none⟩) 2 2, .slice none 0 0, .slice none 0 0⟩
  x1 : TIn (erase (S3 S R2 T5 Tb) wr) wr.heap.size (tbl1 q f1 p1) ⟨.slice (some ⟨C1, 0, none⟩) 4 4, r1, k1⟩
  x2 : TIn (erase (S3 S R2 T5 Tb) wr) wr.heap.size (tbl2 f2) ⟨.slice (some ⟨C2, 0, none⟩) 2 2, r2, .slice none 0 0⟩
  x3 : TIn (erase (S3 S R2 T5 Tb) wr) wr.heap.size (tbl3 q f3) ⟨.slice (some ⟨C3, 0, none⟩) 1 1, r3, .slice none 0 0⟩
/-- What the case's Schema returns. -/
def SchemaOk (S : Nat → Bool) (K : Nat) (v : Value) (l : List UInt8) (w : World) (e : Ending) (w' : World) : Prop :=
  ∃ (sv : Value) (ver : Int) (ts : List Tbl), e = .returned sv ∧ SchIn (erase S w') w'.heap.size ver ts sv ∧ 2 ≤ ts.length ∧ Goes K v l w w'

section
variable {S S' : Nat → Bool} {K : Nat} {v : Value} {l : List UInt8} {R2 T5 Tb n : Nat} {ver q : Int} {C0 C1 C2 C3 : Nat} {r1 r2 r3 k1 : Value} {f1 f2 f3 : List (List Int × Int)} {p1 : List Prd} {w wr wx : World}
theorem TsAt.take_ {W : World} {B : Nat} : ∀ (ts : List Tbl) (g o n : Nat), TsAt W B ts g o → TsAt W B (ts.take n) g o
  | [], g, o, n, _ => by rw [List.take_nil]; simp only [TsAt]
  | t :: ts, g, o, 0, _ => by rw [List.take_zero]; simp only [TsAt]
  | t :: ts, g, o, n + 1, h => by
    rw [List.take_succ_cons]
    simp only [TsAt] at h ⊢
    exact ⟨h.1, TsAt.take_ ts g (o + 5) n h.2⟩
theorem TIn.keep {R : Nat → Prop} {t : Tbl} {s : TS} (h : TIn (erase S wr) wr.heap.size t s) (hk : Kept R wr wx) (hR : ∀ k, R k → S k = true) : TIn (erase S wx) wx.heap.size t s :=
  TIn.old ((erase_kept hk hR (fun _ _ => rfl)).old (B := wr.heap.size) (by rw [erase_size]; exact Nat.le_refl _) (fun _ _ h => h)) hk.size h
/-- What may change: the schema's own blocks. -/
theorem ScB.keep {R : Nat → Prop} (h : ScB S K v l R2 T5 Tb n ver q C0 C1 C2 C3 r1 r2 r3 k1 f1 f2 f3 p1 w wr) (hk : Kept R wr wx) (hR : ∀ k, R k → S3 S R2 T5 Tb k = true) (hg : Goes K v l w wx) {n' : Nat} {r1' r2' r3' k1' : Value}
    (hT : Blk wx Tb 151 (tblCells C0 C1 C2 C3 r1' r2' r3' k1')) (h5 : Blk wx T5 82 #[.int .i64 ver, .slice (some ⟨Tb, 0, none⟩) n' 4]) (h2 : Blk wx R2 82 #[.int .i64 0, .slice none 0 0])
    {f1' f2' f3' : List (List Int × Int)} {p1' : List Prd}
    (x1 : TIn (erase (S3 S R2 T5 Tb) wx) wx.heap.size (tbl1 q f1 p1) ⟨.slice (some ⟨C1, 0, none⟩) 4 4, r1, k1⟩ → TIn (erase (S3 S R2 T5 Tb) wx) wx.heap.size (tbl1 q f1' p1') ⟨.slice (some ⟨C1, 0, none⟩) 4 4, r1', k1'⟩)
    (x2 : TIn (erase (S3 S R2 T5 Tb) wx) wx.heap.size (tbl2 f2) ⟨.slice (some ⟨C2, 0, none⟩) 2 2, r2, .slice none 0 0⟩ → TIn (erase (S3 S R2 T5 Tb) wx) wx.heap.size (tbl2 f2') ⟨.slice (some ⟨C2, 0, none⟩) 2 2, r2', .slice none 0 0⟩)
    (x3 : TIn (erase (S3 S R2 T5 Tb) wx) wx.heap.size (tbl3 q f3) ⟨.slice (some ⟨C3, 0, none⟩) 1 1, r3, .slice none 0 0⟩ → TIn (erase (S3 S R2 T5 Tb) wx) wx.heap.size (tbl3 q f3') ⟨.slice (some ⟨C3, 0, none⟩) 1 1, r3', .slice none 0 0⟩) :
    ScB S K v l R2 T5 Tb n' ver q C0 C1 C2 C3 r1' r2' r3' k1' f1' f2' f3' p1' w wx :=
  ⟨hg, hT, h5, h2, h.x0.keep hk hR, x1 (h.x1.keep hk hR), x2 (h.x2.keep hk hR), x3 (h.x3.keep hk hR)⟩
theorem ScB.goes (h : ScB S K v l R2 T5 Tb n ver q C0 C1 C2 C3 r1 r2 r3 k1 f1 f2 f3 p1 w wr) (hg : Goes K v l wr wx) (hK : K < R2 ∧ K < T5 ∧ K < Tb) (hSK : S K = true) : ScB S K v l R2 T5 Tb n ver q C0 C1 C2 C3 r1 r2 r3 k1 f1 f2 f3 p1 w wx :=
  h.keep hg.2 (fun k hk => by unfold Kone at hk; subst hk; rw [S3_old hK.1 hK.2.1 hK.2.2]; exact hSK) (h.g.then_ hg) (h.bT.kept hg.2 (fun e => by unfold Kone at e; omega)) (h.b5.kept hg.2 (fun e => by unfold Kone at e; omega)) (h.b2.kept hg.2 (fun e => by unfold Kone at e; omega)) id id id
theorem tcells_at {W : World} {i : Nat} {t : Tbl} {s : TS} (h : Blk wr Tb 151 (tblCells C0 C1 C2 C3 r1 r2 r3 k1)) (hW : W.heap[Tb]? = wr.heap[Tb]?) (h0 : ∀ j u, (tblC t s)[j]? = some u → (tblCells C0 C1 C2 C3 r1 r2 r3 k1)[i + j]? = some u) : CellsAt W Tb i (tblC t s) := fun j u hj => by
  rw [World.cell?_of_block hW, Blk.cell h]
  exact h0 j u hj
theorem ScB.sch (h : ScB S K v l R2 T5 Tb n ver q C0 C1 C2 C3 r1 r2 r3 k1 f1 f2 f3 p1 w wr) (hS : ∀ k, S' k = true → S3 S R2 T5 Tb k = true) (hT : S' Tb = false) (hn : n ≤ 4) (hver : I64 ver) :
    SchIn (erase S' wr) wr.heap.size ver ([tbl0, tbl1 q f1 p1, tbl2 f2, tbl3 q f3].take n) (.agg #[.int .i64 ver, .slice (some ⟨Tb, 0, none⟩) n 4]) := by
  have hl : ([tbl0, tbl1 q f1 p1, tbl2 f2, tbl3 q f3].take n).length = n := by rw [List.length_take]; simp; omega
  have hsub := sub_le hS wr
  have hW : (erase S' wr).heap[Tb]? = wr.heap[Tb]? := erase_get hT
  refine ⟨_, rfl, hver, by rw [hl]; exact hn, some ⟨Tb, 0, none⟩, 4, by rw [hl], by rw [hl]; exact hn, by simp only [maxLen]; omega, (fun h => by cases h), (fun k hk => ?_), fun _ => ⟨Tb, 0, rfl, h.bT.lt, TsAt.take_ _ _ _ _ ?_⟩⟩
  · simp only [Value.ownBlock, Option.some.injEq] at hk
    subst hk
    exact h.bT.lt
  · simp only [TsAt]
    refine ⟨⟨_, TIn.sub0 hsub h.x0, tcells_at (i := 0) h.bT hW (fun j u hj => ?_)⟩, ⟨_, TIn.sub0 hsub h.x1, tcells_at (i := 5) h.bT hW (fun j u hj => ?_)⟩, ⟨_, TIn.sub0 hsub h.x2, tcells_at (i := 10) h.bT hW (fun j u hj => ?_)⟩, ⟨_, TIn.sub0 hsub h.x3, tcells_at (i := 15) h.bT hW (fun j u hj => ?_)⟩, trivial⟩
    all_goals
      match j, hj with
      | 0, hj => exact hj
      | 1, hj => exact hj
      | 2, hj => exact hj
      | 3, hj => exact hj
      | 4, hj => exact hj
      | j + 5, hj => simp [tblC] at hj
theorem blk_slin {t : TypeId} {g sz m : Nat} {cs : List Value} (h : Blk wr g t cs.toArray) (hS : S g = false) (hl : cs.length = m * sz) (hm : m ≤ maxLen) : SlIn (erase S wr) wr.heap.size sz (.slice (some ⟨g, 0, none⟩) m m) m cs := by
  refine ⟨some ⟨g, 0, none⟩, m, rfl, Nat.le_refl _, hm, hl, (fun h => by cases h), (fun k hk => ?_), fun _ => ⟨g, 0, rfl, h.lt, fun j u hj => ?_⟩⟩
  · simp only [Value.ownBlock, Option.some.injEq] at hk
    subst hk
    exact h.lt
  · rw [World.cell?_of_block (erase_get hS), Blk.cell h, Nat.zero_add]
    simpa using hj
theorem S3_new {R6 R7 T k n : Nat} (hS : ∀ k, S k = true → k < n) (hk : n ≤ k) (h6 : k ≠ R6) (h7 : k ≠ R7) (hT : k ≠ T) : S3 S R6 R7 T k = false := by
  cases hx : S3 S R6 R7 T k with
  | false => rfl
  | true =>
    cases hs : S k with
    | true => have := hS k hs; omega
    | false =>
      have : (k = R6 ∨ k = R7) ∨ k = T := by simpa [S3, more, hs] using hx
      omega
/-- A list of one reference, new. -/
theorem ref_new {F G : Nat} {a b : Int} {tf tg : TypeId} (hf : Blk wr F tf #[.int .i64 a]) (hg : Blk wr G tg #[.slice (some ⟨F, 0, none⟩) 1 1, .int .i64 b]) (hF : S F = false) (hG : S G = false) : LyIn wr.heap.size (.slice (some ⟨G, 0, none⟩) 1 1) [(([a] : List Int), b)].length (RefsAt (erase S wr) wr.heap.size [([a], b)]) := by
  refine ⟨some ⟨G, 0, none⟩, 1, rfl, by simp, by simp [maxLen], (fun h => by cases h), (fun k hk => ?_), fun _ => ⟨G, 0, rfl, hg.lt, ?_⟩⟩
  · simp only [Value.ownBlock, Option.some.injEq] at hk
    subst hk
    exact hg.lt
  · simp only [RefsAt]
    refine ⟨⟨.slice (some ⟨F, 0, none⟩) 1 1, blk_slin (cs := [.int .i64 a]) hf hF rfl (by simp [maxLen]), fun j u hj => ?_⟩, trivial⟩
    rw [World.cell?_of_block (erase_get hG), Blk.cell hg, Nat.zero_add]
    simpa using hj
theorem chk_new {P : Nat} {p : Prd} {s : Value} {t : TypeId} (hb : Blk wr P t (p.cells s).toArray) (hp : PIn (erase S wr) wr.heap.size p s) (hP : S P = false) : LyIn wr.heap.size (.slice (some ⟨P, 0, none⟩) 1 1) [p].length (PsAt (erase S wr) wr.heap.size [p]) := by
  refine ⟨some ⟨P, 0, none⟩, 1, rfl, by simp, by simp [maxLen], (fun h => by cases h), (fun k hk => ?_), fun _ => ⟨P, 0, rfl, hb.lt, ?_⟩⟩
  · simp only [Value.ownBlock, Option.some.injEq] at hk
    subst hk
    exact hb.lt
  · simp only [PsAt]
    refine ⟨⟨s, hp, fun j u hj => ?_⟩, trivial⟩
    rw [World.cell?_of_block (erase_get hP), Blk.cell hb, Nat.zero_add]
    simpa using hj
theorem ScB.ref1 (h : ScB S K v l R2 T5 Tb n ver q C0 C1 C2 C3 r1 r2 r3 k1 f1 f2 f3 p1 w wr) (hc : ∃ a, CaseIs w K v l a) (hS : ∀ k, S k = true → k < w.heap.size) (hw : w.heap.size ≤ R2 ∧ R2 < Tb) (h5T : T5 ≠ Tb) (a b : Int) :
    ScB S K v l R2 T5 Tb n ver q C0 C1 C2 C3 (.slice (some ⟨wr.heap.size + 1, 0, none⟩) 1 1) r2 r3 k1 [([a], b)] f2 f3 p1 w (((wr.setCell ⟨Tb, 8, none⟩ (.slice (some ⟨wr.heap.size + 1, 0, none⟩) 1 1)).alloc (.cells #[.int .i64 a] 3)).alloc (.cells #[.slice (some ⟨wr.heap.size, 0, none⟩) 1 1, .int .i64 b] 153)) := by
  have hlt : ∀ k, S3 S R2 T5 Tb k = true → k < wr.heap.size := S3_lt (fun k hk => Nat.lt_of_lt_of_le (hS k hk) h.g.2.size) h.b2.lt h.b5.lt h.bT.lt
  have hno : ∀ k, wr.heap.size ≤ k → S3 S R2 T5 Tb k = false := fun k hk => by
    cases hx : S3 S R2 T5 Tb k with
    | false => rfl
    | true => have := hlt k hx; omega
  have hks : Kept (Kone Tb) wr (wr.setCell ⟨Tb, 8, none⟩ (.slice (some ⟨wr.heap.size + 1, 0, none⟩) 1 1)) := (Kept.refl _ _).setIn (p := ⟨Tb, 8, none⟩) (by unfold Kone; rfl) _
  have hT1 : Blk (wr.setCell ⟨Tb, 8, none⟩ (.slice (some ⟨wr.heap.size + 1, 0, none⟩) 1 1)) Tb 151 (tblCells C0 C1 C2 C3 (.slice (some ⟨wr.heap.size + 1, 0, none⟩) 1 1) r2 r3 k1) := h.bT.set_ 8 _
  have hz : (wr.setCell ⟨Tb, 8, none⟩ (.slice (some ⟨wr.heap.size + 1, 0, none⟩) 1 1)).heap.size = wr.heap.size := by simp [World.setCell]
  generalize wr.setCell ⟨Tb, 8, none⟩ (.slice (some ⟨wr.heap.size + 1, 0, none⟩) 1 1) = w1 at hks hT1 hz ⊢
  have hbF := (Blk.new w1 3 #[.int .i64 a]).alloc (.cells #[.slice (some ⟨wr.heap.size, 0, none⟩) 1 1, .int .i64 b] 153)
  have hbG := Blk.new (w1.alloc (.cells #[.int .i64 a] 3)) 153 #[.slice (some ⟨wr.heap.size, 0, none⟩) 1 1, .int .i64 b]
  rw [size_alloc', hz] at hbG
  rw [hz] at hbF
  have hka : Kept Kno w1 ((w1.alloc (.cells #[.int .i64 a] 3)).alloc (.cells #[.slice (some ⟨wr.heap.size, 0, none⟩) 1 1, .int .i64 b] 153)) := ((Kept.refl _ _).alloc _).alloc _
  have hk : Kept (Kone Tb) wr ((w1.alloc (.cells #[.int .i64 a] 3)).alloc (.cells #[.slice (some ⟨wr.heap.size, 0, none⟩) 1 1, .int .i64 b] 153)) := hks.then0 hka
  have hnew := ref_new (S := S3 S R2 T5 Tb) hbF hbG (hno _ (Nat.le_refl _)) (hno _ (by omega))
  exact h.keep hk (fun k e => by unfold Kone at e; subst e; exact S3_T) (Goes.thenN hc h.g hk (fun k e => by unfold Kone at e; omega)) (hT1.kept hka (fun h => h)) (h.b5.kept hk (fun e => h5T (by unfold Kone at e; exact e))) (h.b2.kept hk (fun e => by unfold Kone at e; omega)) (fun ⟨a1, a2, a3, a4, a5, a6, a7⟩ => ⟨a1, a2, a3, a4, a5, hnew, a7⟩) id id
theorem ScB.ref2 (h : ScB S K v l R2 T5 Tb n ver q C0 C1 C2 C3 r1 r2 r3 k1 f1 f2 f3 p1 w wr) (hc : ∃ a, CaseIs w K v l a) (hS : ∀ k, S k = true → k < w.heap.size) (hw : w.heap.size ≤ R2 ∧ R2 < Tb) (h5T : T5 ≠ Tb) (a b : Int) :
    ScB S K v l R2 T5 Tb n ver q C0 C1 C2 C3 r1 (.slice (some ⟨wr.heap.size + 1, 0, none⟩) 1 1) r3 k1 f1 [([a], b)] f3 p1 w (((wr.setCell ⟨Tb, 13, none⟩ (.slice (some ⟨wr.heap.size + 1, 0, none⟩) 1 1)).alloc (.cells #[.int .i64 a] 3)).alloc (.cells #[.slice (some ⟨wr.heap.size, 0, none⟩) 1 1, .int .i64 b] 153)) := by
  have hlt : ∀ k, S3 S R2 T5 Tb k = true → k < wr.heap.size := S3_lt (fun k hk => Nat.lt_of_lt_of_le (hS k hk) h.g.2.size) h.b2.lt h.b5.lt h.bT.lt
  have hno : ∀ k, wr.heap.size ≤ k → S3 S R2 T5 Tb k = false := fun k hk => by
    cases hx : S3 S R2 T5 Tb k with
    | false => rfl
    | true => have := hlt k hx; omega
  have hks : Kept (Kone Tb) wr (wr.setCell ⟨Tb, 13, none⟩ (.slice (some ⟨wr.heap.size + 1, 0, none⟩) 1 1)) := (Kept.refl _ _).setIn (p := ⟨Tb, 13, none⟩) (by unfold Kone; rfl) _
  have hT1 : Blk (wr.setCell ⟨Tb, 13, none⟩ (.slice (some ⟨wr.heap.size + 1, 0, none⟩) 1 1)) Tb 151 (tblCells C0 C1 C2 C3 r1 (.slice (some ⟨wr.heap.size + 1, 0, none⟩) 1 1) r3 k1) := h.bT.set_ 13 _
  have hz : (wr.setCell ⟨Tb, 13, none⟩ (.slice (some ⟨wr.heap.size + 1, 0, none⟩) 1 1)).heap.size = wr.heap.size := by simp [World.setCell]
  generalize wr.setCell ⟨Tb, 13, none⟩ (.slice (some ⟨wr.heap.size + 1, 0, none⟩) 1 1) = w1 at hks hT1 hz ⊢
  have hbF := (Blk.new w1 3 #[.int .i64 a]).alloc (.cells #[.slice (some ⟨wr.heap.size, 0, none⟩) 1 1, .int .i64 b] 153)
  have hbG := Blk.new (w1.alloc (.cells #[.int .i64 a] 3)) 153 #[.slice (some ⟨wr.heap.size, 0, none⟩) 1 1, .int .i64 b]
  rw [size_alloc', hz] at hbG
  rw [hz] at hbF
  have hka : Kept Kno w1 ((w1.alloc (.cells #[.int .i64 a] 3)).alloc (.cells #[.slice (some ⟨wr.heap.size, 0, none⟩) 1 1, .int .i64 b] 153)) := ((Kept.refl _ _).alloc _).alloc _
  have hk : Kept (Kone Tb) wr ((w1.alloc (.cells #[.int .i64 a] 3)).alloc (.cells #[.slice (some ⟨wr.heap.size, 0, none⟩) 1 1, .int .i64 b] 153)) := hks.then0 hka
  have hnew := ref_new (S := S3 S R2 T5 Tb) hbF hbG (hno _ (Nat.le_refl _)) (hno _ (by omega))
  exact h.keep hk (fun k e => by unfold Kone at e; subst e; exact S3_T) (Goes.thenN hc h.g hk (fun k e => by unfold Kone at e; omega)) (hT1.kept hka (fun h => h)) (h.b5.kept hk (fun e => h5T (by unfold Kone at e; exact e))) (h.b2.kept hk (fun e => by unfold Kone at e; omega)) id (fun ⟨a1, a2, a3, a4, a5, a6, a7⟩ => ⟨a1, a2, a3, a4, a5, hnew, a7⟩) id
theorem ScB.ref3 (h : ScB S K v l R2 T5 Tb n ver q C0 C1 C2 C3 r1 r2 r3 k1 f1 f2 f3 p1 w wr) (hc : ∃ a, CaseIs w K v l a) (hS : ∀ k, S k = true → k < w.heap.size) (hw : w.heap.size ≤ R2 ∧ R2 < Tb) (h5T : T5 ≠ Tb) (a b : Int) :
    ScB S K v l R2 T5 Tb n ver q C0 C1 C2 C3 r1 r2 (.slice (some ⟨wr.heap.size + 1, 0, none⟩) 1 1) k1 f1 f2 [([a], b)] p1 w (((wr.setCell ⟨Tb, 18, none⟩ (.slice (some ⟨wr.heap.size + 1, 0, none⟩) 1 1)).alloc (.cells #[.int .i64 a] 3)).alloc (.cells #[.slice (some ⟨wr.heap.size, 0, none⟩) 1 1, .int .i64 b] 153)) := by
  have hlt : ∀ k, S3 S R2 T5 Tb k = true → k < wr.heap.size := S3_lt (fun k hk => Nat.lt_of_lt_of_le (hS k hk) h.g.2.size) h.b2.lt h.b5.lt h.bT.lt
  have hno : ∀ k, wr.heap.size ≤ k → S3 S R2 T5 Tb k = false := fun k hk => by
    cases hx : S3 S R2 T5 Tb k with
    | false => rfl
    | true => have := hlt k hx; omega
  have hks : Kept (Kone Tb) wr (wr.setCell ⟨Tb, 18, none⟩ (.slice (some ⟨wr.heap.size + 1, 0, none⟩) 1 1)) := (Kept.refl _ _).setIn (p := ⟨Tb, 18, none⟩) (by unfold Kone; rfl) _
  have hT1 : Blk (wr.setCell ⟨Tb, 18, none⟩ (.slice (some ⟨wr.heap.size + 1, 0, none⟩) 1 1)) Tb 151 (tblCells C0 C1 C2 C3 r1 r2 (.slice (some ⟨wr.heap.size + 1, 0, none⟩) 1 1) k1) := h.bT.set_ 18 _
  have hz : (wr.setCell ⟨Tb, 18, none⟩ (.slice (some ⟨wr.heap.size + 1, 0, none⟩) 1 1)).heap.size = wr.heap.size := by simp [World.setCell]
  generalize wr.setCell ⟨Tb, 18, none⟩ (.slice (some ⟨wr.heap.size + 1, 0, none⟩) 1 1) = w1 at hks hT1 hz ⊢
  have hbF := (Blk.new w1 3 #[.int .i64 a]).alloc (.cells #[.slice (some ⟨wr.heap.size, 0, none⟩) 1 1, .int .i64 b] 153)
  have hbG := Blk.new (w1.alloc (.cells #[.int .i64 a] 3)) 153 #[.slice (some ⟨wr.heap.size, 0, none⟩) 1 1, .int .i64 b]
  rw [size_alloc', hz] at hbG
  rw [hz] at hbF
  have hka : Kept Kno w1 ((w1.alloc (.cells #[.int .i64 a] 3)).alloc (.cells #[.slice (some ⟨wr.heap.size, 0, none⟩) 1 1, .int .i64 b] 153)) := ((Kept.refl _ _).alloc _).alloc _
  have hk : Kept (Kone Tb) wr ((w1.alloc (.cells #[.int .i64 a] 3)).alloc (.cells #[.slice (some ⟨wr.heap.size, 0, none⟩) 1 1, .int .i64 b] 153)) := hks.then0 hka
  have hnew := ref_new (S := S3 S R2 T5 Tb) hbF hbG (hno _ (Nat.le_refl _)) (hno _ (by omega))
  exact h.keep hk (fun k e => by unfold Kone at e; subst e; exact S3_T) (Goes.thenN hc h.g hk (fun k e => by unfold Kone at e; omega)) (hT1.kept hka (fun h => h)) (h.b5.kept hk (fun e => h5T (by unfold Kone at e; exact e))) (h.b2.kept hk (fun e => by unfold Kone at e; omega)) id id (fun ⟨a1, a2, a3, a4, a5, a6, a7⟩ => ⟨a1, a2, a3, a4, a5, hnew, a7⟩)
theorem ScB.chk {p : Prd} {sp : Value} (h : ScB S K v l R2 T5 Tb n ver q C0 C1 C2 C3 r1 r2 r3 k1 f1 f2 f3 p1 w wr) (hc : ∃ a, CaseIs w K v l a) (hS : ∀ k, S k = true → k < w.heap.size) (hw : w.heap.size ≤ R2 ∧ R2 < Tb) (h5T : T5 ≠ Tb) (hp : PIn (erase (S3 S R2 T5 Tb) wr) wr.heap.size p sp) :
    ScB S K v l R2 T5 Tb n ver q C0 C1 C2 C3 r1 r2 r3 (.slice (some ⟨wr.heap.size, 0, none⟩) 1 1) f1 f2 f3 [p] w ((wr.setCell ⟨Tb, 9, none⟩ (.slice (some ⟨wr.heap.size, 0, none⟩) 1 1)).alloc (.cells (p.cells sp).toArray 54)) := by
  have hlt : ∀ k, S3 S R2 T5 Tb k = true → k < wr.heap.size := S3_lt (fun k hk => Nat.lt_of_lt_of_le (hS k hk) h.g.2.size) h.b2.lt h.b5.lt h.bT.lt
  have hno : ∀ k, wr.heap.size ≤ k → S3 S R2 T5 Tb k = false := fun k hk => by
    cases hx : S3 S R2 T5 Tb k with
    | false => rfl
    | true => have := hlt k hx; omega
  have hks : Kept (Kone Tb) wr (wr.setCell ⟨Tb, 9, none⟩ (.slice (some ⟨wr.heap.size, 0, none⟩) 1 1)) := (Kept.refl _ _).setIn (p := ⟨Tb, 9, none⟩) (by unfold Kone; rfl) _
  have hT1 : Blk (wr.setCell ⟨Tb, 9, none⟩ (.slice (some ⟨wr.heap.size, 0, none⟩) 1 1)) Tb 151 (tblCells C0 C1 C2 C3 r1 r2 r3 (.slice (some ⟨wr.heap.size, 0, none⟩) 1 1)) := h.bT.set_ 9 _
  have hz : (wr.setCell ⟨Tb, 9, none⟩ (.slice (some ⟨wr.heap.size, 0, none⟩) 1 1)).heap.size = wr.heap.size := by simp [World.setCell]
  have hp1 := hp.keep hks (fun k e => by unfold Kone at e; subst e; exact S3_T)
  generalize wr.setCell ⟨Tb, 9, none⟩ (.slice (some ⟨wr.heap.size, 0, none⟩) 1 1) = w1 at hks hT1 hz hp1 ⊢
  have hbP := Blk.new w1 54 (p.cells sp).toArray
  rw [hz] at hbP
  have hka : Kept Kno w1 (w1.alloc (.cells (p.cells sp).toArray 54)) := (Kept.refl _ _).alloc _
  have hk : Kept (Kone Tb) wr (w1.alloc (.cells (p.cells sp).toArray 54)) := hks.then0 hka
  have hnew := chk_new (S := S3 S R2 T5 Tb) hbP (hp1.keep hka (fun _ h => h.elim)) (hno _ (Nat.le_refl _))
  exact h.keep hk (fun k e => by unfold Kone at e; subst e; exact S3_T) (Goes.thenN hc h.g hk (fun k e => by unfold Kone at e; omega)) (hT1.kept hka (fun h => h)) (h.b5.kept hk (fun e => h5T (by unfold Kone at e; exact e))) (h.b2.kept hk (fun e => by unfold Kone at e; omega)) (fun ⟨a1, a2, a3, a4, a5, a6, a7⟩ => ⟨a1, a2, a3, a4, a5, a6, hnew⟩) id id
end

set_option maxRecDepth 100000 in
set_option maxHeartbeats 3000000 in
theorem schema_any (S : Nat → Bool) (K : Nat) (v : Value) (l : List UInt8) (w : World) (hc : ∃ a, CaseIs w K v l a) (hSK : S K = true) (hS : ∀ k, S k = true → k < w.heap.size) :
    Calls Tryz.prog 24 #[.pointer (some ⟨K, 0, none⟩)] w (SchemaOk S K v l w) := by
  have HC := Lib.hid hc
  have hKw : K < w.heap.size := hS K hSK
  clear hc
  go_enter Tryz.func24, Tryz.ntmps24
  go_upto_region 1 with (fail)
  obtain ⟨w0, h0⟩ : ∃ w0, w.alloc (.cells #[.int .i64 0, .slice none 0 0] 82) = w0 := ⟨_, rfl⟩
  obtain ⟨R2, hR2⟩ : ∃ R, w.heap.size = R := ⟨_, rfl⟩
  have hb2 : Blk w0 R2 82 #[.int .i64 0, .slice none 0 0] := by rw [← h0, ← hR2]; exact Blk.new _ _ _
  have hg0 : Goes K v l w w0 := Goes.of0 HC.out (by rw [← h0]; exact (Kept.refl _ _).alloc _)
  have hKR : K < R2 := by omega
  have hwR : w.heap.size ≤ R2 := by omega
  rw [h0, hR2]
  clear h0
  have HR2 := Lib.hid hR2
  clear hR2
  go_wp2_with fail
  obtain ⟨a0, hc0⟩ := hg0.1
  refine (int_any K a0 3 v l w0 hc0 (by decide) (by decide)).mono ?_
  rintro e w1 ⟨m, hm, rfl, hg1⟩
  have hb2 := hb2.kept hg1.2 (fun e => by unfold Kone at e; omega)
  have hg1 := hg0.then_ hg1
  go_wp2_with fail
  obtain ⟨a1, hc1⟩ := hg1.1
  refine (cbool_any K a1 5 v l w1 hc1 (by decide) (by decide)).mono ?_
  rintro e w2 ⟨b, rfl, hg2⟩
  have hb2 := hb2.kept hg2.2 (fun e => by unfold Kone at e; omega)
  have hg2 := hg1.then_ hg2
  have HB2 := Lib.hid hb2
  have HG2 := Lib.hid hg2
  clear hg0 hg1 hc0 hc1 hb2 hg2
  go_upto_if 10 with (fail)
  go_cut [4] (fun s wx => ∃ q : Int, (q = 4 ∨ q = 5) ∧ s = .int .i64 q ∧ wx = w2)
  case first =>
    cases b with
    | false =>
      go_wp2
      go_meet
      exact ⟨4, .inl rfl, rfl, rfl⟩
    | true =>
      go_wp2
      go_meet
      exact ⟨5, .inr rfl, rfl, rfl⟩
  case rest =>
  obtain ⟨q, hq, rfl, rfl⟩ := hcut
  go_wp2_with fail
  obtain ⟨a2, hc2⟩ := HG2.out.1
  refine (int_any K a2 3 v l _ hc2 (by decide) (by decide)).mono ?_
  rintro e w3 ⟨ver, hver, rfl, hg3⟩
  have HB3 := Lib.hid (HB2.out.kept hg3.2 (fun e => by unfold Kone at e; omega))
  have HG3 := Lib.hid (HG2.out.then_ hg3)
  clear hc2 hg3
  go_wp2_with fail
  refine (column_any _ _ _).mono ?_
  rintro e w4 ⟨rfl, hk4⟩
  have HK4 := Lib.hid hk4
  have HB3 := Lib.hid (HB3.out.kept HK4.out (fun h => h))
  have HG3 := Lib.hid (HG3.out.then0 HK4.out)
  clear hk4
  go_wp2_with fail
  refine (column_any _ _ _).mono ?_
  rintro e w5 ⟨rfl, hk5⟩
  have HK5 := Lib.hid hk5
  have HB3 := Lib.hid (HB3.out.kept HK5.out (fun h => h))
  have HG3 := Lib.hid (HG3.out.then0 HK5.out)
  clear hk5
  obtain ⟨C0, hC0⟩ : ∃ C, w5.heap.size = C := ⟨_, rfl⟩
  have HE0 := Lib.hid hC0
  have hRC0 : R2 < C0 := by rw [← hC0]; exact HB3.out.lt
  clear hC0
  go_wp2_with fail
  obtain ⟨y0, hy0⟩ : ∃ y, w5.alloc (.cells #[.string ⟨#[105, 100]⟩, .int .i64 4, .string ⟨#[111, 119, 110, 101, 114]⟩, .int .i64 4] 146) = y := ⟨_, rfl⟩
  have HC0 : Hid (Blk y0 C0 146 #[.string ⟨#[105, 100]⟩, .int .i64 4, .string ⟨#[111, 119, 110, 101, 114]⟩, .int .i64 4]) := Lib.hid (by rw [← hy0, ← HE0.out]; exact Blk.new _ _ _)
  have HYK0 : Hid (Kept Kno w5 y0) := Lib.hid (by rw [← hy0]; exact (Kept.refl _ _).alloc _)
  rw [hy0]
  clear hy0
  refine (column_any _ _ _).mono ?_
  rintro e w6 ⟨rfl, hk6⟩
  have HK6 := Lib.hid (HYK0.out.then0 hk6)
  have HC0 := Lib.hid (HC0.out.kept hk6 (fun h => h))
  have HB3 := Lib.hid (HB3.out.kept HK6.out (fun h => h))
  have HG3 := Lib.hid (HG3.out.then0 HK6.out)
  clear hk6
  go_wp2_with fail
  refine (column_any _ _ _).mono ?_
  rintro e w7 ⟨rfl, hk7⟩
  have HK7 := Lib.hid hk7
  have HC0 := Lib.hid (HC0.out.kept hk7 (fun h => h))
  have HB3 := Lib.hid (HB3.out.kept HK7.out (fun h => h))
  have HG3 := Lib.hid (HG3.out.then0 HK7.out)
  clear hk7
  go_wp2_with fail
  refine (column_any _ _ _).mono ?_
  rintro e w8 ⟨rfl, hk8⟩
  have HK8 := Lib.hid hk8
  have HC0 := Lib.hid (HC0.out.kept hk8 (fun h => h))
  have HB3 := Lib.hid (HB3.out.kept HK8.out (fun h => h))
  have HG3 := Lib.hid (HG3.out.then0 HK8.out)
  clear hk8
  go_wp2_with fail
  refine (column_any _ _ _).mono ?_
  rintro e w9 ⟨rfl, hk9⟩
  have HK9 := Lib.hid hk9
  have HC0 := Lib.hid (HC0.out.kept hk9 (fun h => h))
  have HB3 := Lib.hid (HB3.out.kept HK9.out (fun h => h))
  have HG3 := Lib.hid (HG3.out.then0 HK9.out)
  clear hk9
  obtain ⟨C1, hC1⟩ : ∃ C, w9.heap.size = C := ⟨_, rfl⟩
  have HE1 := Lib.hid hC1
  have hRC1 : R2 < C1 := by rw [← hC1]; exact HB3.out.lt
  clear hC1
  go_wp2_with fail
  obtain ⟨y1, hy1⟩ : ∃ y, w9.alloc (.cells #[.string ⟨#[105, 100]⟩, .int .i64 q, .string ⟨#[112, 114, 111, 106, 101, 99, 116]⟩, .int .i64 4, .string ⟨#[116, 105, 116, 108, 101]⟩, .int .i64 5, .string ⟨#[100, 111, 110, 101]⟩, .int .i64 3] 146) = y := ⟨_, rfl⟩
  have HC1 : Hid (Blk y1 C1 146 #[.string ⟨#[105, 100]⟩, .int .i64 q, .string ⟨#[112, 114, 111, 106, 101, 99, 116]⟩, .int .i64 4, .string ⟨#[116, 105, 116, 108, 101]⟩, .int .i64 5, .string ⟨#[100, 111, 110, 101]⟩, .int .i64 3]) := Lib.hid (by rw [← hy1, ← HE1.out]; exact Blk.new _ _ _)
  have HYK1 : Hid (Kept Kno w9 y1) := Lib.hid (by rw [← hy1]; exact (Kept.refl _ _).alloc _)
  rw [hy1]
  clear hy1
  refine (column_any _ _ _).mono ?_
  rintro e w10 ⟨rfl, hk10⟩
  have HK10 := Lib.hid (HYK1.out.then0 hk10)
  have HC1 := Lib.hid (HC1.out.kept hk10 (fun h => h))
  have HC0 := Lib.hid (HC0.out.kept HK10.out (fun h => h))
  have HB3 := Lib.hid (HB3.out.kept HK10.out (fun h => h))
  have HG3 := Lib.hid (HG3.out.then0 HK10.out)
  clear hk10
  go_wp2_with fail
  refine (column_any _ _ _).mono ?_
  rintro e w11 ⟨rfl, hk11⟩
  have HK11 := Lib.hid hk11
  have HC1 := Lib.hid (HC1.out.kept hk11 (fun h => h))
  have HC0 := Lib.hid (HC0.out.kept HK11.out (fun h => h))
  have HB3 := Lib.hid (HB3.out.kept HK11.out (fun h => h))
  have HG3 := Lib.hid (HG3.out.then0 HK11.out)
  clear hk11
  obtain ⟨C2, hC2⟩ : ∃ C, w11.heap.size = C := ⟨_, rfl⟩
  have HE2 := Lib.hid hC2
  have hRC2 : R2 < C2 := by rw [← hC2]; exact HB3.out.lt
  clear hC2
  go_wp2_with fail
  obtain ⟨y2, hy2⟩ : ∃ y, w11.alloc (.cells #[.string ⟨#[112, 114, 111, 106, 101, 99, 116]⟩, .int .i64 4, .string ⟨#[112, 101, 114, 115, 111, 110]⟩, .int .i64 4] 146) = y := ⟨_, rfl⟩
  have HC2 : Hid (Blk y2 C2 146 #[.string ⟨#[112, 114, 111, 106, 101, 99, 116]⟩, .int .i64 4, .string ⟨#[112, 101, 114, 115, 111, 110]⟩, .int .i64 4]) := Lib.hid (by rw [← hy2, ← HE2.out]; exact Blk.new _ _ _)
  have HYK2 : Hid (Kept Kno w11 y2) := Lib.hid (by rw [← hy2]; exact (Kept.refl _ _).alloc _)
  rw [hy2]
  clear hy2
  refine (column_any _ _ _).mono ?_
  rintro e w12 ⟨rfl, hk12⟩
  have HK12 := Lib.hid (HYK2.out.then0 hk12)
  have HC2 := Lib.hid (HC2.out.kept hk12 (fun h => h))
  have HC0 := Lib.hid (HC0.out.kept HK12.out (fun h => h))
  have HC1 := Lib.hid (HC1.out.kept HK12.out (fun h => h))
  have HB3 := Lib.hid (HB3.out.kept HK12.out (fun h => h))
  have HG3 := Lib.hid (HG3.out.then0 HK12.out)
  clear hk12
  obtain ⟨C3, hC3⟩ : ∃ C, w12.heap.size = C := ⟨_, rfl⟩
  have HE3 := Lib.hid hC3
  have hRC3 : R2 < C3 := by rw [← hC3]; exact HB3.out.lt
  clear hC3
  have hC03 : C0 < C3 := by rw [← HE3.out]; exact HC0.out.lt
  have hC13 : C1 < C3 := by rw [← HE3.out]; exact HC1.out.lt
  have hC23 : C2 < C3 := by rw [← HE3.out]; exact HC2.out.lt
  go_upto_region 6 with (fail)
  rw [HE0.out, HE1.out, HE2.out, HE3.out]
  obtain ⟨n, hn⟩ : ∃ n : Nat, (2 + (m : Int)) = (n : Int) := ⟨2 + m, by omega⟩
  have hn2 : 2 ≤ n := by omega
  have hn4 : n ≤ 4 := by omega
  have hnI : (n : Int) ≤ 4 := by omega
  have hn0 : (0 : Int) ≤ (n : Int) := by omega
  rw [hn]
  clear hn
  obtain ⟨w13, h13⟩ : ∃ w13, ((w12.alloc (.cells #[.string ⟨#[116, 97, 115, 107]⟩, .int .i64 q] 146)).alloc (.cells #[.string ⟨#[112, 114, 111, 106, 101, 99, 116, 115]⟩, .slice (some ⟨C0, 0, none⟩) 2 2, .int .i64 1, .slice none 0 0, .slice none 0 0, .string ⟨#[116, 97, 115, 107, 115]⟩, .slice (some ⟨C1, 0, none⟩) 4 4, .int .i64 1, .slice none 0 0, .slice none 0 0, .string ⟨#[109, 101, 109, 98, 101, 114, 115]⟩, .slice (some ⟨C2, 0, none⟩) 2 2, .int .i64 2, .slice none 0 0, .slice none 0 0, .string ⟨#[97, 114, 99, 104, 105, 118, 101, 100]⟩, .slice (some ⟨C3, 0, none⟩) 1 1, .int .i64 1, .slice none 0 0, .slice none 0 0] 151)).alloc (.cells #[.int .i64 (ver : Int), .slice (some ⟨C3 + 1, 0, none⟩) 4 4] 82) = w13 := ⟨_, rfl⟩
  have hk13 : Kept Kno w12 w13 := by rw [← h13]; exact (((Kept.refl _ _).alloc _).alloc _).alloc _
  have hbC3 : Blk w13 C3 146 #[.string ⟨#[116, 97, 115, 107]⟩, .int .i64 q] := by rw [← h13, ← HE3.out]; exact ((Blk.new _ _ _).alloc _).alloc _
  have hbT : Blk w13 (C3 + 1) 151 (tblCells C0 C1 C2 C3 (.slice none 0 0) (.slice none 0 0) (.slice none 0 0) (.slice none 0 0)) := by
    rw [← h13]
    have := (Blk.new (w12.alloc (.cells #[.string ⟨#[116, 97, 115, 107]⟩, .int .i64 q] 146)) 151 #[.string ⟨#[112, 114, 111, 106, 101, 99, 116, 115]⟩, .slice (some ⟨C0, 0, none⟩) 2 2, .int .i64 1, .slice none 0 0, .slice none 0 0, .string ⟨#[116, 97, 115, 107, 115]⟩, .slice (some ⟨C1, 0, none⟩) 4 4, .int .i64 1, .slice none 0 0, .slice none 0 0, .string ⟨#[109, 101, 109, 98, 101, 114, 115]⟩, .slice (some ⟨C2, 0, none⟩) 2 2, .int .i64 2, .slice none 0 0, .slice none 0 0, .string ⟨#[97, 114, 99, 104, 105, 118, 101, 100]⟩, .slice (some ⟨C3, 0, none⟩) 1 1, .int .i64 1, .slice none 0 0, .slice none 0 0]).alloc (.cells #[.int .i64 (ver : Int), .slice (some ⟨C3 + 1, 0, none⟩) 4 4] 82)
    simp only [size_alloc', HE3.out] at this
    exact this
  have hb5 : Blk w13 (C3 + 1 + 1) 82 #[.int .i64 (ver : Int), .slice (some ⟨C3 + 1, 0, none⟩) 4 4] := by
    rw [← h13]
    have := Blk.new ((w12.alloc (.cells #[.string ⟨#[116, 97, 115, 107]⟩, .int .i64 q] 146)).alloc (.cells #[.string ⟨#[112, 114, 111, 106, 101, 99, 116, 115]⟩, .slice (some ⟨C0, 0, none⟩) 2 2, .int .i64 1, .slice none 0 0, .slice none 0 0, .string ⟨#[116, 97, 115, 107, 115]⟩, .slice (some ⟨C1, 0, none⟩) 4 4, .int .i64 1, .slice none 0 0, .slice none 0 0, .string ⟨#[109, 101, 109, 98, 101, 114, 115]⟩, .slice (some ⟨C2, 0, none⟩) 2 2, .int .i64 2, .slice none 0 0, .slice none 0 0, .string ⟨#[97, 114, 99, 104, 105, 118, 101, 100]⟩, .slice (some ⟨C3, 0, none⟩) 1 1, .int .i64 1, .slice none 0 0, .slice none 0 0] 151)) 82 #[.int .i64 (ver : Int), .slice (some ⟨C3 + 1, 0, none⟩) 4 4]
    simp only [size_alloc', HE3.out] at this
    exact this
  rw [h13]
  obtain ⟨Tb, hTb⟩ : ∃ T, C3 + 1 = T := ⟨_, rfl⟩
  obtain ⟨T5, hT5⟩ : ∃ T, C3 + 1 + 1 = T := ⟨_, rfl⟩
  have hCT : C3 < Tb := by omega
  have hTT : Tb < T5 := by omega
  rw [hT5] at hb5 ⊢
  rw [hTb] at hb5 hbT ⊢
  have hS5 : ∀ k, w.heap.size ≤ k → k ≠ R2 → k ≠ T5 → k ≠ Tb → S3 S R2 T5 Tb k = false := fun k h1 h2 h3 h4 => S3_new hS h1 h2 h3 h4
  have hSB : ScB S K v l R2 T5 Tb 4 (ver : Int) q C0 C1 C2 C3 (.slice none 0 0) (.slice none 0 0) (.slice none 0 0) (.slice none 0 0) [] [] [] [] w w13 := by
    refine ⟨HG3.out.then0 hk13, hbT, hb5, HB3.out.kept hk13 (fun h => h), ⟨blk_slin (cs := colC (cols0 4)) (HC0.out.kept hk13 (fun h => h)) (hS5 _ (by omega) (by omega) (by omega) (by omega)) rfl (by simp [maxLen]), ?_, by decide, by decide, by decide, LyIn.nil, LyIn.nil⟩, ⟨blk_slin (cs := colC (cols1 q)) (HC1.out.kept hk13 (fun h => h)) (hS5 _ (by omega) (by omega) (by omega) (by omega)) rfl (by simp [maxLen]), ?_, by show 4 ≤ 8; decide, by show (1 : Int) ≤ 1; decide, by show (1 : Int) ≤ 4; decide, LyIn.nil, LyIn.nil⟩, ⟨blk_slin (cs := colC (cols2 4)) (HC2.out.kept hk13 (fun h => h)) (hS5 _ (by omega) (by omega) (by omega) (by omega)) rfl (by simp [maxLen]), ?_, by show 2 ≤ 8; decide, by show (1 : Int) ≤ 2; decide, by show (2 : Int) ≤ 2; decide, LyIn.nil, LyIn.nil⟩, ⟨blk_slin (cs := colC (cols3 q)) hbC3 (hS5 _ (by omega) (by omega) (by omega) (by omega)) rfl (by simp [maxLen]), ?_, by show 1 ≤ 8; decide, by show (1 : Int) ≤ 1; decide, by show (1 : Int) ≤ 1; decide, LyIn.nil, LyIn.nil⟩⟩
    · intro c hc
      simp only [tbl0, cols0, List.mem_cons, List.not_mem_nil, or_false] at hc
      rcases hc with rfl | rfl <;> exact ⟨by show (3 : Int) ≤ _; decide, by show _ ≤ (5 : Int); decide⟩
    · intro c hc
      simp only [tbl1, cols1, List.mem_cons, List.not_mem_nil, or_false] at hc
      rcases hc with rfl | rfl | rfl | rfl
      · exact ⟨by show (3 : Int) ≤ q; omega, by show q ≤ (5 : Int); omega⟩
      all_goals exact ⟨by show (3 : Int) ≤ _; decide, by show _ ≤ (5 : Int); decide⟩
    · intro c hc
      simp only [tbl2, cols2, List.mem_cons, List.not_mem_nil, or_false] at hc
      rcases hc with rfl | rfl <;> exact ⟨by show (3 : Int) ≤ _; decide, by show _ ≤ (5 : Int); decide⟩
    · intro c hc
      simp only [tbl3, cols3, List.mem_cons, List.not_mem_nil, or_false] at hc
      subst hc
      exact ⟨by show (3 : Int) ≤ q; omega, by show q ≤ (5 : Int); omega⟩
  have HSB := Lib.hid hSB
  have hKK : K < R2 ∧ K < T5 ∧ K < Tb := by omega
  have HKK := Lib.hid hKK
  have HS5 := Lib.hid hS5
  have c51 : w13.cell? ⟨T5, 1, none⟩ = some (.slice (some ⟨Tb, 0, none⟩) 4 4) := hb5.cell 1
  have f51 := hb5.frozen 1
  have HW0 : Hid (w.heap.size ≤ R2 ∧ R2 < Tb) := Lib.hid ⟨hwR, by omega⟩
  clear h13 hk13 hbC3 hbT hb5 hTb hT5 hSB hKK HC0 HC1 HC2 HB3 HG3 hS5
  clear HE0 HE1 HE2 HE3
  go_upto_region 7 with (fail)
  obtain ⟨w14, h14⟩ : ∃ w14, w13.setCell ⟨T5, 1, none⟩ (.slice (some ⟨Tb, 0, none⟩) n 4) = w14 := ⟨_, rfl⟩
  have hks : Kept (Kone T5) w13 w14 := by rw [← h14]; exact (Kept.refl _ _).setIn (p := ⟨T5, 1, none⟩) (by unfold Kone; rfl) _
  have HA : Hid (ScB S K v l R2 T5 Tb n (ver : Int) q C0 C1 C2 C3 (.slice none 0 0) (.slice none 0 0) (.slice none 0 0) (.slice none 0 0) [] [] [] [] w w14) := Lib.hid (HSB.out.keep hks (fun k e => by unfold Kone at e; subst e; exact S3_7) (Goes.thenN HC.out HSB.out.g hks (fun k e => by unfold Kone at e; have := HW0.out; omega)) (HSB.out.bT.kept hks (fun e => by unfold Kone at e; omega)) (by rw [← h14]; exact HSB.out.b5.set_ 1 _) (HSB.out.b2.kept hks (fun e => by unfold Kone at e; have := HW0.out; omega)) id id id)
  rw [h14]
  clear h14 hks HSB c51 f51
  have h5T : T5 ≠ Tb := by omega
  have HSL := Lib.hid hS
  clear hS
  go_wp2_with fail
  obtain ⟨a14, hc14⟩ := HA.out.g.1
  refine (cbool_any K a14 2 v l w14 hc14 (by decide) (by decide)).mono ?_
  rintro e w15 ⟨b1, rfl, hg15⟩
  have HA := Lib.hid (HA.out.goes hg15 HKK.out hSK)
  clear hg15 hc14
  go_upto_if 40 with (fail)
  go_cut [] (fun wx => ∃ r1 f1, ScB S K v l R2 T5 Tb n (ver : Int) q C0 C1 C2 C3 r1 (.slice none 0 0) (.slice none 0 0) (.slice none 0 0) f1 [] [] [] w wx)
  case first =>
    cases b1 with
    | false =>
      go_wp2
      go_meet
      exact ⟨_, _, HA.out⟩
    | true =>
      have c51 : w15.cell? ⟨T5, 1, none⟩ = some (.slice (some ⟨Tb, 0, none⟩) n 4) := HA.out.b5.cell 1
      have cT : w15.cell? ⟨Tb, 8, none⟩ = some (.slice none 0 0) := HA.out.bT.cell 8
      have fT := HA.out.bT.frozen 8
      have hTl : Tb < w15.heap.size := HA.out.bT.lt
      have h5l : T5 < w15.heap.size := HA.out.b5.lt
      have hn1 : (1 : Int) < (n : Int) := by omega
      go_wp2_with fail
      go_meet
      exact ⟨_, _, HA.out.ref1 HC.out HSL.out HW0.out h5T 1 0⟩
  case rest =>
  obtain ⟨r1, f1, ha⟩ := hcut
  have HA := Lib.hid ha
  clear ha
  go_upto_region 9 with (fail)
  go_cut [53] (fun s wx => ∃ b : Bool, s = .bool b ∧ (b = true → 2 < n) ∧ ScB S K v l R2 T5 Tb n (ver : Int) q C0 C1 C2 C3 r1 (.slice none 0 0) (.slice none 0 0) (.slice none 0 0) f1 [] [] [] w wx)
  case first =>
    by_cases hn2 : 2 < n
    · have hnI2 : (2 : Int) < (n : Int) := by omega
      obtain ⟨a, hca⟩ := HA.out.g.1
      go_wp2_with fail
      refine (cbool_any K a 3 v l _ hca (by decide) (by decide)).mono ?_
      rintro e wz ⟨b, rfl, hgz⟩
      have HZ := Lib.hid (HA.out.goes hgz HKK.out hSK)
      clear hgz hca
      go_wp2
      go_meet
      exact ⟨b, rfl, (fun _ => hn2), HZ.out⟩
    · have hnI2 : ¬ (2 : Int) < (n : Int) := by omega
      go_wp2
      go_meet
      exact ⟨false, rfl, (fun h => by cases h), HA.out⟩
  case rest =>
  obtain ⟨b, rfl, hbn2, ha⟩ := hcut
  have HA := Lib.hid ha
  clear ha
  go_upto_if 53 with (fail)
  go_cut [] (fun wx => ∃ r2 f2, ScB S K v l R2 T5 Tb n (ver : Int) q C0 C1 C2 C3 r1 r2 (.slice none 0 0) (.slice none 0 0) f1 f2 [] [] w wx)
  case first =>
    cases b with
    | false =>
      go_wp2
      go_meet
      exact ⟨_, _, HA.out⟩
    | true =>
      have hnk := hbn2 rfl
      have c51 := HA.out.b5.cell 1
      have cT := HA.out.bT.cell 13
      have fT := HA.out.bT.frozen 13
      have hTl := HA.out.bT.lt
      have h5l := HA.out.b5.lt
      have hn1 : (2 : Int) < (n : Int) := by omega
      simp only [List.getElem?_toArray, List.getElem?_cons_succ, List.getElem?_cons_zero, tblCells] at c51 cT
      go_wp2_with fail
      go_meet
      exact ⟨_, _, HA.out.ref2 HC.out HSL.out HW0.out h5T 0 0⟩
  case rest =>
  obtain ⟨r2, f2, ha⟩ := hcut
  have HA := Lib.hid ha
  clear ha
  go_upto_region 11 with (fail)
  go_cut [66] (fun s wx => ∃ b : Bool, s = .bool b ∧ (b = true → 3 < n) ∧ ScB S K v l R2 T5 Tb n (ver : Int) q C0 C1 C2 C3 r1 r2 (.slice none 0 0) (.slice none 0 0) f1 f2 [] [] w wx)
  case first =>
    by_cases hn3 : 3 < n
    · have hnI3 : (3 : Int) < (n : Int) := by omega
      obtain ⟨a, hca⟩ := HA.out.g.1
      go_wp2_with fail
      refine (cbool_any K a 3 v l _ hca (by decide) (by decide)).mono ?_
      rintro e wz ⟨b, rfl, hgz⟩
      have HZ := Lib.hid (HA.out.goes hgz HKK.out hSK)
      clear hgz hca
      go_wp2
      go_meet
      exact ⟨b, rfl, (fun _ => hn3), HZ.out⟩
    · have hnI3 : ¬ (3 : Int) < (n : Int) := by omega
      go_wp2
      go_meet
      exact ⟨false, rfl, (fun h => by cases h), HA.out⟩
  case rest =>
  obtain ⟨b, rfl, hbn3, ha⟩ := hcut
  have HA := Lib.hid ha
  clear ha
  go_upto_if 66 with (fail)
  go_cut [] (fun wx => ∃ r3 f3, ScB S K v l R2 T5 Tb n (ver : Int) q C0 C1 C2 C3 r1 r2 r3 (.slice none 0 0) f1 f2 f3 [] w wx)
  case first =>
    cases b with
    | false =>
      go_wp2
      go_meet
      exact ⟨_, _, HA.out⟩
    | true =>
      have hnk := hbn3 rfl
      have c51 := HA.out.b5.cell 1
      have cT := HA.out.bT.cell 18
      have fT := HA.out.bT.frozen 18
      have hTl := HA.out.bT.lt
      have h5l := HA.out.b5.lt
      have hn1 : (3 : Int) < (n : Int) := by omega
      simp only [List.getElem?_toArray, List.getElem?_cons_succ, List.getElem?_cons_zero, tblCells] at c51 cT
      go_wp2_with fail
      go_meet
      exact ⟨_, _, HA.out.ref3 HC.out HSL.out HW0.out h5T 0 1⟩
  case rest =>
  obtain ⟨r3, f3, ha⟩ := hcut
  have HA := Lib.hid ha
  clear ha
  go_upto_region 13 with (fail)
  obtain ⟨a13, hca13⟩ := HA.out.g.1
  go_wp2_with fail
  refine (cbool_any K a13 3 v l _ hca13 (by decide) (by decide)).mono ?_
  rintro e wz ⟨b, rfl, hgz⟩
  have HA := Lib.hid (HA.out.goes hgz HKK.out hSK)
  clear hgz hca13
  go_upto_if 75 with (fail)
  go_cut [] (fun wx => ∃ k1 p1, ScB S K v l R2 T5 Tb n (ver : Int) q C0 C1 C2 C3 r1 r2 r3 k1 f1 f2 f3 p1 w wx)
  case first =>
    cases b with
    | false =>
      go_wp2
      go_meet
      exact ⟨_, _, HA.out⟩
    | true =>
      have hver : I64 (ver : Int) := ⟨by omega, by omega⟩
      have hlt : ∀ k, S3 S R2 T5 Tb k = true → k < wz.heap.size := S3_lt (fun k hk => Nat.lt_of_lt_of_le (HSL.out k hk) HA.out.g.2.size) HA.out.b2.lt HA.out.b5.lt HA.out.bT.lt
      have HLT := Lib.hid hlt
      have hsch := SchIn.sub0 (erase_S0 wz) (HA.out.sch (S' := S0) (fun k h => by simp [S0] at h) rfl hn4 hver)
      have hKk := kinds_any wz.heap.size _ (ver : Int) _ wz.drew (hsch.keep0 (Nat.le_refl _) ((Kept.refl _ _).drew)) (Nat.le_refl _) 1 (tbl1 q f1 []) (by rw [List.getElem?_take, if_pos (by omega)]; rfl)
      have hkr : ∀ x ∈ (tbl1 q f1 []).cols.map (·.2), 3 ≤ x ∧ x ≤ 5 := fun x hx => by
        simp only [tbl1, cols1, List.map_cons, List.map_nil, List.mem_cons, List.not_mem_nil, or_false] at hx
        omega
      have hkl : ((tbl1 q f1 []).cols.map (·.2)).length ≤ 1000 := by show 4 ≤ 1000; decide
      generalize (tbl1 q f1 []).cols.map (·.2) = ks at hKk hkr hkl
      have HKC := Lib.hid hKk
      have HKR := Lib.hid hkr
      have hn1 : (1 : Int) < (n : Int) := by omega
      clear hKk hkr hsch hlt
      go_upto_region 14 with (fail)
      refine wp_region_held_drew (S := fun w' => Blk w' T5 82 #[.int .i64 (ver : Int), .slice (some ⟨Tb, 0, none⟩) n 4]) (by kernel_rfl) HA.out.b5 (fun hHeld => ?_)
      refine wpAnyH_takeE (i := 0) (v := .pointer (some ⟨T5, 1, none⟩)) rfl rfl (by kernel_rfl) (by kernel_rfl) (by kernel_rfl) (fun _ _ _ h => h) (Or.inl ⟨by rfl, fun w1 hw => by go_simp⟩) (by assumption) ?_
      (try simp only [Act.put, List.setIfInBounds_toArray, List.set_cons_zero, List.set_cons_succ])
      refine wpAnyH_takeE (i := 1) (v := .slice (some ⟨Tb, 0, none⟩) n 4) rfl rfl (by kernel_rfl) (by kernel_rfl) (by kernel_rfl) (fun _ _ _ h => h) (Or.inl ⟨by rfl, fun w1 hw => by have c1 : w1.cell? ⟨T5, 1, none⟩ = some (.slice (some ⟨Tb, 0, none⟩) n 4) := hw.cell 1; clear hw; go_simp⟩) (by assumption) ?_
      (try simp only [Act.put, List.setIfInBounds_toArray, List.set_cons_zero, List.set_cons_succ])
      refine wpAnyH_takeE (i := 2) (v := .pointer (some ⟨K, 0, none⟩)) rfl rfl (by kernel_rfl) (by kernel_rfl) (by kernel_rfl) (fun _ _ _ h => h) (Or.inl ⟨by rfl, fun w1 hw => by go_simp⟩) (by assumption) ?_
      (try simp only [Act.put, List.setIfInBounds_toArray, List.set_cons_zero, List.set_cons_succ])
      refine wpAnyH_takeE (i := 3) (v := .agg ([.int .i64 (ver : Int), .slice (some ⟨Tb, 0, none⟩) n 4]).toArray) rfl rfl (by kernel_rfl) (by kernel_rfl) (by kernel_rfl) (fun _ _ _ h => h) (yieldsIf_load_atE (by rfl) 82 _ rfl (T5) (0) rfl ([.int .i64 (ver : Int), .slice (some ⟨Tb, 0, none⟩) n 4]) _ (fun w1 hw => CellsAt.blk hw) Tryz.underlying82 rfl (by kernel_rfl)) (by assumption) ?_
      (try simp only [Act.put, List.setIfInBounds_toArray, List.set_cons_zero, List.set_cons_succ])
      refine wpAnyH_ready (rs := [4]) (by kernel_rfl) (by simp) ?_
      refine AllReadyH.cons rfl (fun K' hK => ?_) (AllReadyH.nil)
      go_simp
      go_at_call 61
      refine (HKC.out).mono ?_
      rintro e w5 ⟨A5, c5, rfl, ho5, hk5⟩
      have hk5' : Kept Kno wz w5 := (Kept.refl _ _).drew.then0 hk5
      have HA5 := Lib.hid (HA.out.goes (Goes.of0 HA.out.g.1 hk5') HKK.out hSK)
      have HTR : Hid (TrPre (S3 S R2 T5 Tb) K v l (.slice A5 ks.length c5) (.slice none 0 0) ks [] w5.heap.size w5) := Lib.hid ⟨HA5.out.g.1, own_slin (S := S3 S R2 T5 Tb) ho5 (fun k hk => by
        cases hx : S3 S R2 T5 Tb k with
        | false => rfl
        | true => have h1 := HLT.out k hx; have h2 : wz.heap.size ≤ k := hk; omega), SlIn.nil, Nat.le_refl _, by rw [S3_old HKK.out.1 HKK.out.2.1 HKK.out.2.2]; exact hSK, fun k hk => Nat.lt_of_lt_of_le (HLT.out k hk) hk5'.size, HKR.out, hkl, by simp⟩
      clear ho5 hk5 hk5' HKC HA
      go_wp2_with fail
      refine hK.out _ _ ?_ (fun hHeld => ?_)
      · exact HA5.out.b5
      clear hK K'
      (try simp only [Act.put, List.setIfInBounds_toArray, List.set_cons_zero, List.set_cons_succ])
      refine wpAnyH_ready (rs := [5]) (by kernel_rfl) (by simp) ?_
      refine AllReadyH.cons rfl (fun K' hK => ?_) (AllReadyH.nil)
      go_simp
      go_at_call 60
      refine (cpredicate_any _ K v l _ _ ks [] w5.heap.size 1 (by decide) w5 HTR.out).mono ?_
      rintro e w6 ⟨p, sp, rfl, hp6, hg6⟩
      obtain ⟨A6, n6, c6, rfl⟩ := hp6.form
      have HA6 := Lib.hid (HA5.out.goes hg6 HKK.out hSK)
      have HX6 := Lib.hid (HA6.out.chk HC.out HSL.out HW0.out h5T hp6)
      obtain ⟨op, cmp, ⟨ok1, oi1, ⟨ova, ovb, ovs⟩⟩, ⟨zk, zi, ⟨za, zb, zs⟩⟩, args⟩ := p
      have cT : w6.cell? ⟨Tb, 9, none⟩ = some (.slice none 0 0) := HA6.out.bT.cell 9
      have fT := HA6.out.bT.frozen 9
      have hTl : Tb < w6.heap.size := HA6.out.bT.lt
      clear hp6 hg6 HTR HA5
      simp only [Prd.v]
      go_wp2_with fail
      refine hK.out _ _ ?_ (fun hHeld => ?_)
      · exact HA6.out.b5
      clear hK K'
      (try simp only [Act.put, List.setIfInBounds_toArray, List.set_cons_zero, List.set_cons_succ])
      refine wpAnyH_ready (rs := [6]) (by kernel_rfl) (by simp) ?_
      refine AllReadyH.cons rfl (fun K' hK => ?_) (AllReadyH.nil)
      go_simp
      refine hK.out _ _ ?_ (fun hHeld => ?_)
      · exact HA6.out.b5.alloc _
      clear hK K'
      (try simp only [Act.put, List.setIfInBounds_toArray, List.set_cons_zero, List.set_cons_succ])
      refine wpAnyH_takeE (i := 7) (v := .pointer (some ⟨Tb, 5, none⟩)) rfl rfl (by kernel_rfl) (by kernel_rfl) (by kernel_rfl) (fun _ _ _ h => h) (Or.inl ⟨by rfl, fun w1 hw => by go_simp⟩) (by assumption) ?_
      (try simp only [Act.put, List.setIfInBounds_toArray, List.set_cons_zero, List.set_cons_succ])
      refine wpAnyH_takeE (i := 8) (v := .pointer (some ⟨Tb, 9, none⟩)) rfl rfl (by kernel_rfl) (by kernel_rfl) (by kernel_rfl) (fun _ _ _ h => h) (Or.inl ⟨by rfl, fun w1 hw => by go_simp⟩) (by assumption) ?_
      (try simp only [Act.put, List.setIfInBounds_toArray, List.set_cons_zero, List.set_cons_succ])
      refine wpAnyH_ready (rs := [9]) (by kernel_rfl) (by simp) ?_
      refine AllReadyH.cons rfl (fun K' hK => ?_) (AllReadyH.nil)
      have cTa : (w6.alloc (.cells #[.int .i64 op, .int .i64 cmp, .int .i64 ok1, .int .i64 oi1, .int .i64 ova, .int .i64 ovb, .string ovs, .int .i64 zk, .int .i64 zi, .int .i64 za, .int .i64 zb, .string zs, .slice A6 n6 c6] 54)).cell? ⟨Tb, 9, none⟩ = some (.slice none 0 0) := (HA6.out.bT.alloc _).cell 9
      have fTa : (w6.alloc (.cells #[.int .i64 op, .int .i64 cmp, .int .i64 ok1, .int .i64 oi1, .int .i64 ova, .int .i64 ovb, .string ovs, .int .i64 zk, .int .i64 zi, .int .i64 za, .int .i64 zb, .string zs, .slice A6 n6 c6] 54)).frozen? ⟨Tb, 9, none⟩ = false := (HA6.out.bT.alloc _).frozen 9
      clear cT fT
      go_simp
      refine hK.out _ _ ?_ (fun hHeld => ?_)
      · exact HX6.out.b5
      clear hK K'
      refine wpAnyH_done (by kernel_rfl) ?_ _
      clear hHeld cTa fTa
      go_wp2_with fail
      go_meet
      exact ⟨_, _, HX6.out⟩
  case rest =>
  obtain ⟨k1, p1, ha⟩ := hcut
  have HA := Lib.hid ha
  clear ha
  have c50 : wc.cell? ⟨T5, 0, none⟩ = some (.int .i64 (ver : Int)) := HA.out.b5.cell 0
  have c51 : wc.cell? ⟨T5, 0 + 1, none⟩ = some (.slice (some ⟨Tb, 0, none⟩) n 4) := HA.out.b5.cell 1
  have hver : I64 (ver : Int) := ⟨by omega, by omega⟩
  have hlt : ∀ k, S k = true → k < w.heap.size := HSL.out
  have hTf : S Tb = false := by
    cases hx : S Tb with
    | false => rfl
    | true => have := hlt Tb hx; have := HW0.out; omega
  have hk2 : Kept (Kone R2) wc (wc.setRow R2 #[.int .i64 (ver : Int), .slice (some ⟨Tb, 0, none⟩) n 4]) := Kept.setRow (S := Kone R2) (Kept.refl _ _) (fun _ => Eq.refl R2) _
  have hsch := HA.out.sch (S' := more S R2) (fun k hk => by
    rcases (by simpa [more] using hk : S k = true ∨ k = R2) with e | e
    · exact more_le (more_le (more_le e))
    · subst e; exact S3_6) (by
      have : (Tb == R2) = false := by rw [beq_eq_false_iff_ne]; have := HW0.out; omega
      simp [more, hTf, this]) hn4 hver
  have hsch2 := SchIn.sub0 (sub_le (S := S) (S' := more S R2) (fun k h => more_le h) _) (hsch.old ((erase_kept (S := more S R2) (S' := more S R2) hk2 (fun k e => by unfold Kone at e; subst e; exact more_self _ _) (fun _ _ => rfl)).old (by rw [erase_size]; exact Nat.le_refl _) (fun _ _ h => h)) hk2.size)
  have hl : 2 ≤ ([tbl0, tbl1 q f1 p1, tbl2 f2, tbl3 q f3].take n).length := by rw [List.length_take]; simp; omega
  have HOUT := Lib.hid (show SchemaOk S K v l w (.returned (.agg #[.int .i64 (ver : Int), .slice (some ⟨Tb, 0, none⟩) n 4])) (wc.setRow R2 #[.int .i64 (ver : Int), .slice (some ⟨Tb, 0, none⟩) n 4]) from ⟨_, _, _, rfl, hsch2, hl, Goes.thenN HC.out HA.out.g hk2 (fun k e => by unfold Kone at e; have := HW0.out; omega)⟩)
  clear hsch hsch2 hl hk2 hTf hlt
  go_wp2_with (refine wpList_store_row rfl 82 (.tmp 2) (.tmp 85) rfl R2 #[.int .i64 (ver : Int), .slice (some ⟨Tb, 0, none⟩) n 4] rfl rfl 82 _ HA.out.b2 (by kernel_rfl) rfl (by simp [Value.oneCell']) ?_)
  simp only [Act.put]
  refine bodyPost_ret (v := .agg #[.int .i64 (ver : Int), .slice (some ⟨Tb, 0, none⟩) n 4]) ?_ rfl HOUT.out
  exact results_cell_row rfl _ _ R2 82 _ (0, 0) _ rfl (HA.out.b2.setRow _) Tryz.underlying82 rfl (by kernel_rfl)

end Go.Proofs.YtffdaohmalmkfaaGreat
