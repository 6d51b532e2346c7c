/-
  Contracts and plain laws that the claim's theorem rests on, some texts in one file.
-/
import Derived.Test.YtffdaohmalmkfaaGreatM38
import Derived.Great.BuildSlice
/-
  PacketBounds: the queries of the law as trees, how they lie in memory, and how long their bytes are. No program in sight.
-/
namespace Go.Proofs.YtffdaohmalmkfaaGreat
open Go.RowKit
set_option linter.unusedVariables false

def val0 : Val := ⟨0, 0, ⟨#[]⟩⟩
def opd0 : Opnd := ⟨0, 0, val0⟩
def prd0 (op : Int) : Prd := .mk op 0 opd0 opd0 []
def qry0 : Qry := .mk 1 0 (prd0 0) [] [] [] [] 0 []
def dq : Nat → Qry
  | 0 => qry0
  | k + 1 => .mk 2 0 (prd0 1) [] [] [] [] 0 [dq k]
def dop : Nat → Int
  | 0 => 1
  | _ + 1 => 2
def dwp : Nat → Int
  | 0 => 0
  | _ + 1 => 1
def dargs : Nat → List Qry
  | 0 => []
  | k + 1 => [dq k]
/-- The law's query: k levels below the root, n scans behind them, and the lists. -/
def wq (k n : Nat) (cols grp : List Int) (ord : List (Int × Bool)) : Qry := .mk (dop k) 0 (prd0 (dwp k)) cols [] grp ord 0 (dargs k ++ List.replicate n qry0)
theorem wq_zero (k : Nat) : wq k 0 [] [] [] = dq k := by cases k <;> rfl

theorem inum_le (n : Int) : (inum n).length ≤ 11 := (inum_length n).2
theorem flatMap_le {α : Type} (f : α → List UInt8) (c : Nat) : ∀ (l : List α), (∀ x ∈ l, (f x).length ≤ c) → (l.flatMap f).length ≤ c * l.length
  | [], _ => by simp
  | x :: l, h => by
    have h1 := h x (by simp)
    have h2 := flatMap_le f c l (fun y hy => h y (by simp [hy]))
    rw [List.flatMap_cons, List.length_append, List.length_cons, Nat.mul_succ]
    omega
theorem leb_le (n : Nat) : (leb n).length ≤ 11 := (leb_length n).2
theorem inums_le (l : List Int) : (inums l).length ≤ 11 + 11 * l.length := by
  unfold inums
  have h1 := leb_le l.length
  have h2 := flatMap_le inum 11 l (fun x _ => inum_le x)
  rw [List.length_append]
  omega
theorem encP0_le (op : Int) : (encP (prd0 op)).length ≤ 80 := by
  have h1 := inum_le op
  have h2 := inum_le 0
  have h3 : (ival val0).length = 1 := by kernel_rfl
  have h4 := leb_le 0
  simp only [prd0, encP, encO, opd0, encPs, List.length_append, List.length_nil, h3]
  omega
theorem encQ_le (op table : Int) (wp : Int) (cols grp : List Int) (ord : List (Int × Bool)) (lim : Int) (args : List Qry) :
    (encQ (.mk op table (prd0 wp) cols [] grp ord lim args)).length ≤ 200 + 11 * cols.length + 11 * grp.length + 12 * ord.length + (encQs args).length := by
  have a1 := inum_le op
  have a2 := inum_le table
  have a3 := encP0_le wp
  have a4 := inums_le cols
  have a5 := leb_le 0
  have a6 := inums_le grp
  have a7 := leb_le ord.length
  have a8 := flatMap_le (fun p : Int × Bool => inum p.1 ++ ibool p.2) 12 ord (fun x _ => by
    have := inum_le x.1
    have h : (ibool x.2).length = 1 := by cases x.2 <;> rfl
    rw [List.length_append, h]; omega)
  have a9 := inum_le lim
  have a10 := leb_le args.length
  simp only [encQ, List.length_append, List.length_nil, List.flatMap_nil]
  omega
theorem encQ0_le : (encQ qry0).length ≤ 200 := by
  have := encQ_le 1 0 0 [] [] [] 0 []
  simpa [encQs, qry0] using this
theorem encDq_le : ∀ k, (encQ (dq k)).length ≤ 200 * (k + 1)
  | 0 => by simpa [dq] using encQ0_le
  | k + 1 => by
    have h1 := encQ_le 2 0 1 [] [] [] 0 [dq k]
    have h2 := encDq_le k
    simp only [encQs, List.length_nil, List.append_nil] at h1
    simp only [dq]
    omega
theorem encQs_rep (n : Nat) : (encQs (List.replicate n qry0)).length ≤ 200 * n := by
  induction n with
  | zero => simp [encQs]
  | succ n ih =>
    have := encQ0_le
    simp only [List.replicate_succ, encQs, List.length_append]
    omega
theorem encWq_le (k n : Nat) (cols grp : List Int) (ord : List (Int × Bool)) (hk : k ≤ 12) (hn : n ≤ 30) (hc : cols.length ≤ 20) (hg : grp.length ≤ 20) (ho : ord.length ≤ 100) : (encQ (wq k n cols grp ord)).length ≤ 20000 := by
  have h1 := encQ_le (dop k) 0 (dwp k) cols grp ord 0 (dargs k ++ List.replicate n qry0)
  have h2 := encQs_rep n
  have h3 : (encQs (dargs k)).length ≤ 2600 := by
    cases k with
    | zero => simp [dargs, encQs]
    | succ k =>
      have := encDq_le k
      simp only [dargs, encQs, List.append_nil]
      omega
  rw [encQs_append, List.length_append] at h1
  unfold wq
  omega

/-! Memory. -/
def zw : Value := .slice none 0 0
def qs (a : Value) : QS := ⟨zw, zw, zw, zw, zw, a⟩
/-- The query dq k lies at s, in blocks from lo on below B. -/
def DeepAt (w : World) (lo : Nat) : Nat → Nat → Value → Prop
  | B, 0, a => a = zw
  | B, k + 1, a => ∃ (g : Nat) (a' : Value), a = .slice (some ⟨g, 0, none⟩) 1 1 ∧ lo ≤ g ∧ g < B ∧ Blk w g 59 ((dq k).cells (qs a')).toArray ∧ DeepAt w lo g k a'
def Mid (lo B : Nat) (w w' : World) : Prop := ∀ j, lo ≤ j → j < B → w'.heap[j]? = w.heap[j]?
theorem DeepAt.old {w w' : World} {lo : Nat} : ∀ {k B B' : Nat} {a : Value}, DeepAt w lo B k a → Mid lo B w w' → B ≤ B' → DeepAt w' lo B' k a
  | 0, B, B', a, h, ho, hB => h
  | k + 1, B, B', a, h, ho, hB => by
    obtain ⟨g, a', h1, h0, h2, h3, h4⟩ := h
    exact ⟨g, a', h1, h0, by omega, (ho g h0 h2).trans h3, h4.old (fun j h5 h6 => ho j h5 (by omega)) (Nat.le_refl _)⟩
theorem zw_in (w : World) (B size : Nat) : SlIn w B size zw 0 [] := ⟨none, 0, rfl, Nat.le_refl _, Nat.zero_le _, by simp, fun _ => rfl, fun k h => by simp [zw, Value.ownBlock] at h, fun h => absurd h (Nat.lt_irrefl 0)⟩
theorem i64_small {n : Int} (h1 : -1000 ≤ n) (h2 : n ≤ 1000) : I64 n := ⟨by omega, by omega⟩
theorem okOpd0 : okOpnd opd0 := ⟨i64_small (by decide) (by decide), i64_small (by decide) (by decide), i64_small (by decide) (by decide), ⟨by show (-9223372036854775808 : Int) ≤ 0; decide, by show (0 : Int) ≤ 9223372036854775807; decide, by show (0 : Nat) ≤ maxLen; decide⟩⟩
theorem prd0_in (w : World) (B : Nat) (op : Int) (h1 : -1000 ≤ op) (h2 : op ≤ 1000) : PIn w B (prd0 op) zw := by
  simp only [prd0, PIn]
  exact ⟨i64_small h1 h2, i64_small (by decide) (by decide), okOpd0, okOpd0, none, 0, rfl, Nat.le_refl _, Nat.zero_le _, fun _ => rfl, fun k h => by simp [zw, Value.ownBlock] at h, fun h => absurd h (Nat.lt_irrefl 0)⟩
theorem dop_le (k : Nat) : -1000 ≤ dop k ∧ dop k ≤ 1000 := by cases k <;> simp [dop]
theorem dwp_le (k : Nat) : -1000 ≤ dwp k ∧ dwp k ≤ 1000 := by cases k <;> simp [dwp]
theorem DeepAt.qin {w : World} {lo : Nat} : ∀ {k B : Nat} {a : Value}, DeepAt w lo B k a → QIn w B (dq k) (qs a)
  | 0, B, a, h => by
    obtain rfl : a = zw := h
    simp only [dq, qry0, QIn, qs]
    exact ⟨i64_small (by decide) (by decide), i64_small (by decide) (by decide), i64_small (by decide) (by decide), prd0_in w B 0 (by decide) (by decide), zw_in _ _ _, by simp, zw_in _ _ _, by simp, zw_in _ _ _, by simp, zw_in _ _ _, by simp, none, 0, rfl, Nat.le_refl _, Nat.zero_le _, fun _ => rfl, fun k h => by simp [zw, Value.ownBlock] at h, fun h => absurd h (Nat.lt_irrefl 0)⟩
  | k + 1, B, a, h => by
    obtain ⟨g, a', rfl, h0, h2, h3, h4⟩ := h
    simp only [dq, QIn, qs]
    refine ⟨i64_small (by decide) (by decide), i64_small (by decide) (by decide), i64_small (by decide) (by decide), prd0_in w B 1 (by decide) (by decide), zw_in _ _ _, by simp, zw_in _ _ _, by simp, zw_in _ _ _, by simp, zw_in _ _ _, by simp, some ⟨g, 0, none⟩, 1, rfl, Nat.le_refl _, by decide, fun h => (by cases h), fun k h => ?_, fun _ => ⟨g, 0, rfl, h2, ?_⟩⟩
    · simp [Value.ownBlock] at h; omega
    · simp only [QsAt]
      exact ⟨⟨qs a', QIn.old (fun _ _ => rfl) (Nat.le_of_lt h2) _ _ h4.qin, CellsAt.blk h3⟩, trivial⟩

/-- The cells of the law's query. -/
def wqC (k : Nat) (c g o a : Value) : List Value := [.int .i64 (dop k), .int .i64 0, .int .i64 (dwp k), .int .i64 0, .int .i64 0, .int .i64 0, .int .i64 0, .int .i64 0, .string ⟨#[]⟩, .int .i64 0, .int .i64 0, .int .i64 0, .int .i64 0, .string ⟨#[]⟩, zw, c, zw, g, o, .int .i64 0, a]
theorem wq_cells (k n : Nat) (cols grp : List Int) (ord : List (Int × Bool)) (c g o a : Value) : (wq k n cols grp ord).cells ⟨zw, c, zw, g, o, a⟩ = wqC k c g o a := rfl
theorem dq_cells (k : Nat) (a : Value) : (dq k).cells (qs a) = wqC k zw zw zw a := by cases k <;> rfl
theorem wq_v (k n : Nat) (cols grp : List Int) (ord : List (Int × Bool)) (c g o a : Value) : (wq k n cols grp ord).v ⟨zw, c, zw, g, o, a⟩ = .agg (wqC k c g o a).toArray := rfl
theorem dq_v (k : Nat) (a : Value) : (dq k).v (qs a) = .agg (wqC k zw zw zw a).toArray := by cases k <;> rfl

/-- The arguments' cells: that of the level below, then n scans. -/
def argC (k : Nat) (a' : Value) (n : Nat) : List Value := (match k with | 0 => [] | k + 1 => wqC k zw zw zw a') ++ (List.replicate n (wqC 0 zw zw zw zw)).flatten
theorem argC_snoc (k : Nat) (a' : Value) (n : Nat) : argC k a' (n + 1) = argC k a' n ++ wqC 0 zw zw zw zw := by
  unfold argC
  rw [List.replicate_succ', List.flatten_append, List.append_assoc]
  simp
/-- What the level below k is, under B. -/
def BelowAt (w : World) (lo B : Nat) : Nat → Value → Prop
  | 0, _ => True
  | k + 1, a' => DeepAt w lo B k a'
theorem BelowAt.old {w w' : World} {lo k B B' : Nat} {a : Value} (h : BelowAt w lo B k a) (ho : Mid lo B w w') (hB : B ≤ B') : BelowAt w' lo B' k a := by
  cases k with
  | zero => trivial
  | succ k => exact DeepAt.old h ho hB
theorem scans_at {w : World} {B g : Nat} : ∀ (n o : Nat), CellsAt w g o (List.replicate n (wqC 0 zw zw zw zw)).flatten → QsAt w B (List.replicate n qry0) g o
  | 0, o, _ => by simp only [List.replicate_zero, QsAt]
  | n + 1, o, h => by
    simp only [List.replicate_succ, QsAt]
    refine ⟨⟨qs zw, DeepAt.qin (lo := 0) (k := 0) rfl, fun j u hj => h j u ?_⟩, scans_at n (o + 21) ?_⟩
    · rw [List.replicate_succ, List.flatten_cons, List.getElem?_append_left (by obtain ⟨h1, -⟩ := List.getElem?_eq_some_iff.1 hj; exact h1)]
      exact hj
    · have := CellsAt.drop 21 h
      rw [List.replicate_succ, List.flatten_cons] at this
      simpa [wqC] using this
theorem args_at {w : World} {B B0 lo g n : Nat} {k : Nat} {a' : Value} (h : CellsAt w g 0 (argC k a' n)) (hb : BelowAt w lo B0 k a') (hB : B0 ≤ B) : QsAt w B (dargs k ++ List.replicate n qry0) g 0 := by
  cases k with
  | zero => exact scans_at n 0 (by simpa [argC] using h)
  | succ k =>
    simp only [dargs, List.cons_append, List.nil_append, QsAt]
    refine ⟨⟨qs a', QIn.old (fun _ _ => rfl) hB _ _ (DeepAt.qin hb), fun j u hj => h j u ?_⟩, scans_at n (0 + 21) ?_⟩
    · rw [dq_cells] at hj
      simp only [argC]
      rw [List.getElem?_append_left (by obtain ⟨h1, -⟩ := List.getElem?_eq_some_iff.1 hj; exact h1)]
      exact hj
    · have := CellsAt.drop 21 h
      simpa [argC, wqC] using this
def nargs (k n : Nat) : Nat := (dargs k).length + n
theorem nargs_len (k n : Nat) : (dargs k ++ List.replicate n qry0).length = nargs k n := by simp [nargs]
/-- The law's query out of its memory. -/
theorem wq_in {w : World} {B B0 lo n k cap : Nat} {A : Option Addr} {a' c g o : Value} {cols grp : List Int} {ord : List (Int × Bool)} (hc : SlIn w B 1 c cols.length (cols.map iv)) (hcz : ∀ x ∈ cols, I64 x) (hg : SlIn w B 1 g grp.length (grp.map iv)) (hgz : ∀ x ∈ grp, I64 x) (ho : SlIn w B 2 o ord.length (ordC ord)) (hoz : ∀ x ∈ ord, I64 x.1)
    (hr : w.ownsRow B0 59 21 (.slice A (nargs k n) cap) (nargs k n) (argC k a' n)) (hb : BelowAt w lo B0 k a') (hB : B0 ≤ B) (hlt : ∀ q, (Value.slice A (nargs k n) cap).ownBlock = some q → q < B) : QIn w B (wq k n cols grp ord) ⟨zw, c, zw, g, o, .slice A (nargs k n) cap⟩ := by
  obtain ⟨d1, d2⟩ := dop_le k
  obtain ⟨e1, e2⟩ := dwp_le k
  simp only [wq, QIn]
  rw [nargs_len]
  obtain ⟨-, h2⟩ := hr
  have hf : (A = none ∧ cap = 0 ∧ nargs k n = 0) ∨ (∃ g, A = some ⟨g, 0, none⟩ ∧ nargs k n ≤ cap ∧ cap ≤ maxLen ∧ CellsAt w g 0 (argC k a' n)) := by
    rcases h2 with ⟨he, h0'⟩ | ⟨g, cap', cur, he, hbg, hblk, hle, hmax, hsz, htake⟩
    · simp only [Value.slice.injEq] at he
      exact .inl ⟨he.1, he.2.2, h0'⟩
    · simp only [Value.slice.injEq] at he
      obtain ⟨rfl, -, rfl⟩ := he
      refine .inr ⟨g, rfl, hle, hmax, fun j u hj => ?_⟩
      rw [← htake, List.getElem?_take] at hj
      split at hj
      · rw [Nat.zero_add]
        exact (Blk.cell hblk j).trans (by simpa using hj)
      · cases hj
  refine ⟨i64_small d1 d2, i64_small (by decide) (by decide), i64_small (by decide) (by decide), prd0_in w B _ e1 e2, hc, hcz, zw_in _ _ _, by simp, hg, hgz, ho, hoz, A, cap, rfl, ?_, ?_, ?_, hlt, fun h0 => ?_⟩
  · rcases hf with ⟨-, -, h⟩ | ⟨-, -, h, -⟩ <;> omega
  · rcases hf with ⟨-, h, -⟩ | ⟨-, -, -, h, -⟩
    · rw [h]; exact Nat.zero_le _
    · exact h
  · intro h
    rcases hf with ⟨-, h2, -⟩ | ⟨g, h2, -⟩
    · exact h2
    · rw [h2] at h; cases h
  · rcases hf with ⟨-, -, h⟩ | ⟨g, rfl, -, -, h⟩
    · omega
    · exact ⟨g, 0, rfl, hlt g rfl, args_at h hb hB⟩

/-- One subscription of a query. -/
theorem subs_one {w : World} {B g : Nat} {q : Qry} {s : QS} (hq : QIn w B q s) (hg : g < B) (hb : CellsAt w g 0 (subC ⟨1, 0, q⟩ s)) : SubsIn w B (.slice (some ⟨g, 0, none⟩) 1 1) [⟨1, 0, q⟩] := by
  refine ⟨some ⟨g, 0, none⟩, 1, rfl, Nat.le_refl _, by decide, fun k h => ?_, fun _ => ⟨g, 0, rfl, hg, fun i x hx => ?_⟩⟩
  · simp [Value.ownBlock] at h; omega
  · match i, hx with
    | 0, hx =>
      simp only [List.getElem?_cons_zero, Option.some.injEq] at hx
      subst hx
      exact ⟨⟨by show (-9223372036854775808 : Int) ≤ 1; decide, by show (1 : Int) ≤ 9223372036854775807; decide⟩, ⟨by show (-9223372036854775808 : Int) ≤ 0; decide, by show (0 : Int) ≤ 9223372036854775807; decide⟩, s, hq, by simpa using hb⟩
    | i + 1, hx => simp at hx
theorem encSubs_one (q : Qry) (h : (encQ q).length ≤ 20000) : (encSubs [⟨1, 0, q⟩]).length ≤ 30000 := by
  have h1 := leb_le 1
  have h2 := inum_le 1
  have h3 := inum_le 0
  simp only [encSubs, encSub, List.flatMap_cons, List.flatMap_nil, List.length_append, List.length_nil, List.length_singleton]
  omega

end Go.Proofs.YtffdaohmalmkfaaGreat
/-
  PacketBounds: deep.
-/
namespace Go.Proofs.YtffdaohmalmkfaaGreat
open Go.RowKit
set_option linter.unusedVariables false

def zqC : List Value := [.int .i64 0, .int .i64 0, .int .i64 0, .int .i64 0, .int .i64 0, .int .i64 0, .int .i64 0, .int .i64 0, .string ⟨#[]⟩, .int .i64 0, .int .i64 0, .int .i64 0, .int .i64 0, .string ⟨#[]⟩, .slice none 0 0, .slice none 0 0, .slice none 0 0, .slice none 0 0, .slice none 0 0, .int .i64 0, .slice none 0 0]

theorem wqC_one {k : Nat} {A1 A2 A3 A4 : Option Addr} {n1 n2 n3 n4 c1 c2 c3 c4 : Nat} : (wqC k (.slice A1 n1 c1) (.slice A2 n2 c2) (.slice A3 n3 c3) (.slice A4 n4 c4)).toArray.all (·.oneCell') = true := by
  simp [wqC, zw, Value.oneCell']

def DeepRel (n R V : Nat) (w : World) (i : Value) (wr : World) : Prop :=
  ∃ (k : Nat) (a : Value), k + 1 ≤ n ∧ i = .int .i64 ((k : Int) + 1) ∧ Blk wr V 59 (wqC k zw zw zw a).toArray ∧ DeepAt wr (V + 1) wr.heap.size k a ∧ (∃ cs : Array Value, cs.size = 21 ∧ Blk wr R 59 cs) ∧ Kept Kno w wr
theorem DeepAt.form {w : World} {lo B k : Nat} {a : Value} (h : DeepAt w lo B k a) : ∃ A n c, a = .slice A n c := by
  cases k with
  | zero => exact ⟨none, 0, 0, h⟩
  | succ k => obtain ⟨g, a', h1, -⟩ := h; exact ⟨_, _, _, h1⟩
theorem DeepAt.less {w : World} {lo lo' : Nat} (hl : lo' ≤ lo) : ∀ {k B : Nat} {a : Value}, DeepAt w lo B k a → DeepAt w lo' B k a
  | 0, B, a, h => h
  | k + 1, B, a, h => by
    obtain ⟨g, a', h1, h0, h2, h3, h4⟩ := h
    exact ⟨g, a', h1, by omega, h2, h3, h4.less hl⟩

theorem deep_next {wr : World} {V k : Nat} {a : Value} (C : Array Value) (hV : V < wr.heap.size) (hd : DeepAt wr (V + 1) wr.heap.size k a) :
    DeepAt ((wr.alloc (.cells (wqC k zw zw zw a).toArray 59)).setRow V C) (V + 1) ((wr.alloc (.cells (wqC k zw zw zw a).toArray 59)).setRow V C).heap.size (k + 1) (.slice (some ⟨wr.heap.size, 0, none⟩) 1 1) := by
  refine ⟨wr.heap.size, a, rfl, hV, by rw [size_setRow, size_alloc']; omega, ?_, hd.old (fun j h1 h2 => ?_) (Nat.le_refl _)⟩
  · rw [dq_cells]
    exact (setRow_other _ _ _ _ (by omega)).trans (Blk.new _ _ _)
  · exact (setRow_other _ _ _ _ (by omega)).trans (Below.heap_alloc wr _ j h2)

set_option maxRecDepth 100000 in
set_option maxHeartbeats 4000000 in
theorem deep_any (n : Nat) (w : World) (hn : 1 ≤ n) (hN : n ≤ 20) :
    Calls Tryz.prog 14 #[.int .i64 n] w (fun e w' => ∃ a, e = .returned ((dq (n - 1)).v (qs a)) ∧ DeepAt w' w.heap.size w'.heap.size (n - 1) a ∧ Kept Kno w w') := by
  have hn1 : (1 : Int) ≤ (n : Int) := by omega
  have hn2 : (n : Int) ≤ 20 := by omega
  go_enter Tryz.func14, Tryz.ntmps14
  go_upto_region 1 with (fail)
  obtain ⟨w1, h1⟩ : ∃ w1, w.alloc (.cells zqC.toArray 59) = w1 := ⟨_, rfl⟩
  have hs1 : w1.heap.size = w.heap.size + 1 := by rw [← h1]; exact size_alloc' _ _
  have hb1 : Blk w1 w.heap.size 59 zqC.toArray := by rw [← h1]; exact Blk.new _ _ _
  have hk1 : Kept Kno w w1 := by rw [← h1]; exact (Kept.refl _ _).alloc _
  have HS1 := Lib.hid hs1
  have HB1 := Lib.hid hb1
  have HK1 := Lib.hid hk1
  have H1 : w.alloc (.cells #[.int .i64 0, .int .i64 0, .int .i64 0, .int .i64 0, .int .i64 0, .int .i64 0, .int .i64 0, .int .i64 0, .string ⟨#[]⟩, .int .i64 0, .int .i64 0, .int .i64 0, .int .i64 0, .string ⟨#[]⟩, .slice none 0 0, .slice none 0 0, .slice none 0 0, .slice none 0 0, .slice none 0 0, .int .i64 0, .slice none 0 0] 59) = w1 := h1
  rw [H1]
  clear H1 h1 hs1 hb1 hk1
  go_upto_region 2 with (refine wpList_store_new rfl 59 (.tmp 3) (.tmp 5) rfl _ (wqC 0 zw zw zw zw).toArray rfl rfl (by kernel_rfl) rfl (by kernel_rfl) ?_)
  obtain ⟨w2, h2⟩ : ∃ w2, w1.alloc (.cells (wqC 0 zw zw zw zw).toArray 59) = w2 := ⟨_, rfl⟩
  have hb2 : Blk w2 w1.heap.size 59 (wqC 0 zw zw zw zw).toArray := by rw [← h2]; exact Blk.new _ _ _
  have hr2 : Blk w2 w.heap.size 59 zqC.toArray := by rw [← h2]; exact HB1.out.alloc _
  have hk2 : Kept Kno w w2 := by rw [← h2]; exact HK1.out.alloc _
  have HB2 := Lib.hid hb2
  have HR2 := Lib.hid hr2
  have HK2 := Lib.hid hk2
  rw [h2]
  simp only [Act.put]
  clear h2 hb2 hr2 hk2 HB1 HK1
  go_wp2_with fail
  go_loopw [4] (fun i wr => DeepRel n w.heap.size w1.heap.size w i wr) (fun i _ => n - (intOf i).toNat)
  case atStart => exact ⟨0, zw, hn, rfl, HB2.out, rfl, ⟨_, rfl, HR2.out⟩, HK2.out⟩
  case round =>
    obtain ⟨k, a, hk, rfl, hv, hd, ⟨cs, hcs, hr⟩, hkk⟩ := hrel
    obtain ⟨A, an, ac, rfl⟩ := hd.form
    have HV : Hid (Blk wr w1.heap.size 59 #[.int .i64 (dop k), .int .i64 0, .int .i64 (dwp k), .int .i64 0, .int .i64 0, .int .i64 0, .int .i64 0, .int .i64 0, .string ⟨#[]⟩, .int .i64 0, .int .i64 0, .int .i64 0, .int .i64 0, .string ⟨#[]⟩, .slice none 0 0, .slice none 0 0, .slice none 0 0, .slice none 0 0, .slice none 0 0, .int .i64 0, .slice A an ac]) := Lib.hid hv
    have HD := Lib.hid hd
    have HR := Lib.hid hr
    have HCS := Lib.hid hcs
    have HKK := Lib.hid hkk
    have hVlt := hv.lt
    clear hv hd hr hcs hkk
    have hk0 : (0 : Int) ≤ (k : Int) := by omega
    by_cases hlt : k + 1 < n
    · have hltI : (k : Int) + 1 < (n : Int) := by omega
      go_wp2_with (first
        | (refine wpList_load_row rfl 59 (.tmp 3) rfl w1.heap.size rfl 59 _ (0, 0) _ HV.out Tryz.underlying59 rfl (by kernel_rfl) ?_)
        | (refine wpList_store_row rfl 59 (.tmp 3) (.tmp 14) rfl w1.heap.size (wqC (k + 1) zw zw zw (.slice (some ⟨wr.heap.size, 0, none⟩) 1 1)).toArray rfl rfl 59 _ (HV.out.alloc _) (by kernel_rfl) rfl wqC_one ?_))
      have HDN := Lib.hid (deep_next (wqC (k + 1) zw zw zw (.slice (some ⟨wr.heap.size, 0, none⟩) 1 1)).toArray hVlt HD.out)
      have hRV : w.heap.size ≠ w1.heap.size := by have := HS1.out; omega
      refine ⟨⟨k + 1, _, hlt, by go_num, (HV.out.alloc _).setRow _, HDN.out, ⟨cs, HCS.out, (setRow_other _ _ _ _ hRV).trans (HR.out.alloc _)⟩, (HKK.out.alloc _).setRow (fun h => by have := HS1.out; omega) _⟩, ?_⟩
      simp [intOf]
      omega
    · have hltI : ¬ (k : Int) + 1 < (n : Int) := by omega
      obtain rfl : n = k + 1 := by omega
      go_wp2_with (first
        | (refine wpList_load_row rfl 59 (.tmp 3) rfl w1.heap.size rfl 59 _ (0, 0) _ HV.out Tryz.underlying59 rfl (by kernel_rfl) ?_)
        | (refine wpList_store_row rfl 59 (.tmp 2) (.tmp 15) rfl w.heap.size (wqC k zw zw zw (.slice A an ac)).toArray rfl rfl 59 _ HR.out (by kernel_rfl) HCS.out wqC_one ?_))
      obtain ⟨wn, hwn⟩ : ∃ wn, wr.setRow w.heap.size (wqC k zw zw zw (.slice A an ac)).toArray = wn := ⟨_, rfl⟩
      rw [hwn]
      have hbn : Blk wn w.heap.size 59 (wqC k zw zw zw (.slice A an ac)).toArray := by rw [← hwn]; exact HR.out.setRow _
      have hlv := run_loadVar_row (P := Tryz.prog) wn w.heap.size 59 59 (wqC k zw zw zw (.slice A an ac)).toArray (0, 0) _ hbn Tryz.underlying59 rfl (by kernel_rfl)
      have hdn : DeepAt wn w.heap.size wn.heap.size k (.slice A an ac) := by
        have hs : wn.heap.size = wr.heap.size := by rw [← hwn, size_setRow]
        rw [hs]
        exact (HD.out.old (fun j h1 h2 => by rw [← hwn]; exact setRow_other _ _ _ _ (by have := HS1.out; omega)) (Nat.le_refl _)).less (by have := HS1.out; omega)
      have hkn : Kept Kno w wn := by rw [← hwn]; exact HKK.out.setRow (fun h => absurd h (Nat.lt_irrefl _)) _
      refine bodyPost_ret (v := .agg (wqC k zw zw zw (.slice A an ac)).toArray) (by simp [results, Tryz.results14, asAddr, hlv, Sem.run_bind, Sem.run_pure, Result.andThen]) rfl ?_
      exact ⟨.slice A an ac, by rw [dq_v], hdn, hkn⟩

end Go.Proofs.YtffdaohmalmkfaaGreat
