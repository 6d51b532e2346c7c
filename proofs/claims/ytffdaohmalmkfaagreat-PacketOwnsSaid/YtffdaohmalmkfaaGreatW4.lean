/-
  Contracts and plain laws that the claim's theorem rests on.
-/
import Derived.Test.YtffdaohmalmkfaaGreatW3
import Derived.Deep.RegionHeld3
set_option linter.unusedSimpArgs false
set_option linter.unusedVariables false
/-
  Codec: AppendRow.
-/
namespace Go.Proofs.YtffdaohmalmkfaaGreat
open Go.RowKit
set_option linter.unusedVariables false

def okVal (x : Val) : Prop := -9223372036854775808 ≤ x.n ∧ x.n ≤ 9223372036854775807 ∧ x.s.size ≤ maxLen
/-- The slice value v reads as the row xs. -/
def RowIn (w : World) (v : Value) (xs : List Val) : Prop :=
  ∃ A cap, v = .slice A xs.length cap ∧ xs.length ≤ cap ∧ cap ≤ maxLen ∧ (0 < xs.length → ∃ g o, A = some ⟨g, o, none⟩ ∧ ∀ (i : Nat) (x : Val), xs[i]? = some x →
    w.cell? ⟨g, o + i * 3, none⟩ = some (.int .i64 x.kind) ∧ w.cell? ⟨g, o + i * 3 + 1, none⟩ = some (.int .i64 x.n) ∧ w.cell? ⟨g, o + i * 3 + 1 + 1, none⟩ = some (.string x.s)) ∧ ∀ x ∈ xs, okVal x
theorem RowIn.kept0 {w w' : World} {v : Value} {xs : List Val} (h : RowIn w v xs) (hk : Kept Kno w w') : RowIn w' v xs := by
  obtain ⟨A, cap, h1, h2, h3, h4, h5⟩ := h
  refine ⟨A, cap, h1, h2, h3, fun h0 => ?_, h5⟩
  obtain ⟨g, o, hA, hc⟩ := h4 h0
  exact ⟨g, o, hA, fun i x hx => ⟨hk.cell_some (hc i x hx).1 (fun h => h), hk.cell_some (hc i x hx).2.1 (fun h => h), hk.cell_some (hc i x hx).2.2 (fun h => h)⟩⟩

def RetE (p : List UInt8 × Int) (w : World) (e : Ending) (w' : World) : Prop :=
  ∃ A cap, e = .returned (.tuple #[.slice A p.1.length cap, .int .i64 p.2]) ∧ OwnB w' w.heap.size 5 (.slice A p.1.length cap) p.1 ∧ Kept Kno w w'

theorem valid_size (x : Val) (h : validB x.kind x.n x.s = true) : x.s.size ≤ 64 := by
  have he : x.s.toList.isEmpty = true → x.s.size = 0 := by
    intro h
    rw [List.isEmpty_iff, Lib.toList_data] at h
    have h2 := congrArg List.length h
    rw [Array.length_toList] at h2
    exact h2
  unfold validB at h
  split at h
  · simp at h; have := he (by simpa using h.2); omega
  · split at h
    · simp at h; have := he (by simpa using h.2); omega
    · split at h
      · simp at h; have := he (by simpa using h.2); omega
      · split at h
        · have := he h; omega
        · split at h
          · simp at h; exact h.2
          · cases h

theorem venc_length (x : Val) (h : validB x.kind x.n x.s = true) : (venc x).length ≤ 80 := by
  have h1 := valid_size x h
  have h2 := (leb_length (zz x.n)).2
  have h3 := (leb_length x.s.size).2
  have h4 := sbytes_length x.s
  unfold venc
  split
  · simp
  · split
    · simp; omega
    · split
      · simp; omega
      · simp

end Go.Proofs.YtffdaohmalmkfaaGreat
/-
  Codec: begun.
-/
namespace Go.Proofs.YtffdaohmalmkfaaGreat
open Go.RowKit
set_option linter.unusedVariables false

theorem bs_lit (w : World) (l : List UInt8) (fr : Nat × Nat) (t : TypeId) : Bs (w.alloc (.cells (l.map bv).toArray t fr)) (.slice (some ⟨w.heap.size, 0, none⟩) l.length l.length) l := by
  refine ⟨_, _, rfl, by simp, by simp, (fun h => by cases h), fun ad hA j u hj => ?_⟩
  cases hA
  rw [add_lit0, Nat.zero_add, cell_of_row _ w.heap.size j (l.map bv).toArray t fr (heap_alloc_new w _)]
  simpa using hj
theorem bs_nil (w : World) : Bs w (.slice none 0 0) [] := ⟨none, 0, rfl, Nat.le_refl _, rfl, fun _ => ⟨rfl, rfl⟩, fun ad h => by cases h⟩

end Go.Proofs.YtffdaohmalmkfaaGreat
/-
  Codec: AppendValue.
-/
namespace Go.Proofs.YtffdaohmalmkfaaGreat
open Go.RowKit
set_option linter.unusedVariables false

/-- What AppendValue returns. -/
def valRes (l : List UInt8) (x : Val) : List UInt8 × Int :=
  if validB x.kind x.n x.s then (l ++ venc x, 0) else ([], 10)

theorem appendValue_key (v : Value) (l : List UInt8) (kind n : Int) (s : ByteArray) (M : List UInt8) (w : World) (h : Bs w v l) (hl : l.length ≤ 1000000) (hval : validB kind n s = true) (hM : M = l ++ venc ⟨kind, n, s⟩) (h1 : -9223372036854775808 ≤ n) (h2 : n ≤ 9223372036854775807) (hss : s.size ≤ 64) :
    ∀ w1, Kept Kno w w1 → Calls Tryz.prog 148 #[v, .int .i64 (IntKind.i64.wrap (11 + (s.size : Int)))] w1 (RetB l w1) := by
  intro w1 hk1
  have e11 : IntKind.i64.wrap ((11 : Int) + (s.size : Int)) = ((11 + s.size : Nat) : Int) := by rw [IntKind.wrap_i64]; omega
  rw [e11]
  exact grown_any _ l (11 + s.size) w1 (h.kept0 hk1) (by omega)

set_option maxHeartbeats 2000000 in
theorem appendValue_any (v : Value) (l : List UInt8) (x : Val) (w : World) (h : Bs w v l) (hx : okVal x) (hl : l.length ≤ 1000000) :
    Calls Tryz.prog 279 #[v, x.v] w (RetE (valRes l x) w) := by
  have H := Lib.hid h
  obtain ⟨Av, capv, rfl, -⟩ := h
  obtain ⟨kind, n, s⟩ := x
  obtain ⟨h1, h2, h3⟩ := hx
  simp only at h1 h2 h3
  simp only [Val.v]
  go_enter Tryz.func279, Tryz.ntmps279
  go_wp2_with fail
  have hkA : Kept Kno w (w.alloc (.cells #[.int .i64 kind, .int .i64 n, .string s] 49)) := (Kept.refl _ _).alloc _
  have HQ := Lib.hid (Blk.new w 49 #[.int .i64 kind, .int .i64 n, .string s])
  generalize (w.alloc (.cells #[.int .i64 kind, .int .i64 n, .string s] 49)) = wA at hkA HQ ⊢
  refine (valid_any kind n s wA).mono ?_
  rintro e w1 ⟨rfl, hk1⟩
  have hkw : Kept Kno w w1 := hkA.then0 hk1
  have d0 : w1.cell? ⟨w.heap.size, 0, none⟩ = some (.int .i64 kind) := hk1.cell_some (HQ.out.cell 0) (fun h => h)
  have d1 : w1.cell? ⟨w.heap.size, 1, none⟩ = some (.int .i64 n) := hk1.cell_some (HQ.out.cell 1) (fun h => h)
  have d2 : w1.cell? ⟨w.heap.size, 2, none⟩ = some (.string s) := hk1.cell_some (HQ.out.cell 2) (fun h => h)
  have HLT : Hid (w.heap.size < w1.heap.size) := Lib.hid (Nat.lt_of_lt_of_le HQ.out.lt hk1.size)
  clear hkA hk1 HQ
  cases hval : validB kind n s with
  | false =>
    have hx : RetE (valRes l ⟨kind, n, s⟩) w (.returned (.tuple #[.slice none 0 0, .int .i64 10])) w1 := by
      have e : valRes l ⟨kind, n, s⟩ = ([], 10) := by unfold valRes; simp only [hval]; rfl
      rw [e]
      exact ⟨none, 0, rfl, World.ownsRow_nil _ _ _ _, hkw⟩
    have HXX := Lib.hid hx
    clear hx hval
    go_wp2
    go_ret2
    exact HXX.out
  | true =>
    have hsz := valid_size ⟨kind, n, s⟩ hval
    simp only at hsz
    have e : valRes l ⟨kind, n, s⟩ = (l ++ venc ⟨kind, n, s⟩, 0) := by unfold valRes; simp only [hval]; rfl
    obtain ⟨M, hM⟩ : ∃ M, M = l ++ venc ⟨kind, n, s⟩ := ⟨_, rfl⟩
    rw [← hM] at e
    have E := Lib.hid e
    have HG := Lib.hid (appendValue_key _ l kind n s M w H.out hl hval hM h1 h2 hsz)
    have hB : w.heap.size < w1.heap.size := HLT.out
    have HP : Hid (∀ (b : Value) (wb : World), OwnB wb w1.heap.size 5 b l → w1.heap.size ≤ wb.heap.size → Calls Tryz.prog 298 #[b, .agg #[.int .i64 kind, .int .i64 n, .string s]] wb (PutB w1.heap.size M wb)) := Lib.hid (by
      intro b wb hb hs
      rw [hM]
      exact putValue_any w1.heap.size b l ⟨kind, n, s⟩ wb hb hval h1 h2 (by omega) hs)
    clear e hM hval
    go_upto_region 3 with (fail)
    clear h1 h2 h3 hl hsz
    go_region_held3 (fun w' => w'.cell? ⟨w.heap.size, 0, none⟩ = some (.int .i64 kind) ∧ w'.cell? ⟨w.heap.size, 1, none⟩ = some (.int .i64 n) ∧ w'.cell? ⟨w.heap.size, 2, none⟩ = some (.string s)) (first | (exact ⟨r0, r1, r2⟩) | (exact ⟨q0, q1, q2⟩) | (exact ⟨d0, d1, d2⟩) | go_keep)
      (first | (go_at_call 148; refine (HG.out _ (hkw.drew)).mono ?_; rintro e w2 ⟨A2, cap2, rfl, hown, hk'⟩; have hk2 : Kept Kno w1 w2 := ((Kept.refl _ w1).drew).then0 hk'; have HO : Hid (OwnB w2 w1.heap.size 5 (.slice A2 l.length cap2) l) := Lib.hid hown; have q0 := hk'.cell_some d0 (fun h => h); have q1 := hk'.cell_some d1 (fun h => h); have q2 := hk'.cell_some d2 (fun h => h); clear hk' hown)
             | (go_at_call 298; refine (HP.out _ _ HO.out hk2.size).mono ?_; rintro e w3 ⟨A3, cap3, rfl, hown3, hk3⟩; have HO3 := Lib.hid hown3; have r0 := hk3.cell_some q0 (fun h => by simp only [From] at h; omega); have r1 := hk3.cell_some q1 (fun h => by simp only [From] at h; omega); have r2 := hk3.cell_some q2 (fun h => by simp only [From] at h; omega); clear hown3))
    go_wp2
    go_ret2
    rw [E.out]
    exact ⟨_, _, rfl, own_rebase HO3.out (fun k hk => by have := (own_base HO3.out hk).1; omega), hkw.then0 (kept_from hk2 hk3 (Nat.le_refl _))⟩

end Go.Proofs.YtffdaohmalmkfaaGreat
/-
  Packet: predicates and queries as trees, how they lie in memory, and their bytes. No program in sight.
-/
namespace Go.Proofs.YtffdaohmalmkfaaGreat
open Go.RowKit
set_option linter.unusedVariables false

/-- A number that an int holds. -/
def I64 (n : Int) : Prop := -9223372036854775808 ≤ n ∧ n ≤ 9223372036854775807
structure Opnd where
  kind : Int
  idx : Int
  val : Val
inductive Prd where
  | mk (op cmp : Int) (l r : Opnd) (args : List Prd)
inductive Qry where
  | mk (op table : Int) (wh : Prd) (cols : List Int) (on : List (Int × Int)) (grp : List Int) (ord : List (Int × Bool)) (lim : Int) (args : List Qry)

/-! Bytes. -/
def inum (n : Int) : List UInt8 := leb (zz n)
def inums (l : List Int) : List UInt8 := leb l.length ++ l.flatMap inum
def ibool (b : Bool) : List UInt8 := if b then [1] else [0]
/-- The zero value. -/
def valZ (x : Val) : Bool := decide (x.kind = 0) && decide (x.n = 0) && decide (x.s.size = 0)
/-- Zero or valid. -/
def plainV (x : Val) : Bool := valZ x || validB x.kind x.n x.s
def ival (x : Val) : List UInt8 := if valZ x then [0] else venc x
def encO (o : Opnd) : List UInt8 := inum o.kind ++ inum o.idx ++ ival o.val
mutual
def encP : Prd → List UInt8
  | .mk op cmp l r args => inum op ++ inum cmp ++ encO l ++ encO r ++ leb args.length ++ encPs args
def encPs : List Prd → List UInt8
  | [] => []
  | p :: ps => encP p ++ encPs ps
end
mutual
def encQ : Qry → List UInt8
  | .mk op table wh cols on grp ord lim args =>
    inum op ++ inum table ++ encP wh ++ inums cols ++ leb on.length ++ on.flatMap (fun p => inum p.1 ++ inum p.2) ++ inums grp ++ leb ord.length ++ ord.flatMap (fun p => inum p.1 ++ ibool p.2) ++ inum lim ++ leb args.length ++ encQs args
def encQs : List Qry → List UInt8
  | [] => []
  | q :: qs => encQ q ++ encQs qs
end
theorem encPs_append (a b : List Prd) : encPs (a ++ b) = encPs a ++ encPs b := by
  induction a with
  | nil => simp [encPs]
  | cons p a ih => simp [encPs, ih]
theorem encQs_append (a b : List Qry) : encQs (a ++ b) = encQs a ++ encQs b := by
  induction a with
  | nil => simp [encQs]
  | cons p a ih => simp [encQs, ih]

/-! What is writable. -/
def fitO (o : Opnd) : Bool := plainV o.val
mutual
/-- The nodes of a predicate. -/
def sizeP : Prd → Nat
  | .mk _ _ _ _ args => 1 + sizePs args
def sizePs : List Prd → Nat
  | [] => 0
  | p :: ps => sizeP p + sizePs ps
end
mutual
/-- Its levels, from d on, and its values are as they must be. -/
def fitP : Nat → Prd → Bool
  | d, .mk _ _ l r args => decide (d ≤ 8) && fitO l && fitO r && fitPs (d + 1) args
def fitPs : Nat → List Prd → Bool
  | _, [] => true
  | d, p :: ps => fitP d p && fitPs d ps
end
mutual
def sizeQ : Qry → Nat
  | .mk _ _ _ _ _ _ _ _ args => 1 + sizeQs args
def sizeQs : List Qry → Nat
  | [] => 0
  | q :: qs => sizeQ q + sizeQs qs
end
mutual
def fitQ : Nat → Qry → Bool
  | d, .mk _ _ wh cols on grp _ _ args => decide (d ≤ 8) && decide (cols.length ≤ 12) && decide (on.length ≤ 12) && decide (grp.length ≤ 12) && (decide (sizeP wh ≤ 24) && fitP 1 wh) && fitQs (d + 1) args
def fitQs : Nat → List Qry → Bool
  | _, [] => true
  | d, q :: qs => fitQ d q && fitQs d qs
end
theorem sizeP_pos (p : Prd) : 1 ≤ sizeP p := by cases p; simp only [sizeP]; omega
theorem sizeQ_pos (p : Qry) : 1 ≤ sizeQ p := by cases p; simp only [sizeQ]; omega
theorem sizePs_append (a b : List Prd) : sizePs (a ++ b) = sizePs a + sizePs b := by
  induction a with
  | nil => simp [sizePs]
  | cons p a ih => simp only [List.cons_append, sizePs, ih]; omega
theorem sizeQs_append (a b : List Qry) : sizeQs (a ++ b) = sizeQs a + sizeQs b := by
  induction a with
  | nil => simp [sizeQs]
  | cons p a ih => simp only [List.cons_append, sizeQs, ih]; omega
theorem fitPs_append (d : Nat) (a b : List Prd) : fitPs d (a ++ b) = (fitPs d a && fitPs d b) := by
  induction a with
  | nil => simp [fitPs]
  | cons p a ih => simp only [List.cons_append, fitPs, ih, Bool.and_assoc]
theorem fitQs_append (d : Nat) (a b : List Qry) : fitQs d (a ++ b) = (fitQs d a && fitQs d b) := by
  induction a with
  | nil => simp [fitQs]
  | cons p a ih => simp only [List.cons_append, fitQs, ih, Bool.and_assoc]

/-! Memory. -/
/-- The cells cs lie in block g from o on. -/
def CellsAt (w : World) (g o : Nat) (cs : List Value) : Prop := ∀ (j : Nat) (u : Value), cs[j]? = some u → w.cell? ⟨g, o + j, none⟩ = some u
/-- The slice value s has n elements of 'size' cells, which read as xs, in a block below B. -/
def SlIn (w : World) (B size : Nat) (s : Value) (n : Nat) (xs : List Value) : Prop :=
  ∃ (A : Option Addr) (cap : Nat), s = .slice A n cap ∧ n ≤ cap ∧ cap ≤ maxLen ∧ xs.length = n * size ∧ (A = none → cap = 0) ∧ (∀ k, s.ownBlock = some k → k < B) ∧ (0 < n → ∃ g o, A = some ⟨g, o, none⟩ ∧ g < B ∧ CellsAt w g o xs)
def Opnd.v (o : Opnd) : Value := .agg #[.int .i64 o.kind, .int .i64 o.idx, .int .i64 o.val.kind, .int .i64 o.val.n, .string o.val.s]
def okOpnd (o : Opnd) : Prop := I64 o.kind ∧ I64 o.idx ∧ I64 o.val.kind ∧ okVal o.val
def iv (n : Int) : Value := .int .i64 n
def onC (l : List (Int × Int)) : List Value := l.flatMap fun p => [iv p.1, iv p.2]
def ordC (l : List (Int × Bool)) : List Value := l.flatMap fun p => [iv p.1, .bool p.2]
/-- A predicate's value, s its Args. -/
def Prd.v : Prd → Value → Value
  | .mk op cmp l r _, s => .agg #[.int .i64 op, .int .i64 cmp, .int .i64 l.kind, .int .i64 l.idx, .int .i64 l.val.kind, .int .i64 l.val.n, .string l.val.s, .int .i64 r.kind, .int .i64 r.idx, .int .i64 r.val.kind, .int .i64 r.val.n, .string r.val.s, s]
def Prd.cells : Prd → Value → List Value
  | .mk op cmp l r _, s => [.int .i64 op, .int .i64 cmp, .int .i64 l.kind, .int .i64 l.idx, .int .i64 l.val.kind, .int .i64 l.val.n, .string l.val.s, .int .i64 r.kind, .int .i64 r.idx, .int .i64 r.val.kind, .int .i64 r.val.n, .string r.val.s, s]
mutual
/-- s is the Args of the predicate. -/
def PIn (w : World) (B : Nat) : Prd → Value → Prop
  | .mk op cmp l r args, s => I64 op ∧ I64 cmp ∧ okOpnd l ∧ okOpnd r ∧ ∃ (A : Option Addr) (cap : Nat), s = .slice A args.length cap ∧ args.length ≤ cap ∧ cap ≤ maxLen ∧ (A = none → cap = 0) ∧ (∀ k, s.ownBlock = some k → k < B) ∧ (0 < args.length → ∃ g o, A = some ⟨g, o, none⟩ ∧ g < B ∧ PsAt w B args g o)
def PsAt (w : World) (B : Nat) : List Prd → Nat → Nat → Prop
  | [], _, _ => True
  | p :: ps, g, o => (∃ s, PIn w B p s ∧ CellsAt w g o (p.cells s)) ∧ PsAt w B ps g (o + 13)
end
/-- The slices of a query. -/
structure QS where
  wa : Value
  cols : Value
  on : Value
  grp : Value
  ord : Value
  args : Value
def Qry.v : Qry → QS → Value
  | .mk op table (.mk wo wc l r _) _ _ _ _ lim _, s => .agg #[.int .i64 op, .int .i64 table, .int .i64 wo, .int .i64 wc, .int .i64 l.kind, .int .i64 l.idx, .int .i64 l.val.kind, .int .i64 l.val.n, .string l.val.s, .int .i64 r.kind, .int .i64 r.idx, .int .i64 r.val.kind, .int .i64 r.val.n, .string r.val.s, s.wa, s.cols, s.on, s.grp, s.ord, .int .i64 lim, s.args]
def Qry.cells : Qry → QS → List Value
  | .mk op table (.mk wo wc l r _) _ _ _ _ lim _, s => [.int .i64 op, .int .i64 table, .int .i64 wo, .int .i64 wc, .int .i64 l.kind, .int .i64 l.idx, .int .i64 l.val.kind, .int .i64 l.val.n, .string l.val.s, .int .i64 r.kind, .int .i64 r.idx, .int .i64 r.val.kind, .int .i64 r.val.n, .string r.val.s, s.wa, s.cols, s.on, s.grp, s.ord, .int .i64 lim, s.args]
mutual
def QIn (w : World) (B : Nat) : Qry → QS → Prop
  | .mk op table wh cols on grp ord lim args, s => I64 op ∧ I64 table ∧ I64 lim ∧ PIn w B wh s.wa ∧ SlIn w B 1 s.cols cols.length (cols.map iv) ∧ (∀ x ∈ cols, I64 x) ∧ SlIn w B 2 s.on on.length (onC on) ∧ (∀ x ∈ on, I64 x.1 ∧ I64 x.2) ∧ SlIn w B 1 s.grp grp.length (grp.map iv) ∧ (∀ x ∈ grp, I64 x) ∧ SlIn w B 2 s.ord ord.length (ordC ord) ∧ (∀ x ∈ ord, I64 x.1) ∧
    ∃ (A : Option Addr) (cap : Nat), s.args = .slice A args.length cap ∧ args.length ≤ cap ∧ cap ≤ maxLen ∧ (A = none → cap = 0) ∧ (∀ k, s.args.ownBlock = some k → k < B) ∧ (0 < args.length → ∃ g o, A = some ⟨g, o, none⟩ ∧ g < B ∧ QsAt w B args g o)
def QsAt (w : World) (B : Nat) : List Qry → Nat → Nat → Prop
  | [], _, _ => True
  | q :: qs, g, o => (∃ s, QIn w B q s ∧ CellsAt w g o (q.cells s)) ∧ QsAt w B qs g (o + 21)
end

theorem PsAt.get {w : World} {B : Nat} : ∀ {ps : List Prd} {g o : Nat}, PsAt w B ps g o → ∀ {i : Nat} {p : Prd}, ps[i]? = some p → ∃ s, PIn w B p s ∧ CellsAt w g (o + i * 13) (p.cells s)
  | [], _, _, _, i, p, hp => by simp at hp
  | q :: ps, g, o, h, 0, p, hp => by
    simp only [List.getElem?_cons_zero, Option.some.injEq] at hp
    subst hp
    simp only [PsAt] at h
    simpa using h.1
  | q :: ps, g, o, h, i + 1, p, hp => by
    simp only [PsAt] at h
    have h2 := PsAt.get h.2 (i := i) (p := p) (by simpa using hp)
    have e : o + 13 + i * 13 = o + (i + 1) * 13 := by omega
    rw [e] at h2
    exact h2
theorem QsAt.get {w : World} {B : Nat} : ∀ {ps : List Qry} {g o : Nat}, QsAt w B ps g o → ∀ {i : Nat} {p : Qry}, ps[i]? = some p → ∃ s, QIn w B p s ∧ CellsAt w g (o + i * 21) (p.cells s)
  | [], _, _, _, i, p, hp => by simp at hp
  | q :: ps, g, o, h, 0, p, hp => by
    simp only [List.getElem?_cons_zero, Option.some.injEq] at hp
    subst hp
    simp only [QsAt] at h
    simpa using h.1
  | q :: ps, g, o, h, i + 1, p, hp => by
    simp only [QsAt] at h
    have h2 := QsAt.get h.2 (i := i) (p := p) (by simpa using hp)
    have e : o + 21 + i * 21 = o + (i + 1) * 21 := by omega
    rw [e] at h2
    exact h2

section
variable {w w' : World} {B B' : Nat}
/-- What lies below B is as it was. -/
def Old (B : Nat) (w w' : World) : Prop := ∀ k, k < B → w'.heap[k]? = w.heap[k]?
theorem Kept.old {S : Nat → Prop} (h : Kept S w w') (hB : B ≤ w.heap.size) (hS : ∀ k, k < B → ¬ S k) : Old B w w' := fun k hk => h.block k (by omega) (hS k hk)
theorem CellsAt.old {g o : Nat} {cs : List Value} (h : CellsAt w g o cs) (hg : g < B) (ho : Old B w w') : CellsAt w' g o cs := fun j u hj => (World.cell?_of_block (ho g hg)).trans (h j u hj)
theorem SlIn.old {size n : Nat} {s : Value} {xs : List Value} (h : SlIn w B size s n xs) (ho : Old B w w') (hB : B ≤ B') : SlIn w' B' size s n xs := by
  obtain ⟨A, cap, h1, h2, h3, h4, h5, h6, h7⟩ := h
  exact ⟨A, cap, h1, h2, h3, h4, h5, fun k hk => by have := h6 k hk; omega, fun h0 => by obtain ⟨g, o, a, b, c⟩ := h7 h0; exact ⟨g, o, a, by omega, c.old b ho⟩⟩
mutual
theorem PIn.old (ho : Old B w w') (hB : B ≤ B') : ∀ (p : Prd) (s : Value), PIn w B p s → PIn w' B' p s
  | .mk op cmp l r args, s, h => by
    simp only [PIn] at h ⊢
    obtain ⟨h1, h2, h3, h4, A, cap, h5, h6, h7, h8, h9, h10⟩ := h
    refine ⟨h1, h2, h3, h4, A, cap, h5, h6, h7, h8, fun k hk => by have := h9 k hk; omega, fun h0 => ?_⟩
    obtain ⟨g, o, a, b, c⟩ := h10 h0
    exact ⟨g, o, a, by omega, PsAt.old ho hB args g o b c⟩
theorem PsAt.old (ho : Old B w w') (hB : B ≤ B') : ∀ (ps : List Prd) (g o : Nat), g < B → PsAt w B ps g o → PsAt w' B' ps g o
  | [], _, _, _, _ => by simp only [PsAt]
  | p :: ps, g, o, hg, h => by
    simp only [PsAt] at h ⊢
    obtain ⟨⟨s, a, b⟩, c⟩ := h
    exact ⟨⟨s, PIn.old ho hB p s a, b.old hg ho⟩, PsAt.old ho hB ps g (o + 13) hg c⟩
end
mutual
theorem QIn.old (ho : Old B w w') (hB : B ≤ B') : ∀ (p : Qry) (s : QS), QIn w B p s → QIn w' B' p s
  | .mk op table wh cols on grp ord lim args, s, h => by
    simp only [QIn] at h ⊢
    obtain ⟨h1, h2, h3, h4, a1, a2, a3, a4, a5, a6, a7, a8, A, cap, h5, h6, h7, h8, h9, h10⟩ := h
    refine ⟨h1, h2, h3, PIn.old ho hB wh _ h4, a1.old ho hB, a2, a3.old ho hB, a4, a5.old ho hB, a6, a7.old ho hB, a8, A, cap, h5, h6, h7, h8, fun k hk => by have := h9 k hk; omega, fun h0 => ?_⟩
    obtain ⟨g, o, a, b, c⟩ := h10 h0
    exact ⟨g, o, a, by omega, QsAt.old ho hB args g o b c⟩
theorem QsAt.old (ho : Old B w w') (hB : B ≤ B') : ∀ (ps : List Qry) (g o : Nat), g < B → QsAt w B ps g o → QsAt w' B' ps g o
  | [], _, _, _, _ => by simp only [QsAt]
  | p :: ps, g, o, hg, h => by
    simp only [QsAt] at h ⊢
    obtain ⟨⟨s, a, b⟩, c⟩ := h
    exact ⟨⟨s, QIn.old ho hB p s a, b.old hg ho⟩, QsAt.old ho hB ps g (o + 21) hg c⟩
end
end

end Go.Proofs.YtffdaohmalmkfaaGreat
/-
  Packet: the writer: numbers, counts, bools, rows.
-/
namespace Go.Proofs.YtffdaohmalmkfaaGreat
open Go.RowKit
set_option linter.unusedVariables false

/-- Block D is a writer that has gathered l, its slice v in memory of its own behind D. -/
structure Wr (w : World) (D : Nat) (v : Value) (l : List UInt8) : Prop where
  blk : Blk w D 104 #[v]
  own : OwnB w D 5 v l
/-- The blocks that a writer may change. -/
def Kw (D : Nat) (v : Value) : Nat → Prop := fun k => k = D ∨ v.ownBlock = some k
/-- What a writer's call leaves: only the writer and its row have changed, and its row is the old one or new. -/
structure WStep (D : Nat) (v : Value) (w : World) (v' : Value) (w' : World) : Prop where
  k : Kept (Kw D v) w w'
  at_ : ∀ k, v'.ownBlock = some k → v.ownBlock = some k ∨ w.heap.size ≤ k
/-- A writer's call. -/
def WrOk (D : Nat) (v : Value) (l : List UInt8) (w : World) (e : Ending) (w' : World) : Prop := ∃ v', e = .returned (.tuple #[]) ∧ Wr w' D v' l ∧ WStep D v w v' w'

theorem Wr.kept {w w' : World} {D : Nat} {v : Value} {l : List UInt8} (h : Wr w D v l) (hk : Kept Kno w w') : Wr w' D v l := ⟨h.blk.kept hk (fun h => h), own_kept h.own hk (fun _ _ h => h)⟩
theorem Wr.lt {w : World} {D : Nat} {v : Value} {l : List UInt8} (h : Wr w D v l) : D < w.heap.size := h.blk.lt
theorem Wr.form {w : World} {D : Nat} {v : Value} {l : List UInt8} (h : Wr w D v l) : ∃ A cap, v = .slice A l.length cap := own_form h.own
theorem Wr.ne {w : World} {D : Nat} {v : Value} {l : List UInt8} (h : Wr w D v l) : v.ownBlock ≠ some D := own_blk_ne h.own h.blk (by decide)
theorem Wr.low {w : World} {D : Nat} {v : Value} {l : List UInt8} (h : Wr w D v l) {k : Nat} (hk : Kw D v k) : D ≤ k := by
  rcases hk with rfl | hk
  · exact Nat.le_refl _
  · exact (own_base h.own hk).1
theorem Wr.hi {w : World} {D : Nat} {v : Value} {l : List UInt8} (h : Wr w D v l) {k : Nat} (hk : Kw D v k) : k < w.heap.size := by
  rcases hk with rfl | hk
  · exact h.blk.lt
  · exact (own_base h.own hk).2
theorem WStep.refl (D : Nat) (v : Value) (w : World) : WStep D v w v w := ⟨Kept.refl _ _, fun k h => .inl h⟩
theorem WStep.trans {D : Nat} {v v1 v2 : Value} {w w1 w2 : World} (h : WStep D v w v1 w1) (h2 : WStep D v1 w1 v2 w2) : WStep D v w v2 w2 := by
  have hs := h.k.size
  refine ⟨h.k.trans h2.k (fun i hi hk => ?_), fun k hk => ?_⟩
  · rcases hk with rfl | hk
    · exact .inl rfl
    · rcases h.at_ i hk with h | h
      · exact .inr h
      · omega
  · rcases h2.at_ k hk with hk | hk
    · exact h.at_ k hk
    · exact .inr (by omega)
theorem WStep.new {D : Nat} {v : Value} {w w' : World} (hk : Kept Kno w w') : WStep D v w v w' := ⟨hk.mono (fun _ _ h => h.elim), fun k h => .inl h⟩
theorem WStep.then0 {D : Nat} {v v1 : Value} {w w1 w2 : World} (h : WStep D v w v1 w1) (hk : Kept Kno w1 w2) : WStep D v w v1 w2 := h.trans (.new hk)
/-- What was there before the writer's blocks is as it was. -/
theorem WStep.old {D B : Nat} {v v' : Value} {w w' : World} {l : List UInt8} (h : WStep D v w v' w') (hw : Wr w D v l) (hB : B ≤ D) : Old B w w' :=
  h.k.old (by have := hw.lt; omega) (fun k hk hs => by have := hw.low hs; omega)
/-- A block that a writer leaves alone. -/
structure Gd (w : World) (D : Nat) (v : Value) (g : Nat) (t : TypeId) (cs : Array Value) : Prop where
  b : Blk w g t cs
  no : ¬ Kw D v g
theorem Gd.step {w w' : World} {D g : Nat} {v v' : Value} {t : TypeId} {cs : Array Value} (h : Gd w D v g t cs) (hs : WStep D v w v' w') : Gd w' D v' g t cs := by
  refine ⟨h.b.kept hs.k h.no, fun hk => ?_⟩
  have hlt := h.b.lt
  rcases hk with rfl | hk
  · exact h.no (.inl rfl)
  · rcases hs.at_ g hk with h2 | h2
    · exact h.no (.inr h2)
    · omega
theorem Gd.new {w : World} {D : Nat} {v : Value} {l : List UInt8} (h : Wr w D v l) (cs : Array Value) (t : TypeId) : Gd (w.alloc (.cells cs t)) D v w.heap.size t cs :=
  ⟨Blk.new _ _ _, fun hk => by have := h.hi hk; omega⟩
theorem WrOk.after {D : Nat} {v v1 : Value} {l : List UInt8} {w w1 w2 : World} {e : Ending} (h : WStep D v w v1 w1) (h2 : WrOk D v1 l w1 e w2) : WrOk D v l w e w2 := by
  obtain ⟨v2, a, b, c⟩ := h2
  exact ⟨v2, a, b, h.trans c⟩

theorem grow_wr {D m : Nat} {A A2 : Option Addr} {cap cap2 : Nat} {l news : List UInt8} {w w1 w2 : World} (h : Wr w D (.slice A l.length cap) l) (hk : Kept Kno w w1) (hm : news.length = m)
    (hown2 : w2.ownsRow D 5 1 (.slice A2 (l.length + m) cap2) (l.length + m) (l.map bv ++ news.map bv)) (hg2 : w1.grownBy w2 (Value.slice A l.length cap).ownBlock)
    (hat2 : (Value.slice A2 (l.length + m) cap2).ownBlock = (Value.slice A l.length cap).ownBlock ∨ (Value.slice A2 (l.length + m) cap2).ownBlock = some w1.heap.size) :
    WrOk D (.slice A l.length cap) (l ++ news) w (.returned (.tuple #[])) (w2.setCell ⟨D, 0, none⟩ (.slice A2 (l.length + m) cap2)) := by
  obtain ⟨hD, ho⟩ := h
  have hs := hk.size
  have e : (l ++ news).length = l.length + m := by rw [List.length_append, hm]
  have hb2 := (hD.kept hk (fun h => h)).grown hg2 (fun h => own_blk_ne ho hD (by decide) h.symm)
  refine ⟨_, rfl, ⟨hb2.set_ 0 _, ?_⟩, ?_, fun k hk => ?_⟩
  · unfold OwnB
    rw [e, List.map_append]
    exact own_far hown2 (own_blk_ne hown2 hb2 (by decide)) _
  · exact ((hk.mono (T := Kw D (.slice A l.length cap)) (fun _ _ h => h.elim)).grown hg2 (fun k _ h => .inr h)).setIn (p := ⟨D, 0, none⟩) (.inl rfl) _
  · rcases hat2 with h | h
    · rw [h] at hk; exact .inl hk
    · rw [h] at hk; injection hk with hk; exact .inr (by omega)

theorem appendInt_nil (n : Int) (w : World) (hn : I64 n) : Calls Tryz.prog 83 #[.slice none 0 0, .int .i64 n] w (RetB (inum n) w) := appendInt_any _ [] n w (bs_nil _) hn.1 hn.2 (by simp)

set_option maxRecDepth 100000 in
set_option maxHeartbeats 1000000 in
theorem wnumber_any (D : Nat) (v : Value) (l : List UInt8) (n : Int) (w : World) (h : Wr w D v l) (hn : I64 n) (hl : l.length ≤ 1000000000000) :
    Calls Tryz.prog 35 #[.pointer (some ⟨D, 0, none⟩), .int .i64 n] w (WrOk D v (l ++ inum n) w) := by
  obtain ⟨i0, hi, hz0, hz1, hz2⟩ := info_parts info_byte
  obtain ⟨A, cap, rfl⟩ := h.form
  have H := Lib.hid h
  have hlt := h.lt
  have c0 : w.cell? ⟨D, 0, none⟩ = some (.slice A l.length cap) := h.blk.cell 0
  have f0 := h.blk.frozen 0
  have hlen := (leb_length (zz n)).2
  have hne := h.ne
  have m1 : l.length + (inum n).length ≤ maxLen := by unfold inum; simp only [maxLen]; omega
  have m2 : (l.length + (inum n).length) * 1 ≤ 140737488355328 := by unfold inum; omega
  have HN := Lib.hid hn
  clear h hn
  go_enter Tryz.func35, Tryz.ntmps35
  go_region_law
    (first | (rw [if_pos (by rfl)]; go_simp; refine (appendInt_nil n _ HN.out).mono ?_; rintro e w1 ⟨A1, cap1, rfl, hown, hk'⟩; have hk : Kept Kno w w1 := Kept.then0 (Kept.drew (Kept.refl _ w)) hk'; have q0 := hk.cell_some c0 (fun h => h); have q2 := hk.frozen_no f0 hlt (fun h => h); have HO1 : Hid (OwnB w1 w.drew.heap.size 5 (.slice A1 (inum n).length cap1) (inum n)) := Lib.hid hown; clear hk' hown)
           | (refine step_append_rd _ (by rfl) _ _ 22 (by rfl) D 5 i0 _ 1 1 Tryz.underlying22 hi hz0 hz1 hz2 rfl (by decide) (.slice A l.length cap) l.length (l.map bv) (by rfl) (own_kept H.out.own hk (fun _ _ h => h)) (.slice A1 (inum n).length cap1) (inum n).length ((inum n).map bv) (by rfl) HO1.out.bs (bvs_one _) m1 m2 (by have := hk.size; omega) ?_
              intro A2 cap2 w2 hown2 hg2 hat2
              have q1 := hg2.cell q0 (fun e => hne e.symm)
              have q3 : w2.frozen? ⟨D, 0, none⟩ = false := (World.frozen?_of_block (hg2.block D (by have := hk.size; omega) (fun e => hne e.symm))).trans q2))
  all_goals
    go_wp2
    go_end0
    exact grow_wr H.out hk rfl hown2 hg2 hat2

end Go.Proofs.YtffdaohmalmkfaaGreat
