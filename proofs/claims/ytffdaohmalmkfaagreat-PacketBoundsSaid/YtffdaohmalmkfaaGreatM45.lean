/-
  Contracts and plain laws that the claim's theorem rests on, some texts in one file.
-/
import Derived.Test.YtffdaohmalmkfaaGreatM44
import Derived.Test.YtffdaohmalmkfaaGreatRows
import Derived.ProofKit
import Derived.OpenShut
import Derived.ShutString
import Derived.ChangeOld
import Derived.ChangeSame
import Derived.Carry
import Derived.JoinedCond
import Derived.Deep.Slices
import Derived.Deep.Fields
import Derived.KernelRfl
/-
  PacketBounds: the four queries out of the memory before the second loop.
-/
namespace Go.Proofs.YtffdaohmalmkfaaGreat
open Go.RowKit
set_option linter.unusedVariables false

/-- A query of the law at cells j*21 of block G. -/
def FourAt (w : World) (K n G j : Nat) (A : Option Addr) (ca : Nat) : Prop :=
  ∃ (A1 : Option Addr) (n1 c1 : Nat) (A2 : Option Addr) (n2 c2 : Nat) (A3 : Option Addr) (n3 c3 : Nat) (cols grp : List Int) (ord : List (Int × Bool)),
    CellsAt w G (j * 21) (wqC K (.slice A1 n1 c1) (.slice A2 n2 c2) (.slice A3 n3 c3) (.slice A (nargs K n) ca)) ∧
    QIn w w.heap.size (wq K n cols grp ord) ⟨zw, .slice A1 n1 c1, zw, .slice A2 n2 c2, .slice A3 n3 c3, .slice A (nargs K n) ca⟩ ∧ cols.length ≤ 20 ∧ grp.length ≤ 20 ∧ ord.length ≤ 100
theorem FourAt.kept {w w' : World} {K n G j : Nat} {A : Option Addr} {ca : Nat} (h : FourAt w K n G j A ca) (hG : G < w.heap.size) (hk : Kept Kno w w') : FourAt w' K n G j A ca := by
  obtain ⟨A1, n1, c1, A2, n2, c2, A3, n3, c3, cols, grp, ord, h1, h2, h3, h4, h5⟩ := h
  have ho : Old w.heap.size w w' := hk.old (Nat.le_refl _) (fun _ _ h => h)
  exact ⟨A1, n1, c1, A2, n2, c2, A3, n3, c3, cols, grp, ord, h1.old hG ho, QIn.old ho hk.size _ _ h2, h3, h4, h5⟩

theorem rep_i64 {n : Nat} : ∀ x ∈ List.replicate n (0 : Int), I64 x := fun x hx => by
  obtain rfl := List.eq_of_mem_replicate hx
  exact ⟨by decide, by decide⟩
theorem rep2_i64 {n : Nat} : ∀ x ∈ List.replicate n ((0 : Int), false), I64 x.1 := fun x hx => by
  obtain rfl := List.eq_of_mem_replicate hx
  exact ⟨by decide, by decide⟩

theorem bounds_four {w wr w12 : World} {V B0 K n M ca L S G : Nat} {a' : Value} {A : Option Addr} (st : BndSt w V B0 K a' n wr A ca) (hB1 : B0 ≤ V) (hk : Kept Kno wr w12) (hM : M < 15)
    (hL : Blk w12 L 3 (madeCells #[.int .i64 0] M)) (hS : Blk w12 S 273 (madeCells #[.int .i64 0, .bool false] (5 * M * 2)))
    (hG : Blk w12 G 59 (wqC K zw zw zw (.slice A (nargs K n) ca) ++ (wqC K (.slice (some ⟨L, 0, none⟩) M M) zw zw (.slice A (nargs K n) ca) ++ (wqC K zw (.slice (some ⟨L, 0, none⟩) M M) zw (.slice A (nargs K n) ca) ++ wqC K zw zw (.slice (some ⟨S, 0, none⟩) (5 * M) (5 * M)) (.slice A (nargs K n) ca)))).toArray) :
    ∀ j, j < 4 → FourAt w12 K n G j A ca := by
  have hVlt := st.v.lt
  have hsz := hk.size
  have hr : w12.ownsRow B0 59 21 (.slice A (nargs K n) ca) (nargs K n) (argC K a' n) := own_kept st.a hk (fun _ _ h => h)
  have hb : BelowAt w12 w.heap.size B0 K a' := st.b.old (fun j h1 h2 => hk.block j (by omega) (fun h => h)) (Nat.le_refl _)
  have hlt : ∀ q, (Value.slice A (nargs K n) ca).ownBlock = some q → q < w12.heap.size := fun q hq => (own_base hr hq).2
  have hml : M ≤ maxLen := by simp only [maxLen]; omega
  have hml5 : 5 * M ≤ maxLen := by simp only [maxLen]; omega
  have hm1 : (madeCells #[.int .i64 0] M).toList = (List.replicate M (0 : Int)).map iv := by have := made_1 M; rwa [Nat.mul_one] at this
  have sL : SlIn w12 w12.heap.size 1 (.slice (some ⟨L, 0, none⟩) M M) (List.replicate M (0 : Int)).length ((List.replicate M (0 : Int)).map iv) := by
    rw [List.length_replicate]
    exact sl_in hL hL.lt hm1 (by simp) hml
  have sS : SlIn w12 w12.heap.size 2 (.slice (some ⟨S, 0, none⟩) (5 * M) (5 * M)) (List.replicate (5 * M) ((0 : Int), false)).length (ordC (List.replicate (5 * M) ((0 : Int), false))) := by
    rw [List.length_replicate]
    exact sl_in hS hS.lt (made_2 (5 * M)) (ordC_rep_len _) hml5
  have z1 : SlIn w12 w12.heap.size 1 zw ([] : List Int).length (([] : List Int).map iv) := zw_in _ _ _
  have z2 : SlIn w12 w12.heap.size 2 zw ([] : List (Int × Bool)).length (ordC []) := zw_in _ _ _
  have n1 : ∀ x ∈ ([] : List Int), I64 x := by simp
  have n2 : ∀ x ∈ ([] : List (Int × Bool)), I64 x.1 := by simp
  intro j hj
  match j, hj with
  | 0, _ => exact ⟨none, 0, 0, none, 0, 0, none, 0, 0, [], [], [], CellsAt.sub hG 0 (by simp [wqC]; rfl), wq_in z1 n1 z1 n1 z2 n2 hr hb (by omega) hlt, by simp, by simp, by simp⟩
  | 1, _ => exact ⟨some ⟨L, 0, none⟩, M, M, none, 0, 0, none, 0, 0, List.replicate M 0, [], [], CellsAt.sub hG 21 (by simp [wqC]; rfl), wq_in sL rep_i64 z1 n1 z2 n2 hr hb (by omega) hlt, by simp; omega, by simp, by simp⟩
  | 2, _ => exact ⟨none, 0, 0, some ⟨L, 0, none⟩, M, M, none, 0, 0, [], List.replicate M 0, [], CellsAt.sub hG 42 (by simp [wqC]; rfl), wq_in z1 n1 sL rep_i64 z2 n2 hr hb (by omega) hlt, by simp, by simp; omega, by simp⟩
  | 3, _ => exact ⟨none, 0, 0, none, 0, 0, some ⟨S, 0, none⟩, 5 * M, 5 * M, [], [], List.replicate (5 * M) (0, false), CellsAt.sub hG 63 (by simp [wqC]; rfl), wq_in z1 n1 z1 n1 sS rep2_i64 hr hb (by omega) hlt, by simp, by simp, by simp; omega⟩
  | j + 4, hj => omega

def ResOk (m : List UInt8) (E : Int) (w : World) (e : Ending) (w' : World) : Prop :=
  ∃ A c, e = .returned (.tuple #[.slice A m.length c, .int .i64 E]) ∧ Bs w' (.slice A m.length c) m ∧ Kept Kno w w'
/-- What the second loop's calls answer. -/
theorem round_calls {wb : World} {x : Sub} {u : Value} (hu : SubsIn wb wb.heap.size u [x]) (hl : (encSubs [x]).length ≤ 30000) :
    ∃ (m : List UInt8) (E W : Int), (∀ w', Kept Kno wb w' → Calls Tryz.prog 9 #[.agg (lawC u)] w' (ResOk m E w')) ∧ (∀ w', Kept Kno wb w' → Calls Tryz.prog 15 #[.agg (lawC u)] w' (ResOk m E w')) ∧
      (∀ w', Kept Kno wb w' → Calls Tryz.prog 16 #[u] w' (RetInt W w')) ∧ (∀ w', Kept Kno wb w' → Calls Tryz.prog 17 #[u] w' (RetInt W w')) := by
  have ho : ∀ w', Kept Kno wb w' → SubsIn w' w'.heap.size u [x] := fun w' hk => hu.old (hk.old (Nat.le_refl _) (fun _ _ h => h)) hk.size
  exact ⟨lawM x, lawE x, weightI [x], fun w' hk => encA_any x u w' (ho w' hk) hl, fun w' hk => encB_any x u w' (ho w' hk) hl, fun w' hk => wtA_any x u w' (ho w' hk) hl, fun w' hk => wtB_any x u w' (ho w' hk) hl⟩

end Go.Proofs.YtffdaohmalmkfaaGreat
/-
  The frame of every law of this seat: if the call returns true and changes nothing that was there, the row's post holds: results, arguments read again, memory kept.
-/
namespace Go.Proofs.YtffdaohmalmkfaaGreat
open Go.ChangeShapes Go.WideShapes Go.ChangeAt Go.RowKit

theorem law_own : ownKnob Tryz.prog.godebug = none := by kernel_rfl
theorem law_laid : laidOutB Tryz.prog = true := by kernel_rfl

section
variable {H : Type} {enc : TypeId × Value → H} {P : Program}

theorem post_of_below {f : Func} {s : ChangeSpec} {apart fresh handsOn again : Bool} {W W' : World} {args : Array Value} {v : Value} {ds gs : List (DataW H)} {before pa pv : List MemPlace}
    (hW : DataW.Whole enc P f.params.toList s.vars apart W args.toList ds gs before)
    (hres : ∀ (b : Nat) (sp : Nat → Bool) (hd : Bool), DataW.TrodAll enc P W' b sp hd f.resultTypes.toList (v.resultList f.resultTypes.size) (s.fn H (ds ++ gs)).results [])
    (hargs : ∀ sp : Nat → Bool, (∀ p ∈ before, sp p.block = true) → DataW.TrodAll enc P W' 0 sp true f.params.toList args.toList (s.fn H (ds ++ gs)).args pa)
    (hvars : ∀ sp : Nat → Bool, (∀ p ∈ before, sp p.block = true) → DataW.TrodVars enc P W' sp s.vars (s.fn H (ds ++ gs)).vars pv)
    (hps : before = pa ++ pv) (hb : Below W.heap.size W W')
    (hok : ∀ (j : Nat) (t : TypeId) (r : Value), f.resultTypes[j]? = some t → (v.resultList f.resultTypes.size)[j]? = some r → Value.okWide P W' .any 0 t r) :
    s.post enc P f apart fresh handsOn again W args v W' := by
  have hlt : ∀ p ∈ before, p.block < W.heap.size := fun p hp => hW.lt p hp
  have hold : ∀ p ∈ before, (fun b => decide (b < W.heap.size)) p.block = true := fun p hp => by simpa using hlt p hp
  refine ⟨ds, gs, before, [], pa, pv, hW, hres _ _ _, hargs _ hold, hvars _ hold, World.keptBut_mono (fun p hp => ⟨hp, ?_⟩) (hb.frame (· ∈ before)), fun _ => ?_⟩
  · rw [hps, List.mem_append] at hp
    exact Or.inr hp
  · obtain ⟨_, _, _, _, _, hz, hn⟩ := hW
    refine ⟨hok, _, _, ([] ++ pa) ++ pv, ⟨[] ++ pa, pv, trodAll_append (hargs _ (fun _ _ => rfl)) (hres _ _ _), hvars _ (fun _ _ => rfl), rfl, ?_, ?_⟩, ?_⟩
    · intro b off hp
      have hin : MemPlace.cell b off ∈ before := by rw [hps]; simpa using hp
      rw [hb.frozen (hlt _ hin)]
      exact hz b off hin
    · intro ha
      have := hn ha
      rw [hps] at this
      simpa using this
    · intro p hp _
      rw [hps]
      simpa using hp

/-- All arguments read again. -/
theorem trodAll_below (hl : laidOutB P = true) {W W' : World} (hb : Below W.heap.size W W') {sp : Nat → Bool} : ∀ (ts : List TypeId) (vs : List Value) (ds : List (DataW H)) (ps : List MemPlace),
    (∀ t ∈ ts, P.readableRec t = true ∧ t < P.types.size) → (∀ p ∈ ps, p.block < W.heap.size) → (∀ p ∈ ps, sp p.block = true) →
    DataW.TrodAll enc P W 0 (fun _ => true) true ts vs ds ps → DataW.TrodAll enc P W' 0 sp true ts vs ds ps
  | [], vs, ds, ps, _, _, _, h => by obtain ⟨rfl, rfl, rfl⟩ := trodAll_nil h; exact trodAll_mk0
  | t :: ts, vs, ds, ps, ht, hlt, hsp, h => by
    obtain ⟨v, vs', d, ds', p, q, rfl, rfl, rfl, h0, r⟩ := trodAll_cons h
    obtain ⟨h1, h2⟩ := ht t (List.mem_cons_self ..)
    exact trodAll_cons_mk (WideElems.Trod_stays hl h1 h2 h0 (fun x hx => hb.same (hlt x (List.mem_append_left _ hx))) (fun x hx => hsp x (List.mem_append_left _ hx)))
      (trodAll_below hl hb ts vs' ds' q (fun t' h' => ht t' (List.mem_cons_of_mem _ h')) (fun x hx => hlt x (List.mem_append_right _ hx)) (fun x hx => hsp x (List.mem_append_right _ hx)) r)

/-- The post of a law. -/
theorem post_law {f : Func} {s : ChangeSpec} {W W' : World} {args : Array Value} {ds gs : List (DataW H)} {before : List MemPlace} {tb : TypeId}
    (hl : laidOutB P = true) (hparB : f.params.toList.all (fun t => P.readableRec t && decide (t < P.types.size)) = true) (hres : f.resultTypes = #[tb]) (htb : P.underlying tb = some .bool) (hvars : s.vars = [])
    (hfn : s.fn H ds = { results := [.lit (.bool true)], args := ds })
    (hW : DataW.Whole enc P f.params.toList s.vars false W args.toList ds gs before) (hb : Below W.heap.size W W') :
    s.post enc P f false true false false W args (.bool true) W' := by
  have hpar : ∀ t ∈ f.params.toList, P.readableRec t = true ∧ t < P.types.size := fun t ht => by simpa using List.all_eq_true.1 hparB t ht
  have hW0 := hW
  have hlt : ∀ p ∈ before, p.block < W.heap.size := fun p hp => hW.lt p hp
  obtain ⟨p, q, hA, hV, rfl, hfz, hnd⟩ := hW
  have hV' := hV
  rw [hvars] at hV'
  obtain ⟨rfl, rfl⟩ := trodVars_none hV'
  simp only [List.append_nil] at hlt
  refine post_of_below (pa := p) (pv := []) hW0 ?_ ?_ ?_ rfl hb ?_
  · intro b sp hd
    rw [List.append_nil, hfn, hres]
    exact trodAll_cons_mk (shut_bool htb true) trodAll_mk0
  · intro sp hsp
    rw [List.append_nil, hfn]
    exact trodAll_below hl hb _ _ _ _ hpar hlt (fun x hx => hsp x (by simpa using hx)) hA
  · intro sp _
    rw [List.append_nil, hfn, hvars]
    rfl
  · rw [hres]
    intro j t r hj hr
    have h0 : j = 0 := by
      rcases j with _ | j
      · rfl
      · simp at hj
    subst h0
    simp only [List.getElem?_toArray, List.getElem?_cons_zero, Option.some.injEq] at hj
    subst hj
    have : r = .bool true := by simpa [Value.resultList] using hr.symm
    subst this
    exact okWide_bool_mk htb true
end
end Go.Proofs.YtffdaohmalmkfaaGreat
/-
  How arguments read: plain facts on the cells: a slice of structs, a slice of bytes.
-/
namespace Go.Proofs.YtffdaohmalmkfaaGreat
open Go.RowKit Go.ChangeShapes Go.WideShapes Go.ChangeAt Go.Deep
set_option linter.unusedVariables false

section
variable {H : Type} {enc : TypeId × Value → H} {P : Program} {w : World} {base : Nat} {spare : Nat → Bool} {held : Bool}
theorem open_slice_fields {t e : TypeId} {fs : Array Field} {fuel : Nat} {cs : List Value} {x : DataW H × List MemPlace} (ht : P.underlying t = some (.slice e)) (he : P.underlying e = some (.struct fs))
    (hone : oneCellFields P fs = true) (hC : P.cellsOf e = fs.size) (h : DataW.trod enc P w base spare held fuel t cs = some x) :
    (cs = [.slice none 0 0] ∧ x = (.nil, [])) ∨
    ∃ (a : Addr) (len cap m : Nat) (D : Nat → DataW H) (Pl : Nat → List MemPlace), cs = [.slice (some a) len cap] ∧ base ≤ a.block ∧ len ≤ cap ∧ cap ≤ maxLen ∧ m = (if spare a.block then cap else len) ∧
      x = (.slice ((List.range len).map D) ((List.range (m - len)).map fun j => D (len + j)), MemPlace.row a (m * fs.size) ++ (List.range m).flatMap Pl) ∧
      ∀ i, i < m → ∃ (ys : List (DataW H × List MemPlace)) (n : Nat), D i = .agg (ys.map (·.1)) ∧ Pl i = ys.flatMap (·.2) ∧ ys.length = fs.size ∧
        ∀ (j : Nat) (f : Field), fs[j]? = some f → ∃ (v : Value) (y : DataW H × List MemPlace), w.cell? (a.add (i * fs.size + j)) = some v ∧ ys[j]? = some y ∧ DataW.trod enc P w base spare held n f.type [v] = some y := by
  rcases open_slice ht h with h0 | ⟨a, len, cap, m, n, D, Pl, hcs, hb, hl, hm, hmm, hx, hi⟩
  · exact .inl h0
  · refine .inr ⟨a, len, cap, m, D, Pl, hcs, hb, hl, hm, hmm, by rw [hC] at hx; exact hx, fun i him => ?_⟩
    obtain ⟨cs', hc, ht'⟩ := hi i him
    rw [hC] at hc
    obtain ⟨ys, n', hn', hy, hlen, hyl, hf⟩ := DataW.trod_struct he ht'
    obtain ⟨_, hcl, hat⟩ := World.cells?_some hc
    simp only [Prod.mk.injEq] at hy
    refine ⟨ys, n', hy.1, hy.2, hyl, fun j f hj => ?_⟩
    obtain ⟨ho, hk⟩ := hone_of hone j f hj
    have hjl : j < fs.size := (Array.getElem?_eq_some_iff.1 hj).1
    have hcell := hat j hjl
    have hv : cs'[j]? = some (cs'[j]'(by omega)) := List.getElem?_eq_getElem (by omega)
    have h1 := hf j f hj
    rw [ho, hk] at h1
    have hone' : (cs'.drop j).take 1 = [cs'[j]'(by omega)] := by
      rw [List.drop_eq_getElem_cons (by omega)]
      rfl
    rw [hone'] at h1
    have hys : ys[j]? = some (ys[j]'(by omega)) := List.getElem?_eq_getElem (by omega)
    refine ⟨_, _, ?_, hys, h1.trans hys⟩
    rw [← Go.Deep.add_add, hcell, hv]

theorem u8_of {z : Int} (h : (Lit.int .u8 z).wf = true) : Value.int .u8 z = bv (UInt8.ofNat z.toNat) := by
  have hx : 0 ≤ z ∧ z ≤ 255 := by simpa [Lit.wf, IntKind.min, IntKind.max, IntKind.signed, IntKind.bits] using h
  have e : ((UInt8.ofNat z.toNat).toNat : Int) = z := by
    rw [UInt8.toNat_ofNat']
    omega
  rw [bv, e]

/-- A slice of bytes reads as bytes. -/
theorem bs_of_trod {t e : TypeId} {fuel : Nat} {v : Value} {x : DataW H × List MemPlace} (ht : P.underlying t = some (.slice e)) (he : P.underlying e = some (.int .u8)) (hC : P.cellsOf e = 1)
    (h : DataW.trod enc P w base spare held fuel t [v] = some x) : ∃ l : List UInt8, Bs w v l ∧ l.length ≤ maxLen := by
  rcases open_ints ht he hC h with ⟨hcs, _⟩ | ⟨a, len, cap, zs, hcs, _, hl, hm, hz, _, hcell, hwz⟩
  · injection hcs with hcs _
    subst hcs
    exact ⟨[], ⟨none, 0, rfl, by simp, rfl, fun _ => ⟨rfl, rfl⟩, (fun ad h => by cases h)⟩, by simp⟩
  · injection hcs with hcs _
    subst hcs
    have hlen : len ≤ zs.length := by rw [hz]; split <;> omega
    have hl' : ((zs.take len).map fun z => UInt8.ofNat z.toNat).length = len := by rw [List.length_map, List.length_take]; omega
    refine ⟨(zs.take len).map fun z => UInt8.ofNat z.toNat, ⟨some a, cap, by rw [hl'], by rw [hl']; exact hl, by simp, (fun h => by cases h), fun ad hA j u hj => ?_⟩, by rw [hl']; omega⟩
    cases hA
    rw [List.getElem?_map, List.getElem?_map, List.getElem?_take] at hj
    split at hj
    · rename_i hjl
      have hjz : j < zs.length := by omega
      rw [List.getElem?_eq_getElem hjz] at hj
      simp only [Option.map_some, Option.some.injEq] at hj
      have hc := hcell j hjz
      have hg : zs.getD j 0 = zs[j] := by simp [List.getD, List.getElem?_eq_getElem hjz]
      rw [hg] at hc
      rw [hc, ← hj, u8_of (hwz _ (List.getElem_mem hjz))]
    · simp at hj
end

theorem list_choose {α : Type} (n : Nat) (Q : Nat → α → Prop) (h : ∀ i, i < n → ∃ x, Q i x) : ∃ l : List α, l.length = n ∧ ∀ i x, l[i]? = some x → Q i x := by
  induction n with
  | zero => exact ⟨[], rfl, fun i x h => by simp at h⟩
  | succ n ih =>
    obtain ⟨l, hl, hq⟩ := ih (fun i hi => h i (by omega))
    obtain ⟨x, hx⟩ := h n (by omega)
    refine ⟨l ++ [x], by simp [hl], fun i y hy => ?_⟩
    by_cases hi : i < l.length
    · rw [List.getElem?_append_left hi] at hy
      exact hq i y hy
    · rw [List.getElem?_append_right (by omega)] at hy
      have : i - l.length = 0 := by
        rcases Nat.eq_zero_or_pos (i - l.length) with h0 | h0
        · exact h0
        · rw [List.getElem?_eq_none (by simp; omega)] at hy; cases hy
      rw [this] at hy
      simp at hy
      subst hy
      have : i = n := by omega
      rw [this]; exact hx

theorem spot_none {w : World} {a : Addr} {v : Value} (h : w.cell? a = some v) : a.spot = none := World.cell?_spot h

theorem bytes_of_trod {H : Type} {enc : TypeId × Value → H} {w : World} {base : Nat} {spare : Nat → Bool} {held : Bool} {fuel : Nat} {v : Value} {x : DataW H × List MemPlace}
    (h : DataW.trod enc Tryz.prog w base spare held fuel 22 [v] = some x) : ∃ l : List UInt8, Bs w v l ∧ l.length ≤ maxLen :=
  bs_of_trod Tryz.underlying22 Tryz.underlying5 (by kernel_rfl) h
end Go.Proofs.YtffdaohmalmkfaaGreat
