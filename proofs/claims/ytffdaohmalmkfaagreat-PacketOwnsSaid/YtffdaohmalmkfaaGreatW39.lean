/-
  Contracts and plain laws that the claim's theorem rests on.
-/
import Derived.Test.YtffdaohmalmkfaaGreatW38
set_option linter.unusedSimpArgs false
set_option linter.unusedVariables false
/-
  PacketOwns: the reference's KeyOf.
-/
namespace Go.Proofs.YtffdaohmalmkfaaGreat
open Go.RowKit
set_option linter.unusedVariables false

def KeyOfOk (w : World) (e : Ending) (w' : World) : Prop := ∃ xs : List Val, RowOk xs w e w' ∧ xs.length ≤ 8
set_option maxRecDepth 100000 in
set_option maxHeartbeats 3000000 in
theorem keyof_any (B : Nat) (sv ov nv : Value) (ver : Int) (ts : List Tbl) (x : Chg) (w : World) (h : SchIn w B ver ts sv) (hB : B ≤ w.heap.size) (hx : ChgOk ts x) (ho : RIn w B ov x.ox) (hn : RIn w B nv x.nx) :
    Calls Tryz.prog 129 #[sv, .agg #[.int .i64 x.tab, ov, nv]] w (KeyOfOk w) := by
  obtain ⟨j, ox, nx⟩ := x
  obtain ⟨t, ht, hfo, hfn, hne⟩ := hx
  simp only at ht hfo hfn hne ho hn ⊢
  obtain ⟨g, o, cap, st, rfl, hcap, hmax, hgB, hTI, -⟩ := id (h.tbl ht)
  obtain ⟨-, -, h8, hk1, hk2, -, -⟩ := hTI
  obtain ⟨kn, hkn⟩ : ∃ kn : Nat, t.key = kn := ⟨t.key.toNat, by omega⟩
  obtain ⟨oA, oc, rfl⟩ : ∃ A c, ov = .slice A ox.length c := SlIn.form ho
  obtain ⟨nA, nc, rfl⟩ : ∃ A c, nv = .slice A nx.length c := SlIn.form hn
  obtain ⟨w0, h0⟩ : ∃ w0, (w.alloc (.cells #[.int .i64 ver, .slice (some ⟨g, o, none⟩) ts.length cap] 82)).alloc (.cells #[.int .i64 (j : Int), .slice oA ox.length oc, .slice nA nx.length nc] 223) = w0 := ⟨_, rfl⟩
  have hk0 : Kept Kno w w0 := by rw [← h0]; exact ((Kept.refl _ _).alloc _).alloc _
  have hb4 : Blk w0 w.heap.size 82 #[.int .i64 ver, .slice (some ⟨g, o, none⟩) ts.length cap] := by rw [← h0]; exact (Blk.new _ _ _).alloc _
  have hb5 : Blk w0 (w.heap.size + 1) 223 #[.int .i64 (j : Int), .slice oA ox.length oc, .slice nA nx.length nc] := by rw [← h0]; have := Blk.new (w.alloc (.cells #[.int .i64 ver, .slice (some ⟨g, o, none⟩) ts.length cap] 82)) 223 #[.int .i64 (j : Int), .slice oA ox.length oc, .slice nA nx.length nc]; simpa using this
  have c40 : w0.cell? ⟨w.heap.size, 0, none⟩ = some (.int .i64 ver) := hb4.cell 0
  have c41 : w0.cell? ⟨w.heap.size, 0 + 1, none⟩ = some (.slice (some ⟨g, o, none⟩) ts.length cap) := hb4.cell 1
  have c50 : w0.cell? ⟨w.heap.size + 1, 0, none⟩ = some (.int .i64 (j : Int)) := hb5.cell 0
  have c51 : w0.cell? ⟨w.heap.size + 1, 1, none⟩ = some (.slice oA ox.length oc) := hb5.cell 1
  have c52 : w0.cell? ⟨w.heap.size + 1, 2, none⟩ = some (.slice nA nx.length nc) := hb5.cell 2
  have hsz := hk0.size
  have hCO : ox ≠ [] → Calls Tryz.prog 75 #[.agg #[.int .i64 ver, .slice (some ⟨g, o, none⟩) ts.length cap], .int .i64 (j : Int), .slice oA ox.length oc] w0 (RowOk (ox.take kn) w0) := fun hne => key_any B _ _ ver ts w0 (h.keep0 hB hk0) (by omega) j t ht ox (ho.keep0 hB hk0) kn hkn (by rcases hfo with e | e; exact absurd e hne; have := e.1; omega) (by rcases hfo with e | e; exact absurd e hne; have := e.1; omega)
  have hCN : nx ≠ [] → Calls Tryz.prog 75 #[.agg #[.int .i64 ver, .slice (some ⟨g, o, none⟩) ts.length cap], .int .i64 (j : Int), .slice nA nx.length nc] w0 (RowOk (nx.take kn) w0) := fun hne => key_any B _ _ ver ts w0 (h.keep0 hB hk0) (by omega) j t ht nx (hn.keep0 hB hk0) kn hkn (by rcases hfn with e | e; exact absurd e hne; have := e.1; omega) (by rcases hfn with e | e; exact absurd e hne; have := e.1; omega)
  have hl1 : ∀ l : List Val, (l.take kn).length ≤ 8 := fun l => by rw [List.length_take]; omega
  have HK0 := Lib.hid hk0
  have HL1 := Lib.hid hl1
  clear h ht hfo hfn ho hn hb4 hb5 hk0 hl1 hmax hkn h8 hk1 hk2
  go_enter Tryz.func129, Tryz.ntmps129
  go_upto_region 1 with (fail)
  clear h0
  by_cases hoe : 0 < ox.length
  · have hoI : (0 : Int) < (ox.length : Int) := by omega
    have hC := hCO (fun e => by rw [e] at hoe; simp at hoe)
    have hle := HL1.out ox
    generalize ox.take kn = l at hC hle
    have HC := Lib.hid hC
    have HLE := Lib.hid hle
    clear hC hle
    clear hCO hCN
    go_wp2_with fail
    refine HC.out.mono ?_
    rintro e w5 ⟨A5, c5, rfl, ho5, hk5⟩
    go_wp2_with fail
    go_ret
    exact ⟨_, ⟨A5, c5, rfl, own_rebase ho5 (fun k e => by have := (own_base ho5 e).1; omega), HK0.out.then0 hk5⟩, HLE.out⟩
  · have hoI : ¬ (0 : Int) < (ox.length : Int) := by omega
    have hC := hCN (by rcases hne with e | e; exact absurd (List.length_pos_iff.2 e) hoe; exact e)
    have hle := HL1.out nx
    generalize nx.take kn = l at hC hle
    have HC := Lib.hid hC
    have HLE := Lib.hid hle
    clear hC hle
    clear hCO hCN hne
    go_wp2_with fail
    refine HC.out.mono ?_
    rintro e w5 ⟨A5, c5, rfl, ho5, hk5⟩
    go_wp2_with fail
    go_ret
    exact ⟨_, ⟨A5, c5, rfl, own_rebase ho5 (fun k e => by have := (own_base ho5 e).1; omega), HK0.out.then0 hk5⟩, HLE.out⟩

end Go.Proofs.YtffdaohmalmkfaaGreat
/-
  Drawn regions that store into a cell which they load: what is held of the world falls into two: U, always; T, till operation s has come up. No program in sight.
-/
namespace Go.Proofs.YtffdaohmalmkfaaGreat
open Go.RowKit
set_option linter.unusedVariables false

section
variable {P : Program} {ops : Array Oper} {Q : Exit → Act → World → Prop} {md : Region.Mode} {s : Nat} {T U : World → Prop}

/-- Whatever comes up next: behind it U holds, and T as long as s has not come up. -/
def wpAnyT (P : Program) (md : Region.Mode) (ops : Array Oper) (Q : Exit → Act → World → Prop) (s : Nat) (T U : World → Prop) : Nat → Array Bool → Act → World → Prop
  | 0, listed, a, w => Region.ready md ops listed = [] ∧ Q .normal a w
  | fuel + 1, listed, a, w =>
    (Region.ready md ops listed = [] → Q .normal a w) ∧
    ∀ i ∈ Region.ready md ops listed, wpOp P ops Q i (fun a' w' => (U w' ∧ ((listed.setIfInBounds i true).getD s true = false → T w')) ∧ wpAnyT P md ops Q s T U fuel (listed.setIfInBounds i true) a' w') a w
theorem wpAny_of_T : ∀ (fuel : Nat) (listed : Array Bool) (a : Act) (w : World), wpAnyT P md ops Q s T U fuel listed a w → wpAny P md ops Q fuel listed a w
  | 0, _, _, _, h => h
  | fuel + 1, _, _, _, h => ⟨h.1, fun i hi => wpOp_mono (fun a' w' h' => wpAny_of_T fuel _ a' w' h'.2) (h.2 i hi)⟩

/-- Operation s waits for operation i. -/
def Waits (md : Region.Mode) (ops : Array Oper) (s i : Nat) : Prop := ∃ o, ops[s]? = some o ∧ ∃ e ∈ o.after, Region.binds md e = true ∧ e.on = i
def waitsB (md : Region.Mode) (ops : Array Oper) (s i : Nat) : Bool := match ops[s]? with
  | some o => o.after.any (fun e => Region.binds md e && e.on == i)
  | none => false
theorem waits_of {i : Nat} (h : waitsB md ops s i = true) : Waits md ops s i := by
  unfold waitsB at h
  cases ho : ops[s]? with
  | none => rw [ho] at h; cases h
  | some o =>
    rw [ho] at h
    simp only [Array.any_eq_true, Bool.and_eq_true, beq_iff_eq] at h
    obtain ⟨n, hn, h1, h2⟩ := h
    exact ⟨o, ho, o.after[n], Array.getElem_mem hn, h1, h2⟩

theorem wpAnyT_first {i : Nat} {oi : Oper} {v : Value} {V : World → Prop} (hi : ops[i]? = some oi) (hsel : ∀ (j : Nat) (o : Oper) cs b, ops[j]? = some o → o.op ≠ .select cs b)
    (hQ : ∀ c a w, Q (.panic c) (a.put oi.dst v) w → Q (.panic c) a w) (his : i ≠ s) (hUT : ∀ w, U w → T w → V w) (hw : (∀ w, U w → V w) ∨ Waits md ops s i) :
    ∀ (fuel : Nat) (listed : Array Bool) (a : Act) (w : World),
      (∀ j oj, ops[j]? = some oj → j ≠ i → listed.getD j true = false → (∀ e ∈ oj.after, Region.binds md e = true → e.on ≠ i) → oi.apart ops oj = true) →
      i ∈ Region.ready md ops listed → ((∀ w, U w → V w) ∨ listed.getD s true = false) → YieldsIf P ops V oi v a → U w → (listed.getD s true = false → T w) →
      wpAnyT P md ops Q s T U fuel (listed.setIfInBounds i true) (a.put oi.dst v) w → wpAnyT P md ops Q s T U (fuel + 1) listed a w := by
  intro fuel
  induction fuel with
  | zero =>
    intro listed a w _ hr hl hy hU hT H
    have hV : V w := hl.elim (fun h => h w hU) (fun h => hUT w hU (hT h))
    refine ⟨fun h => (by rw [h] at hr; cases hr), fun j hj => ?_⟩
    by_cases hji : j = i
    · subst hji
      exact hy.wpOp hi hV ⟨⟨hU, fun h => hT (by rw [getD_set_ne true his] at h; exact h)⟩, H⟩
    · have := ready_mono hj hji
      rw [H.1] at this
      cases this
  | succ fuel ih =>
    intro listed a w hfree hr hl hy hU hT H
    have hV : V w := hl.elim (fun h => h w hU) (fun h => hUT w hU (hT h))
    refine ⟨fun h => (by rw [h] at hr; cases hr), fun j hj => ?_⟩
    by_cases hji : j = i
    · subst hji
      exact hy.wpOp hi hV ⟨⟨hU, fun h => hT (by rw [getD_set_ne true his] at h; exact h)⟩, H⟩
    · have h1 := H.2 j (ready_mono hj hji)
      obtain ⟨hjun, oj, hoj, hall⟩ := mem_ready.1 hj
      have hnot : ∀ e ∈ oj.after, Region.binds md e = true → e.on ≠ i := fun e he hb heq => by
        have h1 := hall e he hb
        have h0 := (mem_ready.1 hr).1
        rw [heq] at h1
        rcases Nat.lt_or_ge i listed.size with h' | h'
        · simp [h'] at h0 h1; rw [h0] at h1; cases h1
        · simp [Array.getElem?_eq_none h'] at h1
      have hl' : (∀ w, U w → V w) ∨ (listed.setIfInBounds j true).getD s true = false := by
        rcases hw with hw | ⟨os, hos, e, he, hb, heq⟩
        · exact .inl hw
        · rcases hl with hl | hl
          · exact .inl hl
          · have hjs : j ≠ s := by
              rintro rfl
              rw [hoj] at hos
              cases hos
              exact hnot e he hb heq
            exact .inr (by rw [getD_set_ne true hjs]; exact hl)
      have h2 := wpOp_putIf hoj (hfree j oj hoj hji hjun hnot) (fun cs b => hsel i oi cs b hi) (fun cs b => hsel j oj cs b hoj) hQ hy h1
      have hfree' : ∀ k ok, ops[k]? = some ok → k ≠ i → (listed.setIfInBounds j true).getD k true = false →
          (∀ e ∈ ok.after, Region.binds md e = true → e.on ≠ i) → oi.apart ops ok = true := fun k ok hk hki hun hno => by
        refine hfree k ok hk hki ?_ hno
        by_cases hjk : j = k
        · subst hjk; exact hjun
        · rw [getD_set_ne true hjk] at hun; exact hun
      refine wpOp_mono (fun a' w' h3 => ?_) h2
      have hT' : (listed.setIfInBounds j true).getD s true = false → T w' := fun h => h3.2.1.2 (by rw [Array.setIfInBounds_comm _ _ (Ne.symm hji), getD_set_ne true his]; exact h)
      refine ⟨⟨h3.2.1.1, hT'⟩, ih (listed.setIfInBounds j true) a' w' hfree' (ready_mono hr (Ne.symm hji)) hl' h3.1 h3.2.1.1 hT' ?_⟩
      rw [Array.setIfInBounds_comm _ _ hji]
      exact h3.2.2

/-- Take number i first, out of what always holds. -/
theorem wpAnyT_take {i d : Nat} {oi : Oper} {v : Value} {fuel : Nat} {listed : Array Bool} {tm : Array Value} {df : List Deferred} {w : World} (hi : ops[i]? = some oi) (hd : oi.dst = some d)
    (hs : Region.noSelect ops = true) (hf : Region.free md ops listed i = true) (hr : (Region.ready md ops listed).contains i = true) (his : i ≠ s)
    (hQ : ∀ c a w, Q (.panic c) (a.put oi.dst v) w → Q (.panic c) a w) (hy : YieldsIf P ops U oi v ⟨tm, df⟩) (hS : U w ∧ (listed.getD s true = false → T w))
    (h : wpAnyT P md ops Q s T U fuel (listed.setIfInBounds i true) ⟨tm.setIfInBounds d v, df⟩ w) : wpAnyT P md ops Q s T U (fuel + 1) listed ⟨tm, df⟩ w :=
  wpAnyT_first (V := U) hi (Region.noSelect_spec hs) hQ his (fun _ h _ => h) (.inl fun _ h => h) fuel listed ⟨tm, df⟩ w (Region.free_spec hi hf) (by simpa using hr) (.inl fun _ h => h) hy hS.1 hS.2 (by rw [hd]; exact h)
/-- The same, out of what holds till s has come up: s waits for i. -/
theorem wpAnyT_takeT {i d : Nat} {oi : Oper} {v : Value} {fuel : Nat} {listed : Array Bool} {tm : Array Value} {df : List Deferred} {w : World} (hi : ops[i]? = some oi) (hd : oi.dst = some d)
    (hs : Region.noSelect ops = true) (hf : Region.free md ops listed i = true) (hr : (Region.ready md ops listed).contains i = true) (his : i ≠ s) (hwt : waitsB md ops s i = true) (hl : listed.getD s true = false)
    (hQ : ∀ c a w, Q (.panic c) (a.put oi.dst v) w → Q (.panic c) a w) (hy : YieldsIf P ops (fun w => U w ∧ T w) oi v ⟨tm, df⟩) (hS : U w ∧ (listed.getD s true = false → T w))
    (h : wpAnyT P md ops Q s T U fuel (listed.setIfInBounds i true) ⟨tm.setIfInBounds d v, df⟩ w) : wpAnyT P md ops Q s T U (fuel + 1) listed ⟨tm, df⟩ w :=
  wpAnyT_first (V := fun w => U w ∧ T w) hi (Region.noSelect_spec hs) hQ his (fun _ h h' => ⟨h, h'⟩) (.inr (waits_of hwt)) fuel listed ⟨tm, df⟩ w (Region.free_spec hi hf) (by simpa using hr) (.inr hl) hy hS.1 hS.2 (by rw [hd]; exact h)

/-- Each of rs comes up next. -/
def AllReadyT (P : Program) (md : Region.Mode) (ops : Array Oper) (Q : Exit → Act → World → Prop) (s : Nat) (T U : World → Prop) (fuel : Nat) (listed : Array Bool) (a : Act) (w : World) (rs : List Nat) : Prop :=
  ∀ i ∈ rs, wpOp P ops Q i (fun a' w' => (U w' ∧ ((listed.setIfInBounds i true).getD s true = false → T w')) ∧ wpAnyT P md ops Q s T U fuel (listed.setIfInBounds i true) a' w') a w
theorem AllReadyT.nil {fuel : Nat} {listed : Array Bool} {a : Act} {w : World} : AllReadyT P md ops Q s T U fuel listed a w [] := fun _ h => by cases h
theorem AllReadyT.cons {fuel : Nat} {listed : Array Bool} {a : Act} {w : World} {i : Nat} {o : Oper} {rs : List Nat} (ho : ops[i]? = some o)
    (h : ∀ K' : Act → World → Prop, Shut (∀ a w, (U w ∧ ((listed.setIfInBounds i true).getD s true = false → T w)) → ((U w ∧ ((listed.setIfInBounds i true).getD s true = false → T w)) → wpAnyT P md ops Q s T U fuel (listed.setIfInBounds i true) a w) → K' a w) → if Region.wanted o (yielded ops a.tmps) = true then Oper.wp P o a w K' Q else K' (a.put o.dst undef) w)
    (hs : AllReadyT P md ops Q s T U fuel listed a w rs) : AllReadyT P md ops Q s T U fuel listed a w (i :: rs) := fun j hj => by
  rcases List.mem_cons.1 hj with rfl | hj
  · exact wpOp_step ho (fun K' hK => h K' (fun a w hS hW => hK a w ⟨hS, hW hS⟩))
  · exact hs j hj
theorem wpAnyT_ready {rs : List Nat} {fuel : Nat} {listed : Array Bool} {a : Act} {w : World} (hr : Region.ready md ops listed = rs) (hne : rs ≠ [])
    (h : AllReadyT P md ops Q s T U fuel listed a w rs) : wpAnyT P md ops Q s T U (fuel + 1) listed a w := ⟨fun h0 => absurd (hr ▸ h0) hne, hr ▸ h⟩
theorem wpAnyT_done {listed : Array Bool} {a : Act} {w : World} (hr : Region.ready md ops listed = []) (h : Q .normal a w) : ∀ fuel, wpAnyT P md ops Q s T U fuel listed a w
  | 0 => ⟨hr, h⟩
  | _ + 1 => ⟨fun _ => h, by rw [hr]; simp⟩
theorem wp_region_T {id : Nat} {a : Act} {w : World} (s : Nat) (T U : World → Prop) (hm : P.follows .mixedOrders = true) (hU : U w.drew) (hT : T w.drew)
    (h : (U w.drew ∧ ((Array.replicate ops.size false).getD s true = false → T w.drew)) → wpAnyT P .any ops Q s T U ops.size (Array.replicate ops.size false) a w.drew) : (Code.region id ops true).wp P Q a w :=
  wp_region_any hm (wpAny_of_T _ _ _ _ (h ⟨hU, fun _ => hT⟩))
end

end Go.Proofs.YtffdaohmalmkfaaGreat
/-
  Two values compared with '!=' inside a drawn region.
-/
namespace Go.Proofs.YtffdaohmalmkfaaGreat
open Go.RowKit
set_option linter.unusedVariables false

def valNe (v u : Val) : Bool := !(v.kind == u.kind && v.n == u.n && v.s.toList == u.s.toList)
theorem val_neq (v u : Val) (w : World) : (binOp .neq 49 (.agg #[.int .i64 v.kind, .int .i64 v.n, .string v.s]) (.agg #[.int .i64 u.kind, .int .i64 u.n, .string u.s])).run Tryz.prog w = .ok (.bool (valNe v u)) w := by
  obtain ⟨vk, vn, vs⟩ := v
  obtain ⟨uk, un, us⟩ := u
  simp only [valNe]
  cases h1 : (vk == uk) with
  | false => go_simp
  | true =>
    cases h2 : (vn == un) with
    | false => go_simp
    | true =>
      cases h3 : (vs.toList == us.toList) with
      | false => go_simp
      | true => go_simp
theorem val_guard (v u : Val) (x y : Operand) (w : World) : (eqGuard .neq 49 x y (.agg #[.int .i64 v.kind, .int .i64 v.n, .string v.s]) (.agg #[.int .i64 u.kind, .int .i64 u.n, .string u.s])).run Tryz.prog w = .ok () w := run_eqGuard_agg w _ _ x y _ _ (by kernel_rfl)
theorem yieldsIf_neq {ops : Array Oper} {S : World → Prop} {op : Oper} {a : Act} (hw : Region.wanted op (yielded ops a.tmps) = true) (x y : Operand) {t : TypeId} (ho : op.op = .binOp .neq 49 x y t) (v u : Val) (hx : a.eval x = .agg (vCells v).toArray) (hy : a.eval y = .agg (vCells u).toArray) : YieldsIf Tryz.prog ops S op (.bool (valNe v u)) a :=
  .inl ⟨hw, fun w _ => by
    have h1 := val_neq v u w
    have h2 := val_guard v u x y w
    unfold execOp
    simp only [ho, hx, hy, vCells, Sem.run_bind, Sem.run_pure, Result.andThen_ok, h1, h2]⟩

end Go.Proofs.YtffdaohmalmkfaaGreat
