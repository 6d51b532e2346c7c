/-
  Packet: the weight of subscriptions.
-/
import Derived.Test.YtffdaohmalmkfaaGreatW11
import Derived.Test.YtffdaohmalmkfaaGreatW13
import Derived.Maps.Own
import Derived.Maps.OwnOps
import Derived.Maps.Views
import Derived.Maps.Keyed
import Derived.BigFrame
set_option linter.unusedSimpArgs false
set_option linter.unusedVariables false
namespace Go.Proofs.YtffdaohmalmkfaaGreat
open Go.RowKit
set_option linter.unusedVariables false

section
variable {P : Program}
theorem wpList_load_atW {ops : Array Oper} {rest : List Oper} {o : Oper} {a : Act} {w : World} {Q : Exit → Act → World → Prop} (hgd : Region.wanted o (yielded ops a.tmps) = true) (ty : TypeId) (x : Operand) (ho : o.op = .load ty x)
    (g off : Nat) (cs : List Value) (d : TypeDesc) (hx : a.eval x = .pointer (some ⟨g, off, none⟩)) (hc : CellsAt w g off cs)
    (hu : P.underlying ty = some d) (hd : (match d with | .struct _ | .array _ _ => true | _ => false) = true) (hi : (P.info? ty).map (·.size) = some cs.length)
    (h : wpList P ops Q rest (a.put o.dst (.agg cs.toArray)) w) : wpList P ops Q (o :: rest) a w := by
  refine BigFrame.wpList_want hgd fun K hK => ?_
  have hr := run_loadVar_at (P := P) w ty g off cs d hc hu hd hi
  unfold Oper.wp execOp
  simp only [ho, hx, Instr.loadAt, Instr.sureAddr, Sem.run_bind, Sem.run_pure, Result.andThen_ok, hr]
  exact hK _ _ h
end

theorem i64_wf {n : Int} (h : I64 n) : (Lit.int .i64 n).wf = true := by
  simpa [Lit.wf, IntKind.min, IntKind.max, IntKind.signed, IntKind.bits, I64] using h

/-- Block b is a set of numbers: those of ids. -/
def SeenIs (w : World) (b : Nat) (ids : List Int) : Prop :=
  ∃ D : DataW Unit, w.ownsMap Tryz.prog 3 (plainElem Tryz.prog 4) b ids.length D ∧ Maps.IsMap D ∧ ∀ id : Int, D.atKey (.int .i64 id) (.lit (.bool false)) = .lit (.bool (decide (id ∈ ids)))
theorem SeenIs.kept {w w' : World} {b : Nat} {ids : List Int} (h : SeenIs w b ids) (hk : Kept Kno w w') : SeenIs w' b ids := by
  obtain ⟨D, ⟨es, clock, hb, F, hs, hD⟩, h2, h3⟩ := h
  exact ⟨D, ⟨es, clock, (hk.block b (Array.getElem?_eq_some_iff.1 hb).1 (fun h => h)).trans hb, F, hs, hD⟩, h2, h3⟩
theorem SeenIs.new (w : World) : SeenIs (w.alloc (.map #[] 0)) w.heap.size [] :=
  ⟨.map [], World.ownsMap_made _ _ _ _, ⟨[], rfl⟩, fun id => by simp [DataW.atKey]⟩
theorem int_keys : Maps.Keyed Tryz.prog 3 := Maps.int_keyed Tryz.underlying3
theorem zero_bool (w : World) : (zeroValue 4).run Tryz.prog w = .ok (.bool false) w := by
  have h : (Tryz.prog.info? 4).map (·.zero) = some (some (.bool false)) := by kernel_rfl
  obtain ⟨i, hi, hz⟩ := Option.map_eq_some_iff.1 h
  simp [zeroValue, typeInfo, hi, hz]
theorem plainElem_bool_inv {H : Type} {P : Program} {e : TypeId} (he : P.underlying e = some .bool) {v : Value} {z : DataW H × List MemPlace} (h : plainElem P e v = some z) : ∃ x, v = .bool x ∧ z = (.lit (.bool x), []) := by
  unfold plainElem at h
  rw [he] at h
  cases v <;> simp at h
  exact ⟨_, rfl, h.symm⟩
theorem SeenIs.look {w : World} {b : Nat} {ids : List Int} (h : SeenIs w b ids) {id : Int} (hi : I64 id) :
    (Instr.lookup 128 (.map (some b)) (.int .i64 id) false).run Tryz.prog w = .ok (.bool (decide (id ∈ ids))) w := by
  obtain ⟨D, h1, h2, h3⟩ := h
  obtain ⟨v, ps, hrun, hv⟩ := h1.lookup int_keys Tryz.underlying128 (zero_bool w) (plainElem_bool Tryz.underlying4 false) (Maps.keyOf_int_mk Tryz.underlying3 (i64_wf hi))
  obtain ⟨x, rfl, hx⟩ := plainElem_bool_inv Tryz.underlying4 hv
  rw [h3] at hx
  simp only [Prod.mk.injEq, DataW.lit.injEq, Lit.bool.injEq] at hx
  rw [hrun, hx.1]

def okAt (pre : List Int) (x : Sub) : Bool := decide (1 ≤ x.id) && !(decide (x.id ∈ pre)) && wrQ x.q
def okSubs : List Int → List Sub → Bool
  | _, [] => true
  | pre, x :: xs => okAt pre x && okSubs (pre ++ [x.id]) xs
theorem okSubs_append (pre : List Int) (a b : List Sub) : okSubs pre (a ++ b) = (okSubs pre a && okSubs (pre ++ a.map Sub.id) b) := by
  induction a generalizing pre with
  | nil => simp [okSubs]
  | cons x a ih => simp only [List.cons_append, okSubs, ih, List.map_cons, List.append_assoc, List.singleton_append, Bool.and_assoc, List.nil_append]
theorem okSubs_split (xs : List Sub) (k : Nat) (x : Sub) (h : xs[k]? = some x) : okSubs [] xs = (okSubs [] (xs.take k) && (okAt ((xs.take k).map Sub.id) x && okSubs ((xs.take k).map Sub.id ++ [x.id]) (xs.drop (k + 1)))) := by
  obtain ⟨h1, h2⟩ := List.getElem?_eq_some_iff.1 h
  conv => lhs; rw [← List.take_append_drop k xs, okSubs_append, List.drop_eq_getElem_cons h1, h2]
  simp [okSubs]
theorem okSubs_fit {pre : List Int} {xs : List Sub} (h : okSubs pre xs = true) : ∀ x ∈ xs, wrQ x.q = true := by
  induction xs generalizing pre with
  | nil => intro x hx; cases hx
  | cons y xs ih =>
    intro x hx
    simp only [okSubs, okAt, Bool.and_eq_true] at h
    rcases List.mem_cons.1 hx with rfl | hx
    · exact h.1.2
    · exact ih h.2 x hx
/-- The weight of subscriptions. -/
def weightI (xs : List Sub) : Int := if xs.length ≤ 8 ∧ okSubs [] xs = true then ((encSubs xs).length : Int) else -1

def WtRel (xs : List Sub) (b : Nat) (w : World) (i : Value) (wr : World) : Prop :=
  ∃ k : Nat, k ≤ xs.length ∧ i = .int .i64 k ∧ SeenIs wr b ((xs.take k).map Sub.id) ∧ okSubs [] (xs.take k) = true ∧ Kept Kno w wr

def RetInt (n : Int) (w : World) (e : Ending) (w' : World) : Prop := e = .returned (.int .i64 n) ∧ Kept Kno w w'

set_option maxRecDepth 100000 in
set_option maxHeartbeats 8000000 in
theorem weight_any (B : Nat) (u : Value) (xs : List Sub) (w : World) (hu : SubsIn w B u xs) (hB : B ≤ w.heap.size) (hl : (encSubs xs).length ≤ 500000000000) :
    Calls Tryz.prog 16 #[u] w (RetInt (weightI xs) w) := by
  have HU := Lib.hid hu
  obtain ⟨A, cap, rfl, hcap, hmax, hlow, hat⟩ := hu
  have hmax' : cap ≤ 9223372036854775807 := by simpa only [maxLen] using hmax
  have hmm := @run_makeMap Tryz.prog
  clear hat hlow hmax
  by_cases h8 : xs.length ≤ 8
  rotate_left
  · have h8' : (8 : Int) < (xs.length : Int) := by omega
    have hx : RetInt (weightI xs) w (.returned (.int .i64 (-1))) w := ⟨by unfold weightI; rw [if_neg (fun h => h8 h.1)], Kept.refl _ _⟩
    have HX := Lib.hid hx
    clear hx h8
    go_enter Tryz.func16, Tryz.ntmps16
    go_wp2
    go_ret
    exact HX.out
  have h8' : ¬ (8 : Int) < (xs.length : Int) := by omega
  go_enter Tryz.func16, Tryz.ntmps16
  go_wp2_with fail
  go_loopw [13] (fun i wr => WtRel xs w.heap.size w i wr) (fun i _ => xs.length - (intOf i).toNat)
  case atStart => exact ⟨0, Nat.zero_le _, rfl, SeenIs.new w, rfl, (Kept.refl _ _).alloc _⟩
  case round =>
    obtain ⟨k, hk, rfl, hse, hok, hkr⟩ := hrel
    have HSE := Lib.hid hse
    have HOK := Lib.hid hok
    have HKR := Lib.hid hkr
    clear hse hok hkr hmm
    by_cases hlt : k < xs.length
    · obtain ⟨A', cap', hv', -, -, -, hcell⟩ := HU.out
      injection hv' with e1 e2 e3
      subst e1 e3
      obtain ⟨g, o, rfl, hgB, hc⟩ := hcell (by omega)
      obtain ⟨x, hx⟩ : ∃ x, xs[k]? = some x := ⟨_, List.getElem?_eq_getElem hlt⟩
      obtain ⟨x1, x2, s, hqi, hqc⟩ := hc k x hx
      have hold : Old B w wr := HKR.out.old hB (fun _ _ h => h)
      have HX1 := Lib.hid x1
      have HQC := Lib.hid (hqc.old hgB hold)
      have hqn := x.q.cells_length s
      have hqo := QIn.one hqi
      have hn23 : (subC x s).length = 23 := by simp [subC, hqn]
      have HSPL := Lib.hid (okSubs_split xs k x hx)
      have HTK : Hid ((xs.take (k + 1)).map Sub.id = (xs.take k).map Sub.id ++ [x.id]) := Lib.hid (by rw [List.take_add_one, hx]; simp)
      have HTO : Hid (okSubs [] (xs.take (k + 1)) = (okSubs [] (xs.take k) && okAt ((xs.take k).map Sub.id) x)) := Lib.hid (by rw [List.take_add_one, hx, Option.toList_some, okSubs_append]; simp [okSubs])
      have HI : Hid ((Tryz.prog.info? 62).map (·.size) = some (subC x s).length) := Lib.hid (by rw [hn23]; kernel_rfl)
      have HI2 : Hid ((Tryz.prog.info? 62).map (·.size) = some (subC x s).toArray.size) := Lib.hid (by rw [List.size_toArray, hn23]; kernel_rfl)
      have HZ : Hid ((subC x s).toArray.size = 23) := Lib.hid (by rw [List.size_toArray, hn23])
      have HO : Hid ((subC x s).toArray.all (·.oneCell') = true) := Lib.hid (by simpa [subC, Value.oneCell'] using hqo)
      have HIQ : Hid ((Tryz.prog.info? 59).map (·.size) = some (x.q.cells s).length) := Lib.hid (by rw [hqn]; kernel_rfl)
      have HQV : Hid (x.q.v s = .agg (x.q.cells s).toArray) := Lib.hid (x.q.v_cells s)
      have hk0 : (0 : Int) ≤ (k : Int) := by omega
      have hk9 : (k : Int) < (xs.length : Int) := by omega
      obtain ⟨wB, hwB⟩ : ∃ wB, wB = wr.alloc (.cells (subC x s).toArray 62) := ⟨_, rfl⟩
      have hkB : Kept Kno wr wB := by rw [hwB]; exact (Kept.refl _ _).alloc _
      have hGB : Blk wB wr.heap.size 62 (subC x s).toArray := by rw [hwB]; exact Blk.new _ _ _
      have HCQ : Hid (CellsAt wB wr.heap.size 2 (x.q.cells s)) := Lib.hid (by have := (CellsAt.blk hGB).drop 2; simpa [subC] using this)
      have c0 : wB.cell? ⟨wr.heap.size, 0, none⟩ = some (.int .i64 x.id) := hGB.cell 0
      have HGB := Lib.hid hGB
      have HSB := Lib.hid (HSE.out.kept hkB)
      have hlook := HSB.out.look x1
      have HKB := Lib.hid (HKR.out.then0 hkB)
      have HQI : Hid (QIn wB B x.q s) := Lib.hid (QIn.old (HKB.out.old hB (fun _ _ h => h)) (Nat.le_refl _) _ _ hqi)
      have hBB : B ≤ wB.heap.size := Nat.le_trans hB HKB.out.size
      have hsz : w.heap.size ≤ wr.heap.size := HKR.out.size
      have HWB := Lib.hid hwB
      rw [hwB] at c0 hlook
      clear hcell hc hx hqi hqc hqn hqo hn23 x1 x2 hwB e2 hold hkB hGB
      by_cases hid : x.id < 1
      · have hwhy : weightI xs = -1 := by
          unfold weightI
          rw [if_neg]
          rintro ⟨-, h⟩
          rw [HSPL.out] at h
          simp only [okAt, Bool.and_eq_true, decide_eq_true_eq] at h
          omega
        have hx : RetInt (weightI xs) w (.returned (.int .i64 (-1))) wB := ⟨by rw [hwhy], HKB.out⟩
        have HX := Lib.hid hx
        clear hx hwhy hlook
        go_wp2_with (first
          | (refine wpList_load_at rfl 62 (.tmp 15) rfl g (o + k * 23) (subC x s) _ rfl HQC.out Tryz.underlying62 rfl HI.out ?_)
          | (refine wpList_store_new rfl 62 (.tmp 5) (.tmp 16) rfl _ (subC x s).toArray rfl rfl HI2.out (by rw [HZ.out]; rfl) HO.out ?_))
        go_ret
        rw [← HWB.out]
        exact HX.out
      · have hid' : ¬ x.id < 1 := hid
        cases hse : decide (x.id ∈ (xs.take k).map Sub.id) with
        | true =>
          rw [hse] at hlook
          have hwhy : weightI xs = -1 := by
            unfold weightI
            rw [if_neg]
            rintro ⟨-, h⟩
            rw [HSPL.out] at h
            unfold okAt at h
            rw [hse] at h
            simp at h
          have hx : RetInt (weightI xs) w (.returned (.int .i64 (-1))) wB := ⟨by rw [hwhy], HKB.out⟩
          have HX := Lib.hid hx
          clear hx hwhy hse
          go_wp2_with (first
            | (refine wpList_load_at rfl 62 (.tmp 15) rfl g (o + k * 23) (subC x s) _ rfl HQC.out Tryz.underlying62 rfl HI.out ?_)
            | (refine wpList_store_new rfl 62 (.tmp 5) (.tmp 16) rfl _ (subC x s).toArray rfl rfl HI2.out (by rw [HZ.out]; rfl) HO.out ?_))
          go_ret
          rw [← HWB.out]
          exact HX.out
        | false =>
          rw [hse] at hlook
          have HSEF := Lib.hid hse
          clear hse
          go_wp2_with (first
            | (refine wpList_load_at rfl 62 (.tmp 15) rfl g (o + k * 23) (subC x s) _ rfl HQC.out Tryz.underlying62 rfl HI.out ?_)
            | (refine wpList_store_new rfl 62 (.tmp 5) (.tmp 16) rfl _ (subC x s).toArray rfl rfl HI2.out (by rw [HZ.out]; rfl) HO.out ?_)
            | (refine wpList_load_atW rfl 59 (.tmp 27) rfl wr.heap.size 2 (x.q.cells s) _ rfl (by rw [← HWB.out]; exact HCQ.out) Tryz.underlying59 rfl HIQ.out ?_))
          rw [← HQV.out, ← HWB.out]
          refine (writableQuery_any x.q B s wB HQI.out hBB).mono ?_
          rintro e w2 ⟨rfl, hk2⟩
          have HK2 := Lib.hid (HKB.out.then0 hk2)
          have c0' : w2.cell? ⟨wr.heap.size, 0, none⟩ = some (.int .i64 x.id) := hk2.cell_some (HGB.out.cell 0) (fun h => h)
          have HS2 := Lib.hid (HSB.out.kept hk2)
          clear hk2 hlook c0
          cases hwq : wrQ x.q with
          | false =>
            have hwhy : weightI xs = -1 := by
              unfold weightI
              rw [if_neg]
              rintro ⟨-, h⟩
              rw [HSPL.out] at h
              unfold okAt at h
              rw [hwq] at h
              simp at h
            have hx : RetInt (weightI xs) w (.returned (.int .i64 (-1))) w2 := ⟨by rw [hwhy], HK2.out⟩
            have HX := Lib.hid hx
            clear hx hwhy hwq
            go_wp2
            go_ret
            exact HX.out
          | true =>
            have HWQ := Lib.hid hwq
            clear hwq
            obtain ⟨D, hown, hmap, hatk⟩ := HS2.out
            have hkey : keyOf Tryz.prog 3 (.int .i64 x.id) = some (.int .i64 x.id) := Maps.keyOf_int_mk Tryz.underlying3 (i64_wf HX1.out)
            have HATK := Lib.hid hatk
            have HMAP := Lib.hid hmap
            have HOWN := Lib.hid hown
            have HKEY := Lib.hid hkey
            clear hown hmap hatk hkey
            go_wp2_with (at_mapUpdate; refine wpList_mapUpdate_own _ rfl _ _ _ 128 rfl 3 4 int_keys Tryz.underlying128 (plainElem Tryz.prog 4) w.heap.size _ D rfl HOWN.out (by simp only [List.length_map, List.length_take, maxLen]; omega) (.int .i64 x.id) (.bool true) (.int .i64 x.id) rfl rfl HKEY.out (.lit (.bool true)) [] (plainElem_bool Tryz.underlying4 true) ?_; intro w3 hown3 hg3)
            have HK3 : Hid (Kept Kno w w3) := Lib.hid (HK2.out.grown hg3 (fun i hi h => by simp only [Option.some.injEq] at h; omega))
            have HOWN3 := Lib.hid hown3
            clear hown3 hg3
            go_roundw
            case rel =>
              refine ⟨k + 1, by omega, by go_num, ?_, ?_, HK3.out⟩
              · rw [HTK.out]
                refine ⟨_, by rw [List.length_append]; exact HOWN3.out, Maps.IsMap.put HMAP.out _ _, fun id => ?_⟩
                by_cases he : id = x.id
                · subst he
                  rw [Maps.atKey_put_same HMAP.out (by trivial)]
                  simp
                · rw [Maps.atKey_put_other (fun h => he (by injection h)), HATK.out]
                  simp [he]
              · rw [HTO.out, HOK.out]
                have h1 := HSEF.out
                have h2 := HWQ.out
                unfold okAt
                rw [h1, h2, decide_eq_true (by omega)]
                rfl
            case measure => simp [intOf]; omega
    · have hk9 : ¬ (k : Int) < (xs.length : Int) := by omega
      have hall : okSubs [] xs = true := by have := HOK.out; rw [List.take_of_length_le (by omega)] at this; exact this
      have hwt : weightI xs = ((encSubs xs).length : Int) := by unfold weightI; rw [if_pos ⟨h8, hall⟩]
      have HWT := Lib.hid hwt
      have hfit := okSubs_fit hall
      obtain ⟨wD, hD⟩ : ∃ wD, wD = wr.alloc (.cells #[.slice none 0 0] 104) := ⟨_, rfl⟩
      have hkD : Kept Kno wr wD := by rw [hD]; exact (Kept.refl _ _).alloc _
      have hWD : Wr wD wr.heap.size (.slice none 0 0) [] := ⟨by rw [hD]; exact Blk.new _ _ _, World.ownsRow_nil _ _ _ _⟩
      have HKD := Lib.hid (HKR.out.then0 hkD)
      have HUD := Lib.hid (HU.out.old (HKD.out.old hB (fun _ _ h => h)) (Nat.le_refl _))
      have hszr : w.heap.size ≤ wr.heap.size := HKR.out.size
      have HCS := Lib.hid (wsubs_any wr.heap.size B (.slice none 0 0) _ [] xs wD hWD HUD.out (fun x hx => wrQ_fit (hfit x hx)) (by omega) (by simp; omega))
      have HWD := Lib.hid hWD
      have HDe := Lib.hid hD
      clear hall hwt hfit hkD hWD hD
      go_wp2_with fail
      rw [← HDe.out]
      refine HCS.out.mono ?_
      rintro e w2 ⟨v2, rfl, hw2, hs2⟩
      obtain ⟨Av, cv, rfl⟩ := hw2.form
      have c0 : w2.cell? ⟨wr.heap.size, 0, none⟩ = some (.slice Av ([] ++ encSubs xs).length cv) := hw2.blk.cell 0
      have hx : RetInt (weightI xs) w (.returned (.int .i64 ((encSubs xs).length : Int))) w2 := ⟨by rw [HWT.out], HKD.out.trans hs2.k (fun i hi hk => by have := HWD.out.low hk; omega)⟩
      have HX := Lib.hid hx
      rw [List.nil_append] at c0
      clear hx hw2 hs2
      go_wp2
      go_ret
      exact HX.out

end Go.Proofs.YtffdaohmalmkfaaGreat
