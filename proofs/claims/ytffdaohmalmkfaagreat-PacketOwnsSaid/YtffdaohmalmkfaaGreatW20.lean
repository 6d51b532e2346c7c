/-
  Contracts and plain laws that the claim's theorem rests on.
-/
import Derived.Test.YtffdaohmalmkfaaGreatW19
set_option linter.unusedSimpArgs false
set_option linter.unusedVariables false
/-
  PacketOwns: the case's operand. (Printed by gen_pakoc.py.)
-/
namespace Go.Proofs.YtffdaohmalmkfaaGreat
open Go.RowKit
set_option linter.unusedVariables false

def oCells (o : Opnd) : List Value := [.int .i64 o.kind, .int .i64 o.idx, .int .i64 o.val.kind, .int .i64 o.val.n, .string o.val.s]
def OwnO (w : World) (base : Nat) (v : Value) (os : List Opnd) : Prop := w.ownsRow base 51 5 v os.length (os.flatMap oCells)
theorem oCells_get (os : List Opnd) (i m : Nat) (c : Opnd) (h : os[i]? = some c) (hm : m < 5) : (os.flatMap oCells)[i * 5 + m]? = (oCells c)[m]? := by
  induction os generalizing i with
  | nil => simp at h
  | cons d cs ih =>
    simp only [List.flatMap_cons]
    cases i with
    | zero =>
      simp at h; subst h
      rw [List.getElem?_append_left (by simp [oCells]; omega), Nat.zero_mul, Nat.zero_add]
    | succ i =>
      rw [List.getElem?_append_right (by simp [oCells]; omega)]
      have := ih i (by simpa using h)
      rw [show (i + 1) * 5 + m - (oCells d).length = i * 5 + m by simp [oCells]; omega]
      exact this
theorem OwnO.at_ {w : World} {base g n cap : Nat} {os : List Opnd} {i : Nat} {c : Opnd} (h : OwnO w base (.slice (some ⟨g, 0, none⟩) n cap) os) (hn : n = os.length) (hi : os[i]? = some c) : CellsAt w g (i * 5) (oCells c) := fun j u hj => by
  subst hn
  have hj5 : j < 5 := by
    obtain ⟨h1, -⟩ := List.getElem?_eq_some_iff.1 hj
    simpa [oCells] using h1
  have h2 := oCells_get os i j c hi hj5
  rw [hj] at h2
  have := World.ownsRow.cells h (g := g) rfl (i * 5 + j) u h2
  rwa [add_lit0, Nat.zero_add] at this
theorem info_opnd : (Tryz.prog.info? 51).map (fun i => (i.zero, i.size, i.bytes)) = some (some (.agg #[.int .i64 0, .int .i64 0, .int .i64 0, .int .i64 0, .string ⟨#[]⟩]), 5, 48) := by kernel_rfl

def OpRel (w0 : World) (R pre n : Nat) (l i : Value) (wr : World) : Prop :=
  ∃ (j : Nat) (A : Option Addr) (cap : Nat) (os : List Opnd), j ≤ n ∧ i = .int .i64 j ∧ l = .slice A os.length cap ∧ OwnO wr (R + 1) (.slice A os.length cap) os ∧ os.length ≤ pre + j ∧ (∀ o ∈ os, okOpnd o) ∧
    Blk wr R 51 #[.int .i64 0, .int .i64 0, .int .i64 0, .int .i64 0, .string ⟨#[]⟩] ∧ Kept Kno w0 wr
def OpndOk (K : Nat) (v : Value) (l : List UInt8) (w : World) (e : Ending) (w' : World) : Prop := ∃ o : Opnd, okOpnd o ∧ e = .returned o.v ∧ Goes K v l w w'
theorem Goes.setRow {K R a : Nat} {v : Value} {l : List UInt8} {w w4 : World} (h : CaseIs w K v l a) (hg : Goes K v l w w4) (hR : w.heap.size ≤ R) (cs : Array Value) : Goes K v l w (w4.setRow R cs) := by
  obtain ⟨⟨a4, c4⟩, hk⟩ := hg
  have hk' : Kept (Kone K) w (w4.setRow R cs) := hk.setRow (fun h => absurd h (by omega)) cs
  exact ⟨⟨a4, h.kept hk' ((setRow_other _ _ _ _ (by have := h.blk.lt; omega)).trans c4.blk)⟩, hk'⟩
theorem ok_idx (k : Int) (j : Nat) (hk : 0 ≤ k) (hk2 : k ≤ 10) (hj : j ≤ 1000000) : okOpnd ⟨k, j, ⟨0, 0, ⟨#[]⟩⟩⟩ :=
  ⟨⟨by show (-9223372036854775808 : Int) ≤ k; omega, by show k ≤ 9223372036854775807; omega⟩, ⟨by show (-9223372036854775808 : Int) ≤ (j : Int); omega, by show (j : Int) ≤ 9223372036854775807; omega⟩, ⟨by show (-9223372036854775808 : Int) ≤ 0; decide, by show (0 : Int) ≤ 9223372036854775807; decide⟩, ⟨by show (-9223372036854775808 : Int) ≤ 0; decide, by show (0 : Int) ≤ 9223372036854775807; decide, empty_size⟩⟩

theorem kind_range {kind n : Int} {t : ByteArray} (h : validB kind n t = true) : 1 ≤ kind ∧ kind ≤ 5 := by
  by_cases h1 : kind = 1
  · omega
  by_cases h2 : kind = 2
  · omega
  by_cases h3 : kind = 3
  · omega
  by_cases h4 : kind = 4
  · omega
  by_cases h5 : kind = 5
  · omega
  simp [validB, h1, h2, h3, h4, h5] at h
theorem ok_val {x : Val} (h : ValOk x) : okOpnd ⟨3, 0, x⟩ := by
  have hk := kind_range h.1
  exact ⟨⟨by show (-9223372036854775808 : Int) ≤ 3; decide, by show (3 : Int) ≤ 9223372036854775807; decide⟩, ⟨by show (-9223372036854775808 : Int) ≤ 0; decide, by show (0 : Int) ≤ 9223372036854775807; decide⟩, ⟨by show (-9223372036854775808 : Int) ≤ x.kind; omega, by show x.kind ≤ 9223372036854775807; omega⟩, h.2⟩

set_option maxRecDepth 100000 in
set_option maxHeartbeats 4000000 in
theorem coperand_any (K a : Nat) (v : Value) (l : List UInt8) (us vs : Value) (ks ps : List Int) (kind : Int) (B : Nat) (w : World) (h : CaseIs w K v l a) (hu : SlIn w B 1 us ks.length (ks.map iv)) (hv : SlIn w B 1 vs ps.length (ps.map iv)) (hB : B ≤ w.heap.size)
    (hk : ks.length ≤ 1000) (hp : ps.length ≤ 1000) (h3 : 3 ≤ kind) (h5 : kind ≤ 5) :
    Calls Tryz.prog 209 #[.pointer (some ⟨K, 0, none⟩), us, vs, .int .i64 kind] w (OpndOk K v l w) := by
  obtain ⟨i0, hi, hz0, hz1, hz2⟩ := info_parts info_opnd
  obtain ⟨UA, ucap, rfl, hucap, humax, -, -, -, hua⟩ := hu
  obtain ⟨VA, vcap, rfl, hvcap, hvmax, -, -, -, hva⟩ := hv
  have H := Lib.hid h
  have HUA := Lib.hid hua
  have HVA := Lib.hid hva
  have hKlt := h.blk.lt
  have humax' : ucap ≤ 9223372036854775807 := by simpa only [maxLen] using humax
  have hvmax' : vcap ≤ 9223372036854775807 := by simpa only [maxLen] using hvmax
  have hkI : (ks.length : Int) ≤ 1000 := by omega
  have hpI : (ps.length : Int) ≤ 1000 := by omega
  clear h hua hva humax hvmax
  go_enter Tryz.func209, Tryz.ntmps209
  go_upto_region 1 with (fail)
  obtain ⟨w0, h0⟩ : ∃ w0, w.alloc (.cells #[.int .i64 0, .int .i64 0, .int .i64 0, .int .i64 0, .string ⟨#[]⟩] 51) = w0 := ⟨_, rfl⟩
  rw [h0]
  have HR0 : Hid (Blk w0 w.heap.size 51 #[.int .i64 0, .int .i64 0, .int .i64 0, .int .i64 0, .string ⟨#[]⟩]) := Lib.hid (by rw [← h0]; exact Blk.new _ _ _)
  have HK0 : Hid (Kept Kno w w0) := Lib.hid (by rw [← h0]; exact (Kept.refl _ _).alloc _)
  have HS0 : Hid (w0.heap.size = w.heap.size + 1) := Lib.hid (by rw [← h0]; exact size_alloc' _ _)
  clear h0
  go_wp2_with fail
  go_loopw [9, 17] (fun x i wr => OpRel w w.heap.size 0 ks.length x i wr) (fun _ i _ => ks.length - (intOf i).toNat)
  case atStart => exact ⟨0, none, 0, [], Nat.zero_le _, rfl, rfl, World.ownsRow_nil _ _ _ _, Nat.le_refl _, by simp, HR0.out, HK0.out⟩
  case round =>
    obtain ⟨j, A, cap, os, hj, rfl, rfl, how, hlen, hall, hr, hkk⟩ := hrel
    have HOW := Lib.hid how
    have HALL := Lib.hid hall
    have HR := Lib.hid hr
    have HKK := Lib.hid hkk
    have hj0 : (0 : Int) ≤ (j : Int) := by omega
    have hRne : (Value.slice A os.length cap).ownBlock ≠ some w.heap.size := fun he => by have := (own_base how he).1; omega
    clear how hall hr hkk
    by_cases hlt : j < ks.length
    · obtain ⟨g, off, rfl, hgB, hc⟩ := HUA.out (by omega)
      have hltI : (j : Int) < (ks.length : Int) := by omega
      obtain ⟨q, hq⟩ : ∃ q, ks[j]? = some q := ⟨_, List.getElem?_eq_getElem hlt⟩
      have cq0 : wr.cell? ⟨g, off + j, none⟩ = some (.int .i64 q) := (hc.old hgB (HKK.out.old hB (fun _ _ h => h))) j _ (by rw [List.getElem?_map, hq]; rfl)
      clear hc hq
      have m1 : os.length + 1 ≤ maxLen := by simp only [maxLen]; omega
      by_cases hqk : q = kind
      · subst hqk
        go_wp2_with (at_builtin; go_must (refine wpList_append_rd _ rfl _ _ 319 rfl (w.heap.size + 1) 51 i0 _ 5 48 Tryz.underlying319 hi hz0 hz1 hz2 rfl (by decide) (.slice A os.length cap) os.length (os.flatMap oCells) rfl (World.ownsRow.alloc HOW.out _) _ 1 [.int .i64 1, .int .i64 (j : Int), .int .i64 0, .int .i64 0, .string ⟨#[]⟩] rfl (Rd.one _ _ _ rfl) (by simp [Value.oneCell']) m1 (by omega) (by simp; have := HKK.out.size; omega) ?_); intro A2 c2 w3 hown2 hg2 hat2)
        have hr3 : Blk w3 w.heap.size 51 #[.int .i64 0, .int .i64 0, .int .i64 0, .int .i64 0, .string ⟨#[]⟩] := (HR.out.alloc _).grown hg2 (fun e => hRne e.symm)
        have hk3 : Kept Kno w w3 := (HKK.out.alloc _).grown hg2 (fun k hk e => by have := (own_base HOW.out e).1; omega)
        refine ⟨⟨j + 1, A2, c2, os ++ [⟨1, j, ⟨0, 0, ⟨#[]⟩⟩⟩], hlt, by go_num, by simp, ?_, by simp; omega, ?_, hr3, hk3⟩, ?_⟩
        · unfold OwnO
          rw [List.length_append, List.flatMap_append]
          simp only [List.flatMap_cons, List.flatMap_nil, List.append_nil, oCells]
          exact hown2
        · intro y hy
          rcases List.mem_append.1 hy with h | h
          · exact HALL.out y h
          · simp only [List.mem_singleton] at h
            subst h
            exact ok_idx 1 j (by decide) (by decide) (by omega)
        · simp [intOf]
          omega
      · go_wp2
        refine ⟨⟨j + 1, A, cap, os, hlt, by go_num, rfl, HOW.out, by omega, HALL.out, HR.out, HKK.out⟩, ?_⟩
        simp [intOf]
        omega
    · have hltI : ¬ (j : Int) < (ks.length : Int) := by omega
      go_wp2_with fail
      go_loopw [9, 33] (fun x i wr => OpRel w w.heap.size ks.length ps.length x i wr) (fun _ i _ => ps.length - (intOf i).toNat)
      case atStart => exact ⟨0, A, cap, os, Nat.zero_le _, rfl, rfl, HOW.out, by omega, HALL.out, HR.out, HKK.out⟩
      case round =>
        obtain ⟨j, A, cap, os, hj, rfl, rfl, how, hlen, hall, hr, hkk⟩ := hrel
        have HOW := Lib.hid how
        have HALL := Lib.hid hall
        have HR := Lib.hid hr
        have HKK := Lib.hid hkk
        have hj0 : (0 : Int) ≤ (j : Int) := by omega
        have hRne : (Value.slice A os.length cap).ownBlock ≠ some w.heap.size := fun he => by have := (own_base how he).1; omega
        clear how hall hr hkk
        by_cases hlt : j < ps.length
        · obtain ⟨g, off, rfl, hgB, hc⟩ := HVA.out (by omega)
          have hltI : (j : Int) < (ps.length : Int) := by omega
          obtain ⟨q, hq⟩ : ∃ q, ps[j]? = some q := ⟨_, List.getElem?_eq_getElem hlt⟩
          have cq0 : wr.cell? ⟨g, off + j, none⟩ = some (.int .i64 q) := (hc.old hgB (HKK.out.old hB (fun _ _ h => h))) j _ (by rw [List.getElem?_map, hq]; rfl)
          clear hc hq
          have m1 : os.length + 1 ≤ maxLen := by simp only [maxLen]; omega
          by_cases hqk : q = kind
          · subst hqk
            go_wp2_with (at_builtin; go_must (refine wpList_append_rd _ rfl _ _ 319 rfl (w.heap.size + 1) 51 i0 _ 5 48 Tryz.underlying319 hi hz0 hz1 hz2 rfl (by decide) (.slice A os.length cap) os.length (os.flatMap oCells) rfl (World.ownsRow.alloc HOW.out _) _ 1 [.int .i64 2, .int .i64 (j : Int), .int .i64 0, .int .i64 0, .string ⟨#[]⟩] rfl (Rd.one _ _ _ rfl) (by simp [Value.oneCell']) m1 (by omega) (by simp; have := HKK.out.size; omega) ?_); intro A2 c2 w3 hown2 hg2 hat2)
            have hr3 : Blk w3 w.heap.size 51 #[.int .i64 0, .int .i64 0, .int .i64 0, .int .i64 0, .string ⟨#[]⟩] := (HR.out.alloc _).grown hg2 (fun e => hRne e.symm)
            have hk3 : Kept Kno w w3 := (HKK.out.alloc _).grown hg2 (fun k hk e => by have := (own_base HOW.out e).1; omega)
            refine ⟨⟨j + 1, A2, c2, os ++ [⟨2, j, ⟨0, 0, ⟨#[]⟩⟩⟩], hlt, by go_num, by simp, ?_, by simp; omega, ?_, hr3, hk3⟩, ?_⟩
            · unfold OwnO
              rw [List.length_append, List.flatMap_append]
              simp only [List.flatMap_cons, List.flatMap_nil, List.append_nil, oCells]
              exact hown2
            · intro y hy
              rcases List.mem_append.1 hy with h | h
              · exact HALL.out y h
              · simp only [List.mem_singleton] at h
                subst h
                exact ok_idx 2 j (by decide) (by decide) (by omega)
            · simp [intOf]
              omega
          · go_wp2
            refine ⟨⟨j + 1, A, cap, os, hlt, by go_num, rfl, HOW.out, by omega, HALL.out, HR.out, HKK.out⟩, ?_⟩
            simp [intOf]
            omega
        · have hltI : ¬ (j : Int) < (ps.length : Int) := by omega
          have hos : os.length ≤ 2000 := by omega
          have HC := Lib.hid (H.out.kept0 HKK.out)
          have HIN := Lib.hid (int_any K a (os.length + 1) v l wr HC.out (by omega) (by omega))
          have hosI : (os.length : Int) ≤ 2000 := by omega
          go_wp2_with fail
          refine HIN.out.mono ?_
          rintro e w4 ⟨m, hm, rfl, hg⟩
          have hKne : (Value.slice A os.length cap).ownBlock ≠ some K := fun he => by have := (own_base HOW.out he).1; omega
          have HO4 : Hid (OwnO w4 (w.heap.size + 1) (.slice A os.length cap) os) := Lib.hid (own_kept HOW.out hg.2 (fun k hk e => by unfold Kone at e; subst e; exact hKne hk))
          have HR4 := Lib.hid (HR.out.kept hg.2 (fun e => by unfold Kone at e; omega))
          have HG4 : Hid (Goes K v l w w4) := Lib.hid (hg.before0 HKK.out)
          clear hg HIN
          by_cases hml : m < os.length
          · have hmI : (m : Int) < (os.length : Int) := by omega
            have hm0 : (0 : Int) ≤ (m : Int) := by omega
            obtain ⟨g, rfl⟩ : ∃ g, A = some ⟨g, 0, none⟩ := by
              rcases HO4.out.2 with ⟨he, h0⟩ | ⟨g, cap', cur, he, -⟩
              · omega
              · simp only [Value.slice.injEq] at he
                exact ⟨g, he.1⟩
            obtain ⟨c, hc⟩ : ∃ c, os[m]? = some c := ⟨_, List.getElem?_eq_getElem hml⟩
            have HCA := Lib.hid (OwnO.at_ HO4.out rfl hc)
            have HOK := Lib.hid (HALL.out c (List.mem_of_getElem? hc))
            clear hc
            go_wp2_with (first
              | (refine wpList_load_at rfl 51 (.tmp 58) rfl g (m * 5) (oCells c) _ rfl HCA.out Tryz.underlying51 rfl (by kernel_rfl) ?_)
              | (refine wpList_store_row rfl 51 (.tmp 8) (.tmp 59) rfl w.heap.size (oCells c).toArray rfl rfl 51 _ HR4.out (by kernel_rfl) rfl (by simp [oCells, Value.oneCell']) ?_))
            refine bodyPost_ret (v := .agg (oCells c).toArray) ?_ rfl ⟨c, HOK.out, rfl, Goes.setRow H.out HG4.out (Nat.le_refl _) _⟩
            exact results_cell_row rfl _ _ w.heap.size 51 _ (0, 0) _ rfl (HR4.out.setRow _) Tryz.underlying51 rfl (by kernel_rfl)
          · have hmI : ¬ (m : Int) < (os.length : Int) := by omega
            obtain ⟨a4, hc4⟩ := HG4.out.1
            have HV := Lib.hid (valueK_any K a4 kind v l w4 hc4 h3 h5)
            clear hc4
            go_wp2_with fail
            refine HV.out.mono ?_
            rintro e w5 ⟨x, hx, hxk, rfl, hg5⟩
            obtain ⟨xk, xn, xs⟩ := x
            have HR5 := Lib.hid (HR4.out.kept hg5.2 (fun e => by unfold Kone at e; omega))
            have HG5 : Hid (Goes K v l w w5) := Lib.hid (Goes.trans HG4.out.2 hg5)
            have HX := Lib.hid hx
            clear hg5 hx hxk HV
            simp only [Val.v]
            go_wp2_with (refine wpList_store_row rfl 51 (.tmp 8) (.tmp 63) rfl w.heap.size (oCells ⟨3, 0, ⟨xk, xn, xs⟩⟩).toArray rfl rfl 51 _ HR5.out (by kernel_rfl) rfl (by simp [oCells, Value.oneCell']) ?_)
            refine bodyPost_ret (v := .agg (oCells ⟨3, 0, ⟨xk, xn, xs⟩⟩).toArray) ?_ rfl ⟨⟨3, 0, ⟨xk, xn, xs⟩⟩, ok_val HX.out, rfl, Goes.setRow H.out HG5.out (Nat.le_refl _) _⟩
            exact results_cell_row rfl _ _ w.heap.size 51 _ (0, 0) _ rfl (HR5.out.setRow _) Tryz.underlying51 rfl (by kernel_rfl)

end Go.Proofs.YtffdaohmalmkfaaGreat
/-
  PacketOwns: the reference's checks of predicates return: ColumnKind, ColumnKinds, nodes, deeper. (Printed by gen_pakoe.py.)
-/
namespace Go.Proofs.YtffdaohmalmkfaaGreat
open Go.RowKit
set_option linter.unusedVariables false

def RetAny (w : World) (e : Ending) (w' : World) : Prop := ∃ b : Bool, e = .returned (.bool b) ∧ Kept Kno w w'
def IRel (n : Nat) (w : World) (i : Value) (wr : World) : Prop := ∃ k : Nat, k ≤ n ∧ i = .int .i64 k ∧ Kept Kno w wr

set_option maxHeartbeats 1000000 in
theorem ckind_any (k : Int) (w : World) : Calls Tryz.prog 256 #[.int .i64 k] w (RetAny w) := by
  have HX : Hid (∀ b, RetAny w (.returned (.bool b)) w) := Lib.hid (fun b => ⟨b, rfl, Kept.refl _ _⟩)
  by_cases h3 : k = 3
  · subst h3
    go_enter Tryz.func256, Tryz.ntmps256
    go_wp2
    go_ret
    exact HX.out _
  · by_cases h4 : k = 4
    · subst h4
      go_enter Tryz.func256, Tryz.ntmps256
      go_wp2
      go_ret
      exact HX.out _
    · go_enter Tryz.func256, Tryz.ntmps256
      go_wp2
      go_ret
      exact HX.out _

set_option maxHeartbeats 2000000 in
theorem ckinds_any (us : Value) (ks : List Int) (B : Nat) (w : World) (hu : SlIn w B 1 us ks.length (ks.map iv)) (hB : B ≤ w.heap.size) :
    Calls Tryz.prog 210 #[us] w (RetAny w) := by
  obtain ⟨UA, ucap, rfl, hucap, humax, -, -, -, hua⟩ := hu
  have HUA := Lib.hid hua
  have humax' : ucap ≤ 9223372036854775807 := by simpa only [maxLen] using humax
  clear hua humax
  go_enter Tryz.func210, Tryz.ntmps210
  go_wp2_with fail
  go_loopw [7] (fun i wr => IRel ks.length w i wr) (fun i _ => ks.length - (intOf i).toNat)
  case atStart => exact ⟨0, Nat.zero_le _, rfl, Kept.refl _ _⟩
  case round =>
    obtain ⟨k, hk, rfl, hkk⟩ := hrel
    have HKK := Lib.hid hkk
    clear hkk
    by_cases hlt : k < ks.length
    · obtain ⟨g, off, rfl, hgB, hc⟩ := HUA.out (by omega)
      have hltI : (k : Int) < (ks.length : Int) := by omega
      have hk0 : (0 : Int) ≤ (k : Int) := by omega
      obtain ⟨q, hq⟩ : ∃ q, ks[k]? = some q := ⟨_, List.getElem?_eq_getElem hlt⟩
      have cq0 : wr.cell? ⟨g, off + k, none⟩ = some (.int .i64 q) := (hc.old hgB (HKK.out.old hB (fun _ _ h => h))) k _ (by rw [List.getElem?_map, hq]; rfl)
      clear hc hq
      go_wp2_with fail
      refine (ckind_any q wr).mono ?_
      rintro e w2 ⟨b, rfl, hk2⟩
      have HK2 := Lib.hid (HKK.out.then0 hk2)
      clear hk2
      cases b with
      | false =>
        have HX : Hid (RetAny w (.returned (.bool false)) w2) := Lib.hid ⟨_, rfl, HK2.out⟩
        go_wp2
        go_ret
        exact HX.out
      | true =>
        go_wp2
        refine ⟨⟨k + 1, hlt, by go_num, HK2.out⟩, ?_⟩
        simp [intOf]
        omega
    · have hltI : ¬ (k : Int) < (ks.length : Int) := by omega
      have HX : Hid (RetAny w (.returned (.bool true)) wr) := Lib.hid ⟨_, rfl, HKK.out⟩
      go_wp2
      go_ret
      exact HX.out

def RetNd (n : Nat) (w : World) (e : Ending) (w' : World) : Prop := ∃ m : Nat, n < m ∧ m ≤ 25 ∧ e = .returned (.int .i64 m) ∧ Kept Kno w w'
def NdRel (n len : Nat) (w0 : World) (t i : Value) (wr : World) : Prop := ∃ (k m : Nat), k ≤ len ∧ i = .int .i64 k ∧ t = .int .i64 m ∧ n < m ∧ m ≤ 25 ∧ Kept Kno w0 wr
set_option maxRecDepth 100000 in
set_option maxHeartbeats 8000000 in
theorem cnodes_n (N : Nat) : ∀ (p : Prd), sizeP p ≤ N → ∀ (n B : Nat) (s : Value) (w : World), PIn w B p s → B ≤ w.heap.size → n ≤ 24 →
    Calls Tryz.prog 211 #[p.v s, .int .i64 n] w (RetNd n w) := by
  induction N with
  | zero => intro p hp; have := sizeP_pos p; omega
  | succ N IH =>
    intro p hsz n B s w hp hB hn
    obtain ⟨op, cmp, lo, ro, args⟩ := p
    simp only [sizeP] at hsz
    simp only [PIn] at hp
    obtain ⟨p1, p2, p3, p4, A, cap, rfl, hcap, hmax, -, hlow, hat⟩ := hp
    have HAT := Lib.hid hat
    have hmax' : cap ≤ 9223372036854775807 := by simpa only [maxLen] using hmax
    have HIH : Hid (∀ (p : Prd), p ∈ args → ∀ (n B : Nat) (s : Value) (w : World), PIn w B p s → B ≤ w.heap.size → n ≤ 24 → Calls Tryz.prog 211 #[p.v s, .int .i64 n] w (RetNd n w)) := Lib.hid (by
      intro p hpm
      have := sizePs_mem hpm
      exact IH p (by omega))
    obtain ⟨lk, li, ⟨la, lb, lc⟩⟩ := lo
    obtain ⟨rk, ri, ⟨ra, rb, rc⟩⟩ := ro
    have hTv : (Prd.mk op cmp ⟨lk, li, ⟨la, lb, lc⟩⟩ ⟨rk, ri, ⟨ra, rb, rc⟩⟩ args).v (.slice A args.length cap) = .agg #[.int .i64 op, .int .i64 cmp, .int .i64 lk, .int .i64 li, .int .i64 la, .int .i64 lb, .string lc, .int .i64 rk, .int .i64 ri, .int .i64 ra, .int .i64 rb, .string rc, .slice A args.length cap] := rfl
    rw [hTv]
    obtain ⟨wA, hA⟩ : ∃ wA, wA = w.alloc (.cells #[.int .i64 op, .int .i64 cmp, .int .i64 lk, .int .i64 li, .int .i64 la, .int .i64 lb, .string lc, .int .i64 rk, .int .i64 ri, .int .i64 ra, .int .i64 rb, .string rc, .slice A args.length cap] 54) := ⟨_, rfl⟩
    have HGA : Hid (Blk wA w.heap.size 54 #[.int .i64 op, .int .i64 cmp, .int .i64 lk, .int .i64 li, .int .i64 la, .int .i64 lb, .string lc, .int .i64 rk, .int .i64 ri, .int .i64 ra, .int .i64 rb, .string rc, .slice A args.length cap]) := Lib.hid (by rw [hA]; exact Blk.new _ _ _)
    have HKA : Hid (Kept Kno w wA) := Lib.hid (by rw [hA]; exact (Kept.refl _ _).alloc _)
    have HKA0 : Hid (∀ w', Kept Kno wA w' → Kept Kno w w') := Lib.hid (fun w' h => HKA.out.then0 h)
    have HAe := Lib.hid hA
    have hBA : B ≤ wA.heap.size := Nat.le_trans hB HKA.out.size
    clear IH p1 p2 p3 p4 hat hlow hmax hsz hA hTv
    go_enter Tryz.func211, Tryz.ntmps211
    go_upto_region 1 with (fail)
    rw [← HAe.out]
    have hnI : (n : Int) ≤ 24 := by omega
    have hn0 : (0 : Int) ≤ (n : Int) := by omega
    go_wp2_with fail
    go_loopw [1, 5] (fun t i wr => NdRel n args.length wA t i wr) (fun _ i _ => args.length - (intOf i).toNat)
    case atStart => exact ⟨0, n + 1, Nat.zero_le _, rfl, by go_num, by omega, by omega, Kept.refl _ _⟩
    case round =>
      obtain ⟨k, m, hk, rfl, rfl, hm1, hm2, hkk⟩ := hrel
      have HKA2 := Lib.hid hkk
      have HKK := Lib.hid (HKA.out.then0 hkk)
      have hm0 : (0 : Int) ≤ (m : Int) := by omega
      have hm3 : (m : Int) ≤ 25 := by omega
      have HX : Hid (RetNd n w (.returned (.int .i64 m)) wr) := Lib.hid ⟨m, hm1, hm2, rfl, HKK.out⟩
      have HGR : Hid (Blk wr w.heap.size 54 #[.int .i64 op, .int .i64 cmp, .int .i64 lk, .int .i64 li, .int .i64 la, .int .i64 lb, .string lc, .int .i64 rk, .int .i64 ri, .int .i64 ra, .int .i64 rb, .string rc, .slice A args.length cap]) := Lib.hid (HGA.out.kept HKA2.out (fun h => h))
      have c12 : wr.cell? ⟨w.heap.size, 12, none⟩ = some (.slice A args.length cap) := HGR.out.cell 12
      clear hkk
      by_cases hlt : k < args.length
      · by_cases hm24 : m ≤ 24
        · have hm24I : (m : Int) ≤ 24 := by omega
          obtain ⟨g, o, rfl, hgB, hc⟩ := HAT.out (by omega)
          have hold : Old B w wr := HKK.out.old (by omega) (fun _ _ h => h)
          obtain ⟨q, hq⟩ : ∃ q, args[k]? = some q := ⟨_, List.getElem?_eq_getElem hlt⟩
          obtain ⟨sq, hqi, hqc⟩ := hc.get hq
          have HQC := Lib.hid (hqc.old hgB hold)
          have HI : Hid ((Tryz.prog.info? 54).map (·.size) = some (q.cells sq).length) := Lib.hid (by rw [q.cells_length sq]; kernel_rfl)
          have HQV : Hid (q.v sq = .agg (q.cells sq).toArray) := Lib.hid (q.v_cells sq)
          have HBR : B ≤ wr.heap.size := Nat.le_trans hB HKK.out.size
          have HCC := Lib.hid (HIH.out q (List.mem_of_getElem? hq) m B sq wr (PIn.old hold (Nat.le_refl _) _ _ hqi) HBR hm24)
          clear hqc hqi hq hold hc
          have hk0 : (0 : Int) ≤ (k : Int) := by omega
          have hk9 : (k : Int) < (args.length : Int) := by omega
          go_wp2_with (refine wpList_load_at rfl 54 (.tmp 22) rfl g (o + k * 13) (q.cells sq) _ rfl HQC.out Tryz.underlying54 rfl HI.out ?_)
          rw [← HQV.out]
          refine HCC.out.mono ?_
          rintro e w6 ⟨m2, h1, h2, rfl, hk6⟩
          have HK6 := Lib.hid (HKA2.out.then0 hk6)
          clear hk6
          go_wp2
          refine ⟨⟨k + 1, m2, hlt, by go_num, rfl, by omega, h2, HK6.out⟩, ?_⟩
          simp [intOf]
          omega
        · have hm24I : ¬ (m : Int) ≤ 24 := by omega
          have hkI : (k : Int) < (args.length : Int) := by omega
          go_wp2
          go_ret
          exact HX.out
      · have hkI : ¬ (k : Int) < (args.length : Int) := by omega
        go_wp2
        go_ret
        exact HX.out

set_option maxRecDepth 100000 in
set_option maxHeartbeats 8000000 in
theorem cdeeper_n (N : Nat) : ∀ (p : Prd), sizeP p ≤ N → ∀ (n B : Nat) (s : Value) (w : World), PIn w B p s → B ≤ w.heap.size → n ≤ 100 →
    Calls Tryz.prog 212 #[p.v s, .int .i64 n] w (RetAny w) := by
  induction N with
  | zero => intro p hp; have := sizeP_pos p; omega
  | succ N IH =>
    intro p hsz n B s w hp hB hn
    obtain ⟨op, cmp, lo, ro, args⟩ := p
    simp only [sizeP] at hsz
    simp only [PIn] at hp
    obtain ⟨p1, p2, p3, p4, A, cap, rfl, hcap, hmax, -, hlow, hat⟩ := hp
    have HAT := Lib.hid hat
    have hmax' : cap ≤ 9223372036854775807 := by simpa only [maxLen] using hmax
    have HIH : Hid (∀ (p : Prd), p ∈ args → ∀ (n B : Nat) (s : Value) (w : World), PIn w B p s → B ≤ w.heap.size → n ≤ 100 → Calls Tryz.prog 212 #[p.v s, .int .i64 n] w (RetAny w)) := Lib.hid (by
      intro p hpm
      have := sizePs_mem hpm
      exact IH p (by omega))
    obtain ⟨lk, li, ⟨la, lb, lc⟩⟩ := lo
    obtain ⟨rk, ri, ⟨ra, rb, rc⟩⟩ := ro
    have hTv : (Prd.mk op cmp ⟨lk, li, ⟨la, lb, lc⟩⟩ ⟨rk, ri, ⟨ra, rb, rc⟩⟩ args).v (.slice A args.length cap) = .agg #[.int .i64 op, .int .i64 cmp, .int .i64 lk, .int .i64 li, .int .i64 la, .int .i64 lb, .string lc, .int .i64 rk, .int .i64 ri, .int .i64 ra, .int .i64 rb, .string rc, .slice A args.length cap] := rfl
    rw [hTv]
    obtain ⟨wA, hA⟩ : ∃ wA, wA = w.alloc (.cells #[.int .i64 op, .int .i64 cmp, .int .i64 lk, .int .i64 li, .int .i64 la, .int .i64 lb, .string lc, .int .i64 rk, .int .i64 ri, .int .i64 ra, .int .i64 rb, .string rc, .slice A args.length cap] 54) := ⟨_, rfl⟩
    have HGA : Hid (Blk wA w.heap.size 54 #[.int .i64 op, .int .i64 cmp, .int .i64 lk, .int .i64 li, .int .i64 la, .int .i64 lb, .string lc, .int .i64 rk, .int .i64 ri, .int .i64 ra, .int .i64 rb, .string rc, .slice A args.length cap]) := Lib.hid (by rw [hA]; exact Blk.new _ _ _)
    have HKA : Hid (Kept Kno w wA) := Lib.hid (by rw [hA]; exact (Kept.refl _ _).alloc _)
    have HKA0 : Hid (∀ w', Kept Kno wA w' → Kept Kno w w') := Lib.hid (fun w' h => HKA.out.then0 h)
    have HAe := Lib.hid hA
    have hBA : B ≤ wA.heap.size := Nat.le_trans hB HKA.out.size
    clear IH p1 p2 p3 p4 hat hlow hmax hsz hA hTv
    go_enter Tryz.func212, Tryz.ntmps212
    go_upto_region 1 with (fail)
    rw [← HAe.out]
    have hn0 : (0 : Int) ≤ (n : Int) := by omega
    have hnI : (n : Int) ≤ 100 := by omega
    by_cases hz : n = 0
    · subst hz
      have HX : Hid (RetAny w (.returned (.bool true)) wA) := Lib.hid ⟨_, rfl, HKA.out⟩
      go_wp2
      go_ret
      exact HX.out
    have hzI : ¬ (n : Int) = 0 := by omega
    have hzb : ((n : Int) == 0) = false := by simp; omega
    have c12 : wA.cell? ⟨w.heap.size, 12, none⟩ = some (.slice A args.length cap) := HGA.out.cell 12
    go_wp2_with fail
    clear c12
    go_loopw [11] (fun i wr => IRel args.length wA i wr) (fun i _ => args.length - (intOf i).toNat)
    case atStart => exact ⟨0, Nat.zero_le _, rfl, Kept.refl _ _⟩
    case round =>
      obtain ⟨k, hk, rfl, hkk⟩ := hrel
      have HKA2 := Lib.hid hkk
      have HKK := Lib.hid (HKA.out.then0 hkk)
      have c12 : wr.cell? ⟨w.heap.size, 12, none⟩ = some (.slice A args.length cap) := (HGA.out.kept HKA2.out (fun h => h)).cell 12
      clear hkk
      by_cases hlt : k < args.length
      · have hn1 : ((n - 1 : Nat) : Int) = (n : Int) - 1 := by omega
        obtain ⟨g, o, rfl, hgB, hc⟩ := HAT.out (by omega)
        have hold : Old B w wr := HKK.out.old (by omega) (fun _ _ h => h)
        obtain ⟨q, hq⟩ : ∃ q, args[k]? = some q := ⟨_, List.getElem?_eq_getElem hlt⟩
        obtain ⟨sq, hqi, hqc⟩ := hc.get hq
        have HQC := Lib.hid (hqc.old hgB hold)
        have HI : Hid ((Tryz.prog.info? 54).map (·.size) = some (q.cells sq).length) := Lib.hid (by rw [q.cells_length sq]; kernel_rfl)
        have HQV : Hid (q.v sq = .agg (q.cells sq).toArray) := Lib.hid (q.v_cells sq)
        have HBR : B ≤ wr.heap.size := Nat.le_trans hB HKK.out.size
        have HCC := Lib.hid (HIH.out q (List.mem_of_getElem? hq) (n - 1) B sq wr (PIn.old hold (Nat.le_refl _) _ _ hqi) HBR (by omega))
        clear hqc hqi hq hold hc
        have hk0 : (0 : Int) ≤ (k : Int) := by omega
        have hk9 : (k : Int) < (args.length : Int) := by omega
        rw [hn1] at HCC
        go_wp2_with (refine wpList_load_at rfl 54 (.tmp 17) rfl g (o + k * 13) (q.cells sq) _ rfl HQC.out Tryz.underlying54 rfl HI.out ?_)
        rw [← HQV.out]
        refine HCC.out.mono ?_
        rintro e w6 ⟨b, rfl, hk6⟩
        have HK6 := Lib.hid (HKA2.out.then0 hk6)
        clear hk6
        cases b with
        | true =>
          have HX : Hid (RetAny w (.returned (.bool true)) w6) := Lib.hid ⟨_, rfl, HKA0.out _ HK6.out⟩
          go_wp2
          go_ret
          exact HX.out
        | false =>
          go_wp2
          go_roundw
          case rel => exact ⟨k + 1, hlt, by go_num, HK6.out⟩
          case measure => simp [intOf]; omega
      · have hkI : ¬ (k : Int) < (args.length : Int) := by omega
        have HX : Hid (RetAny w (.returned (.bool false)) wr) := Lib.hid ⟨_, rfl, HKK.out⟩
        go_wp2
        go_ret
        exact HX.out

end Go.Proofs.YtffdaohmalmkfaaGreat
