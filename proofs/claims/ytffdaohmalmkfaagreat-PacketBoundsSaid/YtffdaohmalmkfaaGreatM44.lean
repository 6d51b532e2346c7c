/-
  Contracts and plain laws that the claim's theorem rests on, some texts in one file.
-/
import Derived.Test.YtffdaohmalmkfaaGreatM43
import Derived.Laws.MakeOwn
/-
  Packet: begun. (Printed by gen_pakv.py.)
-/
namespace Go.Proofs.YtffdaohmalmkfaaGreat
open Go.RowKit
set_option linter.unusedVariables false

set_option maxHeartbeats 400000 in
theorem equal_any (v u : Value) (l m : List UInt8) (w : World) (hv : Bs w v l) (hu : Bs w u m) :
    Calls Tryz.prog 13 #[v, u] w fun e w' => e = .returned (.bool (decide (l = m))) ∧ w = w' := by
  have t1 := run_string_bs (P := Tryz.prog) 22 9 5 hv Tryz.underlying22 Tryz.underlying5 Tryz.underlying9
  have t2 := run_string_bs (P := Tryz.prog) 22 9 5 hu Tryz.underlying22 Tryz.underlying5 Tryz.underlying9
  clear hv hu
  by_cases h : l = m
  · subst h
    go_enter Tryz.func13, Tryz.ntmps13
    go_wp2
    go_ret
    exact ⟨by simp, rfl⟩
  · have e2 : decide (l = m) = false := by simp [h]
    rw [e2]
    have H := Lib.hid h
    clear e2
    go_enter Tryz.func13, Tryz.ntmps13
    go_wp2
    go_ret
    refine ⟨?_, rfl⟩
    have := H.out
    simp [this]

def bytes0 : List UInt8 := [2, 2, 0, 2, 4, 0, 1, 0]
def syn0 : Syn := ⟨0, 1, 2, [], -1, []⟩
theorem enc_syn0 : encSync 1 syn0 = bytes0 := by kernel_rfl
theorem ok_syn0 : (wB 1 1 8 && syncB syn0) = true := by kernel_rfl
theorem sync_lit : syncC 1 syn0 (.slice none 0 0) (.slice none 0 0) = #[.int .i64 1, .int .i64 1, .int .i64 0, .int .i64 1, .int .i64 2, .slice none 0 0, .int .i64 (-1), .slice none 0 0, .int .i64 0, .int .i64 0, .slice none 0 0, .int .i64 0, .int .i64 0, .int .i64 0, .slice none 0 0, .int .i64 0, .int .i64 0, .int .i64 0, .slice none 0 0, .bool false, .slice none 0 0, .int .i64 0, .int .i64 0, .int .i64 0, .slice none 0 0, .int .i64 0, .int .i64 0, .int .i64 0, .int .i64 0, .int .i64 0, .slice none 0 0] := rfl

def sets0 : List (Nat × Value) := [(1, .int .i64 1), (2, .int .i64 0), (3, .int .i64 1), (4, .int .i64 2), (5, .slice none 0 0), (6, .int .i64 (-1)), (7, .slice none 0 0)]
def cell0 (k : Nat) : Array Value := (sets0.take k).foldl (fun a p => a.setIfInBounds p.1 p.2) (zeroC.setIfInBounds 0 (.int .i64 1))
theorem cell0_7 : cell0 7 = #[.int .i64 1, .int .i64 1, .int .i64 0, .int .i64 1, .int .i64 2, .slice none 0 0, .int .i64 (-1), .slice none 0 0, .int .i64 0, .int .i64 0, .slice none 0 0, .int .i64 0, .int .i64 0, .int .i64 0, .slice none 0 0, .int .i64 0, .int .i64 0, .int .i64 0, .slice none 0 0, .bool false, .slice none 0 0, .int .i64 0, .int .i64 0, .int .i64 0, .slice none 0 0, .int .i64 0, .int .i64 0, .int .i64 0, .int .i64 0, .int .i64 0, .slice none 0 0] := by kernel_rfl

set_option maxRecDepth 100000 in
theorem ent_num2 : Ent 150 := fun args w => by go_simp
set_option maxRecDepth 100000 in
theorem ent_subs2 : Ent 152 := fun args w => by go_simp

section
variable {w2 : World} {R M base : Nat} {v : Value} {l : List UInt8} {p : Value × Value} {cs : Array Value}
theorem bs_keep (hb : Bs w2 v l) (hv : ∀ k, v.ownBlock = some k → k ≠ R ∧ k ≠ M) {w' : World} (hk : Kept (KRM R M) w2 w') : Bs w' v l := Rd.kept hb hk (fun k h1 h2 => by have := hv k h1; unfold KRM at h2; omega)
theorem fdr_num {k off n N kk : Nat} {x : Value} (h : FdIn w2 base (fdNum k) p) (hR : R < base) (hM : M < base) (hRM : R ≠ M) (hb : Bs w2 v l) (hv : ∀ k, v.ownBlock = some k → k ≠ R ∧ k ≠ M) (hof : OfIs k off) (hc : cs[off]? = some x) (hl : l.length ≤ 1000000) (hn : n ≤ l.length) (hx : uintAt l n = .ok (N, kk)) :
    FdRd w2 R M v p.2 n cs (n + kk) (cs.setIfInBounds off (.int .i64 (unzz N))) := by
  obtain ⟨X, h1, rfl, h3⟩ := h
  refine ⟨150, #[.pointer (some ⟨X, 0, none⟩)], rfl, ent_num2, fun w' hk hr hm => ?_⟩
  exact rfNum R M X k off n N kk x cs v l w' hof (hk.cell_some (h3.cell 0) (fun h => by unfold KRM at h; simp only at h; omega)) hr hm hRM hc (bs_keep hb hv hk) hl hn hx
theorem fdr_subs0 {k off n kk : Nat} {x : Value} (h : FdIn w2 base (fdSubs k) p) (hR : R < base) (hM : M < base) (hRM : R ≠ M) (hb : Bs w2 v l) (hv : ∀ k, v.ownBlock = some k → k ≠ R ∧ k ≠ M) (hof : OfIs k off) (hc : cs[off]? = some x) (hl : l.length ≤ 1000000) (hn : n + kk ≤ l.length) (hx : uintAt l n = .ok (0, kk)) :
    FdRd w2 R M v p.2 n cs (n + kk) (cs.setIfInBounds off (.slice none 0 0)) := by
  obtain ⟨X, h1, rfl, h3⟩ := h
  refine ⟨152, #[.pointer (some ⟨X, 0, none⟩)], rfl, ent_subs2, fun w' hk hr hm => ?_⟩
  exact rfSubs0 R M X k off n kk x cs v l w' hof (hk.cell_some (h3.cell 0) (fun h => by unfold KRM at h; simp only at h; omega)) hr hm hRM hc (bs_keep hb hv hk) hl hn hx
end

theorem decode0 (v : Value) (w : World) (hb : Bs w v bytes0) : Calls Tryz.prog 11 #[v] w fun e w' => e = .returned (.tuple #[.agg #[.int .i64 1, .int .i64 1, .int .i64 0, .int .i64 1, .int .i64 2, .slice none 0 0, .int .i64 (-1), .slice none 0 0, .int .i64 0, .int .i64 0, .slice none 0 0, .int .i64 0, .int .i64 0, .int .i64 0, .slice none 0 0, .int .i64 0, .int .i64 0, .int .i64 0, .slice none 0 0, .bool false, .slice none 0 0, .int .i64 0, .int .i64 0, .int .i64 0, .slice none 0 0, .int .i64 0, .int .i64 0, .int .i64 0, .int .i64 0, .int .i64 0, .slice none 0 0], .int .i64 0]) ∧ Kept Kno w w' := by
  have h := decode_ok 1 v bytes0 syncFs 2 (fun k => k + 1) cell0 w hb (by decide) (by kernel_rfl) (by kernel_rfl) rfl (by decide) (by decide) fields_1 ?_ (by decide) (by kernel_rfl) (by kernel_rfl) (by kernel_rfl) (by kernel_rfl) ?_
  · have e : cell0 syncFs.length = #[.int .i64 1, .int .i64 1, .int .i64 0, .int .i64 1, .int .i64 2, .slice none 0 0, .int .i64 (-1), .slice none 0 0, .int .i64 0, .int .i64 0, .slice none 0 0, .int .i64 0, .int .i64 0, .int .i64 0, .slice none 0 0, .int .i64 0, .int .i64 0, .int .i64 0, .slice none 0 0, .bool false, .slice none 0 0, .int .i64 0, .int .i64 0, .int .i64 0, .slice none 0 0, .int .i64 0, .int .i64 0, .int .i64 0, .int .i64 0, .int .i64 0, .slice none 0 0] := cell0_7
    rw [e] at h
    exact h
  · intro w2 R M base hR hM hRM hb2 hv i f p hf hfi
    match i, hf with
    | 0, hf => simp only [syncFs, List.getElem?_cons_succ, List.getElem?_cons_zero, Option.some.injEq] at hf; subst hf; exact fdr_num (N := 2) (kk := 1) hfi hR hM hRM hb2 hv of_fields_1 (cs := cell0 0) (x := .int .i64 0) (by kernel_rfl) (by decide) (by decide) (by kernel_rfl)
    | 1, hf => simp only [syncFs, List.getElem?_cons_succ, List.getElem?_cons_zero, Option.some.injEq] at hf; subst hf; exact fdr_num (N := 0) (kk := 1) hfi hR hM hRM hb2 hv of_fields_2 (cs := cell0 1) (x := .int .i64 0) (by kernel_rfl) (by decide) (by decide) (by kernel_rfl)
    | 2, hf => simp only [syncFs, List.getElem?_cons_succ, List.getElem?_cons_zero, Option.some.injEq] at hf; subst hf; exact fdr_num (N := 2) (kk := 1) hfi hR hM hRM hb2 hv of_fields_3 (cs := cell0 2) (x := .int .i64 0) (by kernel_rfl) (by decide) (by decide) (by kernel_rfl)
    | 3, hf => simp only [syncFs, List.getElem?_cons_succ, List.getElem?_cons_zero, Option.some.injEq] at hf; subst hf; exact fdr_num (N := 4) (kk := 1) hfi hR hM hRM hb2 hv of_fields_4 (cs := cell0 3) (x := .int .i64 0) (by kernel_rfl) (by decide) (by decide) (by kernel_rfl)
    | 4, hf => simp only [syncFs, List.getElem?_cons_succ, List.getElem?_cons_zero, Option.some.injEq] at hf; subst hf; exact fdr_subs0 (kk := 1) hfi hR hM hRM hb2 hv of_fields_5 (cs := cell0 4) (x := .slice none 0 0) (by kernel_rfl) (by decide) (by decide) (by kernel_rfl)
    | 5, hf => simp only [syncFs, List.getElem?_cons_succ, List.getElem?_cons_zero, Option.some.injEq] at hf; subst hf; exact fdr_num (N := 1) (kk := 1) hfi hR hM hRM hb2 hv of_fields_6 (cs := cell0 5) (x := .int .i64 0) (by kernel_rfl) (by decide) (by decide) (by kernel_rfl)
    | 6, hf => simp only [syncFs, List.getElem?_cons_succ, List.getElem?_cons_zero, Option.some.injEq] at hf; subst hf; exact fdr_subs0 (kk := 1) hfi hR hM hRM hb2 hv of_fields_7 (cs := cell0 6) (x := .slice none 0 0) (by kernel_rfl) (by decide) (by decide) (by kernel_rfl)
    | j + 7, hf => simp [syncFs] at hf
  · intro w' hk'
    have h2 := valid_sync 1 syn0 (.slice none 0 0) (.slice none 0 0) 0 w' (SubsIn.nil _ _) (SubsIn.nil _ _) (Nat.zero_le _) (by decide) (by decide)
    rw [ok_syn0, sync_lit] at h2
    have e : cell0 syncFs.length = #[.int .i64 1, .int .i64 1, .int .i64 0, .int .i64 1, .int .i64 2, .slice none 0 0, .int .i64 (-1), .slice none 0 0, .int .i64 0, .int .i64 0, .slice none 0 0, .int .i64 0, .int .i64 0, .int .i64 0, .slice none 0 0, .int .i64 0, .int .i64 0, .int .i64 0, .slice none 0 0, .bool false, .slice none 0 0, .int .i64 0, .int .i64 0, .int .i64 0, .slice none 0 0, .int .i64 0, .int .i64 0, .int .i64 0, .int .i64 0, .int .i64 0, .slice none 0 0] := cell0_7
    rw [e]
    exact h2

theorem encode0 (w : World) : Calls Tryz.prog 9 #[.agg #[.int .i64 1, .int .i64 1, .int .i64 0, .int .i64 1, .int .i64 2, .slice none 0 0, .int .i64 (-1), .slice none 0 0, .int .i64 0, .int .i64 0, .slice none 0 0, .int .i64 0, .int .i64 0, .int .i64 0, .slice none 0 0, .int .i64 0, .int .i64 0, .int .i64 0, .slice none 0 0, .bool false, .slice none 0 0, .int .i64 0, .int .i64 0, .int .i64 0, .slice none 0 0, .int .i64 0, .int .i64 0, .int .i64 0, .int .i64 0, .int .i64 0, .slice none 0 0]] w fun e w' => ∃ A cap, e = .returned (.tuple #[.slice A 8 cap, .int .i64 0]) ∧ Bs w' (.slice A 8 cap) bytes0 ∧ Kept Kno w w' := by
  have h := encode_sync 1 syn0 (.slice none 0 0) (.slice none 0 0) w (SubsIn.nil _ _) (SubsIn.nil _ _) (by decide) (by decide) ok_syn0
  rw [enc_syn0, sync_lit] at h
  refine h.mono ?_
  rintro e w' ⟨hk, h2⟩
  rw [if_pos (by decide)] at h2
  obtain ⟨A, cap, h3, h4⟩ := h2
  exact ⟨A, cap, h3, OwnB.bs h4, hk⟩

set_option maxRecDepth 100000 in
set_option maxHeartbeats 4000000 in
theorem begun_any (w : World) : Calls Tryz.prog 10 #[] w (RetBool true w) := by
  go_enter Tryz.func10, Tryz.ntmps10
  go_wp2_with fail
  refine (encode0 w).mono ?_
  rintro e w1 ⟨A1, cap1, rfl, hb1, hk1⟩
  have HB1 := Lib.hid hb1
  have HK1 := Lib.hid hk1
  clear hb1 hk1
  go_wp2_with fail
  have hlit := bs_lit w1 bytes0 (0, 0) 5
  refine (decode0 _ _ hlit).mono ?_
  rintro e w2 ⟨rfl, hk2⟩
  have HB2 := Lib.hid (Rd.kept0 (HB1.out) (((Kept.refl _ _).alloc _).then0 hk2))
  have HK2 := Lib.hid ((HK1.out.alloc _).then0 hk2)
  clear hlit hk2 HB1 HK1
  go_wp2_with (refine wpList_store_new rfl 36 (.tmp 3) (.tmp 13) rfl _ #[.int .i64 1, .int .i64 1, .int .i64 0, .int .i64 1, .int .i64 2, .slice none 0 0, .int .i64 (-1), .slice none 0 0, .int .i64 0, .int .i64 0, .slice none 0 0, .int .i64 0, .int .i64 0, .int .i64 0, .slice none 0 0, .int .i64 0, .int .i64 0, .int .i64 0, .slice none 0 0, .bool false, .slice none 0 0, .int .i64 0, .int .i64 0, .int .i64 0, .slice none 0 0, .int .i64 0, .int .i64 0, .int .i64 0, .int .i64 0, .int .i64 0, .slice none 0 0] rfl rfl (by kernel_rfl) rfl (by kernel_rfl) ?_)
  obtain ⟨w3, h3⟩ : ∃ w3, w3 = (w2.alloc (.cells #[.int .i64 1, .int .i64 1, .int .i64 0, .int .i64 1, .int .i64 2, .slice none 0 0, .int .i64 (-1), .slice none 0 0, .int .i64 0, .int .i64 0, .slice none 0 0, .int .i64 0, .int .i64 0, .int .i64 0, .slice none 0 0, .int .i64 0, .int .i64 0, .int .i64 0, .slice none 0 0, .bool false, .slice none 0 0, .int .i64 0, .int .i64 0, .int .i64 0, .slice none 0 0, .int .i64 0, .int .i64 0, .int .i64 0, .int .i64 0, .int .i64 0, .slice none 0 0] 36)).alloc (.cells #[.int .u8 2, .int .u8 2, .int .u8 0, .int .u8 2, .int .u8 4, .int .u8 0, .int .u8 1, .int .u8 0] 5) := ⟨_, rfl⟩
  rw [← h3]
  have hG : Blk w3 w2.heap.size 36 #[.int .i64 1, .int .i64 1, .int .i64 0, .int .i64 1, .int .i64 2, .slice none 0 0, .int .i64 (-1), .slice none 0 0, .int .i64 0, .int .i64 0, .slice none 0 0, .int .i64 0, .int .i64 0, .int .i64 0, .slice none 0 0, .int .i64 0, .int .i64 0, .int .i64 0, .slice none 0 0, .bool false, .slice none 0 0, .int .i64 0, .int .i64 0, .int .i64 0, .slice none 0 0, .int .i64 0, .int .i64 0, .int .i64 0, .int .i64 0, .int .i64 0, .slice none 0 0] := by rw [h3]; exact (Blk.new _ _ _).alloc _
  have hk3 : Kept Kno w2 w3 := by rw [h3]; exact ((Kept.refl _ _).alloc _).alloc _
  have c4 : w3.cell? ⟨w2.heap.size, 4, none⟩ = some (.int .i64 2) := hG.cell 4
  have c6 : w3.cell? ⟨w2.heap.size, 6, none⟩ = some (.int .i64 (-1)) := hG.cell 6
  have hb3 : Bs w3 (.slice (some ⟨w2.heap.size + 1, 0, none⟩) 8 8) bytes0 := by
    have := bs_lit (w2.alloc (.cells #[.int .i64 1, .int .i64 1, .int .i64 0, .int .i64 1, .int .i64 2, .slice none 0 0, .int .i64 (-1), .slice none 0 0, .int .i64 0, .int .i64 0, .slice none 0 0, .int .i64 0, .int .i64 0, .int .i64 0, .slice none 0 0, .int .i64 0, .int .i64 0, .int .i64 0, .slice none 0 0, .bool false, .slice none 0 0, .int .i64 0, .int .i64 0, .int .i64 0, .slice none 0 0, .int .i64 0, .int .i64 0, .int .i64 0, .int .i64 0, .int .i64 0, .slice none 0 0] 36)) bytes0 (0, 0) 5
    rw [size_alloc'] at this
    rw [h3]; exact this
  have heq := equal_any _ _ bytes0 bytes0 w3 (Rd.kept0 HB2.out hk3) hb3
  rw [decide_eq_true rfl] at heq
  have HEQ := Lib.hid heq
  have HK3 := Lib.hid (HK2.out.then0 hk3)
  clear heq hb3 hk3 hG HB2 HK2
  clear h3
  refine HEQ.out.mono ?_
  rintro e w4 ⟨rfl, rfl⟩
  go_wp2
  go_ret
  exact ⟨rfl, HK3.out⟩

end Go.Proofs.YtffdaohmalmkfaaGreat
/-
  PacketBounds: what both Encodes answer at the law's message; rows out of make.
-/
namespace Go.Proofs.YtffdaohmalmkfaaGreat
open Go.RowKit
set_option linter.unusedVariables false

theorem made_toList (z : Array Value) (n : Nat) : (madeCells z n).toList = (List.range n).map (fun i => z[i % z.size]!) := by simp [madeCells]
theorem made_1 (n : Nat) : (madeCells #[.int .i64 0] (n * 1)).toList = (List.replicate n (0 : Int)).map iv := by
  rw [Nat.mul_one]
  induction n with
  | zero => simp [madeCells, ordC]
  | succ n ih =>
    rw [made_toList] at ih ⊢
    rw [List.range_succ, List.map_append, ih, List.replicate_succ', List.map_append]
    simp [iv, Nat.mod_one]
theorem made_2 (n : Nat) : (madeCells #[.int .i64 0, .bool false] (n * 2)).toList = ordC (List.replicate n ((0 : Int), false)) := by
  induction n with
  | zero => simp [madeCells, ordC]
  | succ n ih =>
    rw [made_toList] at ih ⊢
    have e : (n + 1) * 2 = n * 2 + 1 + 1 := by omega
    have m0 : n * 2 % 2 = 0 := by omega
    have m1 : (n * 2 + 1) % 2 = 1 := by omega
    rw [e, List.range_succ, List.range_succ, List.map_append, List.map_append, ih, List.replicate_succ']
    simp [ordC, iv, m0, m1]
theorem ordC_rep_len (n : Nat) : (ordC (List.replicate n ((0 : Int), false))).length = n * 2 := by
  induction n with
  | zero => rfl
  | succ n ih => rw [List.replicate_succ]; simp only [ordC, List.flatMap_cons, List.length_append] at ih ⊢; rw [ih]; simp; omega
theorem sl_in {w : World} {B g n size : Nat} {t : TypeId} {cs : Array Value} {xs : List Value} (h : Blk w g t cs) (hg : g < B) (hx : cs.toList = xs) (hl : xs.length = n * size) (hn : n ≤ maxLen) : SlIn w B size (.slice (some ⟨g, 0, none⟩) n n) n xs :=
  ⟨some ⟨g, 0, none⟩, n, rfl, Nat.le_refl _, hn, hl, fun h => (by cases h), fun k hk => (by simp [Value.ownBlock] at hk; omega), fun _ => ⟨g, 0, rfl, hg, by subst hx; exact CellsAt.blk (by simpa using h)⟩⟩

/-- The bytes and the error that both answer. -/
def lawM (x : Sub) : List UInt8 := if writB [x] = true then encSync 1 ⟨0, 0, 0, [x], 0, []⟩ else []
def lawE (x : Sub) : Int := if writB [x] = true then 0 else 300
def EncRes (x : Sub) (w : World) (e : Ending) (w' : World) : Prop :=
  ∃ A c, e = .returned (.tuple #[.slice A (lawM x).length c, .int .i64 (lawE x)]) ∧ Bs w' (.slice A (lawM x).length c) (lawM x) ∧ Kept Kno w w'
theorem lawM_le (x : Sub) (h : (encSubs [x]).length ≤ 30000) : (encSync 1 ⟨0, 0, 0, [x], 0, []⟩).length ≤ 65536 := by
  have i0 := inum_le 1
  have i1 := inum_le 0
  have e0 : (encSubs []).length = 1 := by kernel_rfl
  simp only [encSync, syncBs, List.flatten_cons, List.flatten_nil, List.length_append, List.length_nil, e0]
  omega
theorem wB11 : wB 1 1 8 = true := by decide
theorem encRes_of (x : Sub) (w : World) (hl : (encSubs [x]).length ≤ 30000) (hw : writB [x] = true) {e : Ending} {w' : World} (h : EncOk (encSync 1 ⟨0, 0, 0, [x], 0, []⟩) w e w') : EncRes x w e w' := by
  obtain ⟨h1, h2⟩ := h
  rw [if_pos (lawM_le x hl)] at h2
  obtain ⟨A, c, h3, h4⟩ := h2
  have e1 : lawM x = encSync 1 ⟨0, 0, 0, [x], 0, []⟩ := if_pos hw
  have e2 : lawE x = 0 := if_pos hw
  refine ⟨A, c, ?_, ?_, h1⟩
  · rw [e1, e2]; exact h3
  · rw [e1]; exact OwnB.bs h4
theorem encRes_bad (x : Sub) (w : World) (hw : writB [x] = false) {e : Ending} {w' : World} (h : e = .returned (.tuple #[.slice none 0 0, .int .i64 300]) ∧ Kept Kno w w') : EncRes x w e w' := by
  obtain ⟨h1, h2⟩ := h
  have e1 : lawM x = [] := if_neg (by rw [hw]; decide)
  have e2 : lawE x = 300 := if_neg (by rw [hw]; decide)
  refine ⟨none, 0, ?_, ?_, h2⟩
  · rw [e1, e2]; exact h1
  · rw [e1]; exact OwnB.bs (World.ownsRow_nil w' 0 5 1)

theorem encA_any (x : Sub) (u : Value) (w : World) (hu : SubsIn w w.heap.size u [x]) (hl : (encSubs [x]).length ≤ 30000) :
    Calls Tryz.prog 9 #[.agg (lawC u)] w (EncRes x w) := by
  rw [lawC_sync [x] u]
  cases hw : writB [x] with
  | true =>
    refine (encode_sync 1 ⟨0, 0, 0, [x], 0, []⟩ u (.slice none 0 0) w hu (SubsIn.nil _ _) (by show (encSubs [x]).length ≤ _; omega) (by show (encSubs []).length ≤ _; decide) (by rw [syncB_law, hw, wB11]; rfl)).mono fun e w' h => encRes_of x w hl hw h
  | false =>
    refine (encode_sync_bad 1 ⟨0, 0, 0, [x], 0, []⟩ u (.slice none 0 0) w hu (SubsIn.nil _ _) (by show (encSubs [x]).length ≤ _; omega) (by show (encSubs []).length ≤ _; decide) (by rw [syncB_law, hw]; simp)).mono fun e w' h => encRes_bad x w hw h

theorem encB_any (x : Sub) (u : Value) (w : World) (hu : SubsIn w w.heap.size u [x]) (hl : (encSubs [x]).length ≤ 30000) :
    Calls Tryz.prog 15 #[.agg (lawC u)] w (EncRes x w) := by
  cases hw : writB [x] with
  | true => exact (xencode_law w.heap.size u x w hu (Nat.le_refl _) (by omega) hw).mono fun e w' h => encRes_of x w hl hw h
  | false => exact (xencode_bad w.heap.size u x w hu (Nat.le_refl _) (by omega) hw).mono fun e w' h => encRes_bad x w hw h
theorem wtA_any (x : Sub) (u : Value) (w : World) (hu : SubsIn w w.heap.size u [x]) (hl : (encSubs [x]).length ≤ 30000) :
    Calls Tryz.prog 16 #[u] w (RetInt (weightI [x]) w) := weight_any w.heap.size u [x] w hu (Nat.le_refl _) (by omega)
theorem wtB_any (x : Sub) (u : Value) (w : World) (hu : SubsIn w w.heap.size u [x]) (hl : (encSubs [x]).length ≤ 30000) :
    Calls Tryz.prog 17 #[u] w (RetInt (weightI [x]) w) := xweight_any w.heap.size u [x] w hu (Nat.le_refl _) (by omega) (Nat.le_refl 1) (fun h => by cases h)
theorem lawE_in (x : Sub) : I64 (lawE x) := by unfold lawE; split <;> exact ⟨by decide, by decide⟩

end Go.Proofs.YtffdaohmalmkfaaGreat
/-
  PacketBounds: the law's first loop: q.Args grows.
-/
namespace Go.Proofs.YtffdaohmalmkfaaGreat
open Go.RowKit
set_option linter.unusedVariables false

/-- The law's query q lies in block V, its arguments in an own row from B0 on. -/
structure BndSt (w : World) (V B0 k : Nat) (a' : Value) (i : Nat) (wr : World) (A : Option Addr) (cap : Nat) : Prop where
  v : Blk wr V 59 (wqC k zw zw zw (.slice A (nargs k i) cap)).toArray
  a : wr.ownsRow B0 59 21 (.slice A (nargs k i) cap) (nargs k i) (argC k a' i)
  ne : (Value.slice A (nargs k i) cap).ownBlock ≠ some V
  b : BelowAt wr w.heap.size B0 k a'
  kept : Kept Kno w wr
def BndRel (w : World) (V B0 k : Nat) (a' : Value) (N : Nat) (i : Value) (wr : World) : Prop := ∃ (n : Nat) (A : Option Addr) (c : Nat), n ≤ N ∧ i = .int .i64 n ∧ BndSt w V B0 k a' n wr A c

theorem BndSt.step {w wr w2 : World} {V B0 k i cap c2 : Nat} {a' : Value} {A A2 : Option Addr} {t : TypeId} {cs : Array Value} (st : BndSt w V B0 k a' i wr A cap) (hV : B0 ≤ V) (hw : w.heap.size ≤ B0)
    (hown2 : w2.ownsRow B0 59 21 (.slice A2 (nargs k i + 1) c2) (nargs k i + 1) (argC k a' i ++ wqC 0 zw zw zw zw)) (hg2 : (wr.alloc (.cells cs t)).grownBy w2 (Value.slice A (nargs k i) cap).ownBlock)
    (hat2 : (Value.slice A2 (nargs k i + 1) c2).ownBlock = (Value.slice A (nargs k i) cap).ownBlock ∨ (Value.slice A2 (nargs k i + 1) c2).ownBlock = some (wr.alloc (.cells cs t)).heap.size) : BndSt w V B0 k a' (i + 1) (w2.setCell ⟨V, 20, none⟩ (.slice A2 (nargs k i + 1) c2)) A2 c2 := by
  have hlow : ∀ j, (Value.slice A (nargs k i) cap).ownBlock = some j → B0 ≤ j := fun j hj => (own_base st.a hj).1
  have hVlt := st.v.lt
  have hne2 : (Value.slice A2 (nargs k i + 1) c2).ownBlock ≠ some V := by
    rcases hat2 with h | h
    · rw [h]; exact st.ne
    · rw [h, size_alloc']; intro he; injection he with he; omega
  refine ⟨?_, ?_, hne2, ?_, ?_⟩
  · have := ((st.v.alloc (.cells cs t)).grown hg2 (fun he => st.ne he.symm)).set_ 20 (.slice A2 (nargs k i + 1) c2)
    exact this
  · refine own_far ?_ hne2 _
    rw [argC_snoc]
    exact hown2
  · refine st.b.old (fun j h1 h2 => ?_) (Nat.le_refl _)
    have e1 : (w2.setCell ⟨V, 20, none⟩ (.slice A2 (nargs k i + 1) c2)).heap[j]? = w2.heap[j]? := Below.heap_setCell w2 ⟨V, 20, none⟩ _ j (by show j ≠ V; omega)
    rw [e1, hg2.block j (by rw [size_alloc']; omega) (fun he => by have := hlow j he.symm; omega), Below.heap_alloc wr _ j (by omega)]
  · exact ((st.kept.alloc (.cells cs t)).grown hg2 (fun j hj he => by have := hlow j he; omega)).setNew (p := ⟨V, 20, none⟩) (by show w.heap.size ≤ V; omega) _

/-- The first state: deep's query lies in the variable. -/
theorem BndSt.start {w w1 : World} {k : Nat} {a : Value} (hd : DeepAt w1 w.heap.size w1.heap.size k a) (hk : Kept Kno w w1) :
    ∃ (B0 : Nat) (a' : Value) (A : Option Addr) (cap : Nat), a = .slice A (nargs k 0) cap ∧ w.heap.size ≤ B0 ∧ B0 ≤ w1.heap.size ∧ BndSt w w1.heap.size B0 k a' 0 (w1.alloc (.cells (wqC k zw zw zw a).toArray 59)) A cap := by
  cases k with
  | zero =>
    obtain rfl : a = zw := hd
    exact ⟨w1.heap.size, zw, none, 0, rfl, hk.size, Nat.le_refl _, Blk.new _ _ _, World.ownsRow_nil _ _ _ _, by simp [Value.ownBlock], trivial, hk.alloc _⟩
  | succ k =>
    obtain ⟨g, a', rfl, h0, h2, h3, h4⟩ := hd
    have h3' := h3
    rw [dq_cells] at h3'
    refine ⟨g, a', some ⟨g, 0, none⟩, 1, rfl, h0, Nat.le_of_lt h2, Blk.new _ _ _, ?_, by simp [Value.ownBlock]; omega, ?_, hk.alloc _⟩
    · refine ⟨rfl, .inr ⟨g, 1, (wqC k zw zw zw a').toArray, rfl, Nat.le_refl _, h3'.alloc _, Nat.le_refl _, by decide, rfl, ?_⟩⟩
      simp [argC, nargs, dargs, wqC]
    · exact h4.old (fun j _ h => Below.heap_alloc w1 _ j (by omega)) (Nat.le_refl _)

end Go.Proofs.YtffdaohmalmkfaaGreat
