/-
  PacketOwns: the case's State. (Printed by gen_pakpc.py.)
-/
import Derived.Test.YtffdaohmalmkfaaGreatW27
set_option linter.unusedSimpArgs false
set_option linter.unusedVariables false
namespace Go.Proofs.YtffdaohmalmkfaaGreat
open Go.RowKit
set_option linter.unusedVariables false

theorem info_rowsp : (Tryz.prog.info? 171).map (fun i => (i.zero, i.size, i.bytes)) = some (some (.slice none 0 0), 1, 24) := by kernel_rfl
/-- What a caller of the case knows of a schema. -/
structure ScPre (S : Nat → Bool) (K : Nat) (v : Value) (l : List UInt8) (sv : Value) (ver : Int) (ts : List Tbl) (B0 : Nat) (w : World) : Prop where
  c : ∃ a, CaseIs w K v l a
  s : SchIn (erase S w) B0 ver ts sv
  B : B0 ≤ w.heap.size
  SK : S K = true
  lt : ∀ k, S k = true → k < w.heap.size
theorem ScPre.at2 {S S' : Nat → Bool} {K : Nat} {v : Value} {l : List UInt8} {sv : Value} {ver : Int} {ts : List Tbl} {B0 : Nat} {w w' : World} {R : Nat → Prop} (h : ScPre S K v l sv ver ts B0 w) (hk : Kept R w w') (hR : ∀ k, R k → S k = true) (hc : ∃ a, CaseIs w' K v l a) (hS : ∀ k, k < w.heap.size → S' k = S k) (hlt : ∀ k, S' k = true → k < w'.heap.size) : ScPre S' K v l sv ver ts B0 w' :=
  ⟨hc, h.s.old ((erase_kept hk hR hS).old (by rw [erase_size]; exact h.B) (fun _ _ h => h)) (Nat.le_refl _), Nat.le_trans h.B hk.size, by rw [hS K (h.lt K h.SK)]; exact h.SK, hlt⟩
theorem ScPre.step {S : Nat → Bool} {K : Nat} {v : Value} {l : List UInt8} {sv : Value} {ver : Int} {ts : List Tbl} {B0 : Nat} {w w' : World} {R : Nat → Prop} (h : ScPre S K v l sv ver ts B0 w) (hk : Kept R w w') (hR : ∀ k, R k → S k = true) (hc : ∃ a, CaseIs w' K v l a) : ScPre S K v l sv ver ts B0 w' :=
  h.at2 hk hR hc (fun _ _ => rfl) (fun k hk' => Nat.lt_of_lt_of_le (h.lt k hk') hk.size)
theorem ScPre.goes {S : Nat → Bool} {K : Nat} {v : Value} {l : List UInt8} {sv : Value} {ver : Int} {ts : List Tbl} {B0 : Nat} {w w' : World} (h : ScPre S K v l sv ver ts B0 w) (hg : Goes K v l w w') : ScPre S K v l sv ver ts B0 w' :=
  h.step hg.2 (fun k hk => by unfold Kone at hk; subst hk; exact h.SK) hg.1
theorem ScPre.int {S : Nat → Bool} {K : Nat} {v : Value} {l : List UInt8} {sv : Value} {ver : Int} {ts : List Tbl} {B0 : Nat} {w : World} (h : ScPre S K v l sv ver ts B0 w) (n : Nat) (h1 : 1 ≤ n) (h2 : n ≤ 1000000) : Calls Tryz.prog 25 #[.pointer (some ⟨K, 0, none⟩), .int .i64 n] w (IntOk K v l n w) := by
  obtain ⟨a, hc⟩ := h.c
  exact int_any K a n v l w hc h1 h2
theorem ScPre.bool {S : Nat → Bool} {K : Nat} {v : Value} {l : List UInt8} {sv : Value} {ver : Int} {ts : List Tbl} {B0 : Nat} {w : World} (h : ScPre S K v l sv ver ts B0 w) (n : Nat) (h1 : 1 ≤ n) (h2 : n ≤ 1000000) : Calls Tryz.prog 31 #[.pointer (some ⟨K, 0, none⟩), .int .i64 n] w (BoolOk K v l w) := by
  obtain ⟨a, hc⟩ := h.c
  exact cbool_any K a n v l w hc h1 h2
theorem ScPre.sch {S : Nat → Bool} {K : Nat} {v : Value} {l : List UInt8} {sv : Value} {ver : Int} {ts : List Tbl} {B0 : Nat} {w : World} (h : ScPre S K v l sv ver ts B0 w) : SchIn w w.heap.size ver ts sv := (SchIn.sub0 (erase_sub S w) h.s).old (fun _ _ => rfl) h.B

/-- What the case's State returns. -/
def StateOk (S : Nat → Bool) (K : Nat) (v : Value) (l : List UInt8) (ts : List Tbl) (L : Nat) (w : World) (e : Ending) (w' : World) : Prop :=
  ∃ (T n cap : Nat) (tabs : List (List (List Val))), e = .returned (.agg #[.slice (some ⟨T, 0, none⟩) n cap]) ∧ w.heap.size ≤ T ∧ StAt (more S T) w' T n cap tabs ∧ TabsOk ts L tabs ∧ Goes K v l w w'
def S3 (S : Nat → Bool) (R6 R7 T : Nat) : Nat → Bool := more (more (more S R6) R7) T
structure SRel (S : Nat → Bool) (K : Nat) (v : Value) (l : List UInt8) (sv s : Value) (ver : Int) (ts : List Tbl) (B0 R4 T : Nat) (L : Nat) (w wr : World) (tabs : List (List (List Val))) : Prop where
  p : ScPre (S3 S (R4 + 1) (R4 + 3) T) K v l sv ver ts B0 wr
  g : Goes K v l w wr
  b4 : Blk wr R4 82 #[.int .i64 ver, s]
  b6 : Blk wr (R4 + 1) 100 #[.slice none 0 0]
  b7 : Blk wr (R4 + 3) 100 #[.slice (some ⟨T, 0, none⟩) ts.length ts.length]
  st : StAt (S3 S (R4 + 1) (R4 + 3) T) wr T ts.length ts.length tabs
  ok : TabsOk ts L tabs

theorem Goes.thenN {K : Nat} {v : Value} {l : List UInt8} {w w6 w7 : World} {R : Nat → Prop} (h : ∃ a, CaseIs w K v l a) (hg : Goes K v l w w6) (hk : Kept R w6 w7) (hR : ∀ k, R k → w.heap.size ≤ k) : Goes K v l w w7 := by
  obtain ⟨a, h⟩ := h
  obtain ⟨⟨a4, c4⟩, hk4⟩ := hg
  have hk' : Kept (Kone K) w w7 := hk4.trans hk (fun k hk e => absurd (hR k e) (by omega))
  exact ⟨⟨a4, h.kept hk' (c4.blk.kept hk (fun e => by have := hR K e; have := h.blk.lt; omega))⟩, hk'⟩
theorem ScPre.key {S : Nat → Bool} {K : Nat} {v : Value} {l : List UInt8} {ver : Int} {ts : List Tbl} {B0 g o n tcap : Nat} {w : World} (h : ScPre S K v l (.agg #[.int .i64 ver, .slice (some ⟨g, o, none⟩) n tcap]) ver ts B0 w) {j : Nat} {t : Tbl} (hj : ts[j]? = some t) :
    w.cell? ⟨g, o + j * 5 + 2, none⟩ = some (.int .i64 t.key) ∧ (∀ x ∈ t.cols.map (·.2), 3 ≤ x ∧ x ≤ 5) ∧ t.cols.length ≤ 8 ∧ 1 ≤ t.key ∧ t.key ≤ t.cols.length := by
  obtain ⟨g', o', cap', st, he, -, -, -, hT, hc⟩ := h.s.tbl hj
  injection he with he
  have he2 := congrArg (fun a => a[1]?) he
  simp only [List.getElem?_toArray, List.getElem?_cons_succ, List.getElem?_cons_zero, Option.some.injEq, Value.slice.injEq, Addr.mk.injEq, and_true] at he2
  obtain ⟨⟨rfl, rfl⟩, -, -⟩ := he2
  obtain ⟨-, h2, h3, h4, h5, -, -⟩ := hT
  refine ⟨erase_cell (hc 2 _ rfl), fun x hx => ?_, h3, h4, h5⟩
  obtain ⟨c, hc, rfl⟩ := List.mem_map.1 hx
  exact h2 c hc
theorem made_get (n i : Nat) (x : Value) (hi : i < n) : (madeCells #[x] n)[i]? = some x := by
  simp [madeCells, hi, Nat.mod_one]
theorem S3_old {S : Nat → Bool} {R6 R7 T k : Nat} (h6 : k < R6) (h7 : k < R7) (hT : k < T) : S3 S R6 R7 T k = S k := by
  unfold S3
  rw [more_old hT, more_old h7, more_old h6]
theorem S3_lt {S : Nat → Bool} {R6 R7 T n : Nat} (hS : ∀ k, S k = true → k < n) (h6 : R6 < n) (h7 : R7 < n) (hT : T < n) : ∀ k, S3 S R6 R7 T k = true → k < n := fun k hk => by
  cases hs : S k with
  | true => exact hS k hs
  | false =>
    have : (k = R6 ∨ k = R7) ∨ k = T := by simpa [S3, more, hs] using hk
    omega
theorem S3_T {S : Nat → Bool} {R6 R7 T : Nat} : S3 S R6 R7 T T = true := more_self _ _
theorem S3_7 {S : Nat → Bool} {R6 R7 T : Nat} : S3 S R6 R7 T R7 = true := more_le (more_self _ _)
theorem S3_6 {S : Nat → Bool} {R6 R7 T : Nat} : S3 S R6 R7 T R6 = true := more_le (more_le (more_self _ _))
section
variable {S : Nat → Bool} {K : Nat} {v : Value} {l : List UInt8} {sv s : Value} {ver : Int} {ts : List Tbl} {B0 R4 L L' : Nat} {w wr w' : World} {tabs : List (List (List Val))}
theorem SRel.goes (h : SRel S K v l sv s ver ts B0 R4 (R4 + 2) L w wr tabs) (hg : Goes K v l wr w') (hK : K < R4) : SRel S K v l sv s ver ts B0 R4 (R4 + 2) L w w' tabs :=
  ⟨h.p.goes hg, h.g.then_ hg, h.b4.kept hg.2 (fun e => by unfold Kone at e; omega), h.b6.kept hg.2 (fun e => by unfold Kone at e; omega), h.b7.kept hg.2 (fun e => by unfold Kone at e; omega), h.st.kept hg.2 (fun k hk => by unfold Kone at hk; subst hk; exact h.p.SK) (fun e => by unfold Kone at e; omega), h.ok⟩
theorem SRel.step0 (h : SRel S K v l sv s ver ts B0 R4 (R4 + 2) L w wr tabs) (hk : Kept Kno wr w') (hK : K < R4) : SRel S K v l sv s ver ts B0 R4 (R4 + 2) L w w' tabs := h.goes (Goes.of0 h.p.c hk) hK
theorem SRel.mono (h : SRel S K v l sv s ver ts B0 R4 (R4 + 2) L w wr tabs) (hL : L ≤ L') : SRel S K v l sv s ver ts B0 R4 (R4 + 2) L' w wr tabs := ⟨h.p, h.g, h.b4, h.b6, h.b7, h.st, h.ok.mono hL⟩
theorem SRel.put (h : SRel S K v l sv s ver ts B0 R4 (R4 + 2) L w wr tabs) (hc : ∃ a, CaseIs w K v l a) (hw : w.heap.size ≤ R4) {tabs' : List (List (List Val))} (hst : StAt (S3 S (R4 + 1) (R4 + 3) (R4 + 2)) w' (R4 + 2) ts.length ts.length tabs') (hk : Kept (Kone (R4 + 2)) wr w') (hok : TabsOk ts L' tabs') :
    SRel S K v l sv s ver ts B0 R4 (R4 + 2) L' w (w'.setCell ⟨R4 + 3, 0, none⟩ (.slice (some ⟨R4 + 2, 0, none⟩) ts.length ts.length)) tabs' := by
  have hk2 : Kept (Kone (R4 + 3)) w' (w'.setCell ⟨R4 + 3, 0, none⟩ (.slice (some ⟨R4 + 2, 0, none⟩) ts.length ts.length)) := (Kept.refl _ _).setIn (p := ⟨R4 + 3, 0, none⟩) (by unfold Kone; rfl) _
  have hg1 := Goes.thenN hc h.g hk (fun k e => by unfold Kone at e; omega)
  have hg2 := Goes.thenN hc hg1 hk2 (fun k e => by unfold Kone at e; omega)
  have hp1 := h.p.step hk (fun k e => by unfold Kone at e; subst e; exact S3_T) hg1.1
  refine ⟨hp1.step hk2 (fun k e => by unfold Kone at e; subst e; exact S3_7) hg2.1, hg2, (h.b4.kept hk (fun e => by unfold Kone at e; omega)).kept hk2 (fun e => by unfold Kone at e; omega), (h.b6.kept hk (fun e => by unfold Kone at e; omega)).kept hk2 (fun e => by unfold Kone at e; omega), ?_, hst.kept hk2 (fun k e => by unfold Kone at e; subst e; exact S3_7) (fun e => by unfold Kone at e; omega), hok⟩
  exact (h.b7.kept hk (fun e => by unfold Kone at e; omega)).set_ 0 _
theorem SRel.done (h : SRel S K v l sv s ver ts B0 R4 (R4 + 2) L w wr tabs) (hc : ∃ a, CaseIs w K v l a) (hw : w.heap.size ≤ R4) (u : Value) (hL : L ≤ 16) : StateOk S K v l ts 16 w (.returned (.agg #[.slice (some ⟨R4 + 2, 0, none⟩) ts.length ts.length])) (wr.setCell ⟨R4 + 1, 0, none⟩ u) := by
  have hk2 : Kept (Kone (R4 + 1)) wr (wr.setCell ⟨R4 + 1, 0, none⟩ u) := (Kept.refl _ _).setIn (p := ⟨R4 + 1, 0, none⟩) (by unfold Kone; rfl) _
  obtain ⟨cs, h1, h2, h0, h3, h4, h5, h6⟩ := h.st.kept hk2 (fun k e => by unfold Kone at e; subst e; exact S3_6) (fun e => by unfold Kone at e; omega)
  refine ⟨R4 + 2, ts.length, ts.length, tabs, rfl, by omega, ⟨cs, h1, h2, h0, h3, h4, more_self _ _, fun i rows hi => ?_⟩, h.ok.mono hL, Goes.thenN hc h.g hk2 (fun k e => by unfold Kone at e; omega)⟩
  obtain ⟨s, hs, hr⟩ := h6 i rows hi
  refine ⟨s, hs, RowsIn.sub0 (sub_le (fun k hk => ?_) _) hr⟩
  unfold S3
  rcases (by simpa [more] using hk : S k = true ∨ k = R4 + 2) with e | e
  · exact more_le (more_le (more_le e))
  · subst e; exact more_self _ _
end
theorem TabsOk.put {ts : List Tbl} {L L' : Nat} {tabs : List (List (List Val))} (h : TabsOk ts L tabs) {j : Nat} {t : Tbl} {rows rows' : List (List Val)} {rx : List Val} (ht : ts[j]? = some t) (hr : tabs[j]? = some rows) (hl : rows'.length ≤ rows.length + 1) (hm : ∀ r ∈ rows', r ∈ rows ∨ r = rx ∧ rx ≠ []) (hx : rx ≠ [] → RowFit t rx) (hL : L + 1 ≤ L') : TabsOk ts L' (tabs.set j rows') :=
  (h.mono (Nat.le_of_succ_le hL)).set ht (by have := (h.2 j t rows ht hr).1; omega) (fun r hr' => by
    rcases hm r hr' with h1 | ⟨rfl, h2⟩
    · exact (h.2 j t rows ht hr).2 r h1
    · exact hx h2)

set_option maxRecDepth 100000 in
set_option maxHeartbeats 1500000 in
theorem cstate_any (S : Nat → Bool) (K : Nat) (v : Value) (l : List UInt8) (sv : Value) (ver : Int) (ts : List Tbl) (B0 : Nat) (mode : Int) (w : World) (h : ScPre S K v l sv ver ts B0 w) (hts : 0 < ts.length) :
    Calls Tryz.prog 33 #[.pointer (some ⟨K, 0, none⟩), sv, .int .i64 mode] w (StateOk S K v l ts 16 w) := by
  obtain ⟨s0, hsv, -, h4, A0, tcap, rfl, htc, htm, -, -, hts'⟩ := id h.s
  obtain ⟨g, o, rfl, hgB, -⟩ := hts' hts
  subst hsv
  have H := Lib.hid h
  have hKw : K < w.heap.size := h.lt K h.SK
  have hts4 : (ts.length : Int) ≤ 4 := by omega
  have hts0 : (0 : Int) < (ts.length : Int) := by omega
  have htm' : tcap ≤ 9223372036854775807 := by simpa only [maxLen] using htm
  clear h hts' htm
  go_enter Tryz.func33, Tryz.ntmps33
  obtain ⟨i0, hi, hz0, hz1, hz2⟩ := info_parts info_rowsp
  have hmk : ∀ w : World, (Instr.makeSlice 98 (.int .i64 (ts.length : Int)) (.int .i64 (ts.length : Int))).run Tryz.prog w = .ok (.slice (some ⟨w.heap.size, 0, none⟩) ts.length ts.length) (w.alloc (.cells (madeCells #[.slice none 0 0] ts.length) 171)) := fun w => by
    have := run_make (P := Tryz.prog) w 98 171 i0 (.slice none 0 0) Tryz.underlying98 hi hz0 .i64 .i64 (ts.length : Int) (ts.length : Int) (by omega) (by omega) (by rw [hz2]; omega) (by omega)
    rw [hz1, Nat.mul_one, Int.toNat_natCast] at this
    exact this
  go_upto_region 2 with (fail)
  obtain ⟨w1, h1⟩ : ∃ w1, ((((w.alloc (.cells #[.int .i64 ver, .slice (some ⟨g, o, none⟩) ts.length tcap] 82)).alloc (.cells #[.slice none 0 0] 100)).alloc (.cells (madeCells #[.slice none 0 0] ts.length) 171)).alloc (.cells #[.slice (some ⟨w.heap.size + 1 + 1, 0, none⟩) ts.length ts.length] 100)) = w1 := ⟨_, rfl⟩
  have hk1 : Kept Kno w w1 := by rw [← h1]; exact ((((Kept.refl _ _).alloc _).alloc _).alloc _).alloc _
  have hz : w1.heap.size = w.heap.size + 4 := by rw [← h1]; simp
  have hb4 : Blk w1 w.heap.size 82 #[.int .i64 ver, .slice (some ⟨g, o, none⟩) ts.length tcap] := by rw [← h1]; exact (((Blk.new _ _ _).alloc _).alloc _).alloc _
  have hb6 : Blk w1 (w.heap.size + 1) 100 #[.slice none 0 0] := by
    rw [← h1]
    have := ((Blk.new (w.alloc (.cells #[.int .i64 ver, .slice (some ⟨g, o, none⟩) ts.length tcap] 82)) 100 #[.slice none 0 0]).alloc (.cells (madeCells #[.slice none 0 0] ts.length) 171)).alloc (.cells #[.slice (some ⟨w.heap.size + 1 + 1, 0, none⟩) ts.length ts.length] 100)
    simpa using this
  have hbT : Blk w1 (w.heap.size + 2) 171 (madeCells #[.slice none 0 0] ts.length) := by
    rw [← h1]
    have := (Blk.new ((w.alloc (.cells #[.int .i64 ver, .slice (some ⟨g, o, none⟩) ts.length tcap] 82)).alloc (.cells #[.slice none 0 0] 100)) 171 (madeCells #[.slice none 0 0] ts.length)).alloc (.cells #[.slice (some ⟨w.heap.size + 1 + 1, 0, none⟩) ts.length ts.length] 100)
    simpa using this
  have hb7 : Blk w1 (w.heap.size + 3) 100 #[.slice (some ⟨w.heap.size + 2, 0, none⟩) ts.length ts.length] := by
    rw [← h1]
    have := Blk.new (((w.alloc (.cells #[.int .i64 ver, .slice (some ⟨g, o, none⟩) ts.length tcap] 82)).alloc (.cells #[.slice none 0 0] 100)).alloc (.cells (madeCells #[.slice none 0 0] ts.length) 171)) 100 #[.slice (some ⟨w.heap.size + 1 + 1, 0, none⟩) ts.length ts.length]
    simpa using this
  rw [h1]
  have hS3 : SRel S K v l (.agg #[.int .i64 ver, .slice (some ⟨g, o, none⟩) ts.length tcap]) (.slice (some ⟨g, o, none⟩) ts.length tcap) ver ts B0 w.heap.size (w.heap.size + 2) 0 w w1 (List.replicate ts.length []) := by
    refine ⟨H.out.at2 hk1 (fun _ h => h.elim) (Goes.of0 H.out.c hk1).1 (fun k hk => S3_old (by omega) (by omega) (by omega)) (S3_lt (fun k hk => by have := H.out.lt k hk; omega) (by omega) (by omega) (by omega)), Goes.of0 H.out.c hk1, hb4, hb6, hb7, ⟨_, hbT, by simp, hts, Nat.le_refl _, by simp only [maxLen]; omega, S3_T, fun i rows hi => ?_⟩, by simp, fun i t rows _ hi => ?_⟩
    · obtain ⟨hlt, he⟩ := List.getElem?_eq_some_iff.1 hi
      simp only [List.getElem_replicate] at he
      subst he
      exact ⟨_, made_get _ _ _ (by simpa using hlt), RowsIn.nil⟩
    · obtain ⟨hlt, he⟩ := List.getElem?_eq_some_iff.1 hi
      simp only [List.getElem_replicate] at he
      subst he
      simp
  have HR1 := Lib.hid hS3
  clear hS3 h1 hk1 hb4 hb6 hbT hb7 hmk
  obtain ⟨R4, hR4⟩ : ∃ R, R = w.heap.size := ⟨_, rfl⟩
  have hKR : K < R4 := by omega
  have hwR : w.heap.size ≤ R4 := by omega
  rw [← hR4] at HR1 ⊢
  have b41 : w1.cell? ⟨R4, 1, none⟩ = some (.slice (some ⟨g, o, none⟩) ts.length tcap) := HR1.out.b4.cell 1
  have e1 : R4 + 1 + 1 + 1 = R4 + 3 := rfl
  have e2 : R4 + 1 + 1 = R4 + 2 := rfl
  rw [e1, e2]
  clear e1 e2 hR4 hz
  go_upto_region 3 with (fail)
  clear b41
  go_loopw [19] (fun i wr => ∃ (j : Nat) (tabs : List (List (List Val))), j ≤ ts.length ∧ i = .int .i64 j ∧ SRel S K v l (.agg #[.int .i64 ver, .slice (some ⟨g, o, none⟩) ts.length tcap]) (.slice (some ⟨g, o, none⟩) ts.length tcap) ver ts B0 R4 (R4 + 2) (4 * j) w wr tabs) (fun i _ => ts.length - (intOf i).toNat)
  case atStart => exact ⟨0, _, Nat.zero_le _, rfl, HR1.out⟩
  case round =>
    obtain ⟨j, tabs, hj, rfl, hr⟩ := hrel
    have HR := Lib.hid hr
    have hj0 : (0 : Int) ≤ (j : Int) := by omega
    clear hr
    by_cases hlt : j < ts.length
    · have hltI : (j : Int) < (ts.length : Int) := by omega
      obtain ⟨t, ht⟩ : ∃ t, ts[j]? = some t := ⟨_, List.getElem?_eq_getElem hlt⟩
      have HT := Lib.hid ht
      clear ht
      go_wp2_with fail
      refine (HR.out.p.int 5 (by decide) (by decide)).mono ?_
      rintro e w2 ⟨m, hm, rfl, hg2⟩
      have HR2 := Lib.hid ((HR.out.goes hg2 hKR).mono (L' := 4 * j + (4 - m)) (by omega))
      clear hg2 HR
      go_wp2_with fail
      go_loopw [9] (fun nv wr => ∃ (m : Nat) (tabs : List (List (List Val))), m ≤ 4 ∧ nv = .int .i64 m ∧ SRel S K v l (.agg #[.int .i64 ver, .slice (some ⟨g, o, none⟩) ts.length tcap]) (.slice (some ⟨g, o, none⟩) ts.length tcap) ver ts B0 R4 (R4 + 2) (4 * j + (4 - m)) w wr tabs) (fun nv _ => (intOf nv).toNat)
      case atStart => exact ⟨m, tabs, by omega, rfl, HR2.out⟩
      case round =>
        clear HR2
        obtain ⟨m, tabs, hm, rfl, hr⟩ := hrel
        have HR := Lib.hid hr
        clear hr
        by_cases hm0 : 0 < m
        · have hmI : (0 : Int) < (m : Int) := by omega
          obtain ⟨hkey, hks, hl8, hk1, hk2⟩ := HR.out.p.key HT.out
          obtain ⟨kn, hkn⟩ : ∃ kn : Nat, t.key = kn := ⟨t.key.toNat, by omega⟩
          rw [hkn] at hkey
          have HKEY := Lib.hid hkey
          have HKN := Lib.hid hkn
          have htm'' : (ts.length : Int) ≤ (tcap : Int) := by omega
          obtain ⟨rows, hrows⟩ : ∃ rows, tabs[j]? = some rows := ⟨_, List.getElem?_eq_getElem (by have := HR.out.ok.1; omega)⟩
          have HROWS := Lib.hid hrows
          have hKk := kinds_any wr.heap.size (.agg #[.int .i64 ver, .slice (some ⟨g, o, none⟩) ts.length tcap]) ver ts wr.drew (HR.out.p.sch.keep0 (Nat.le_refl _) ((Kept.refl _ _).drew)) (Nat.le_refl _) j t HT.out
          obtain ⟨ks, hks'⟩ : ∃ ks, t.cols.map (·.2) = ks := ⟨_, rfl⟩
          rw [hks'] at hKk hks
          have hksl : ks.length = t.cols.length := by rw [← hks', List.length_map]
          have HKK := Lib.hid hKk
          have HKS := Lib.hid hks
          have hkl : ks.length ≤ 1000 := by omega
          have hkn1 : 1 ≤ kn := by omega
          have hkn2 : kn ≤ ks.length := by omega
          have HLEN := Lib.hid hksl
          clear hkey hkn hrows hKk hks' hks hk1 hk2 hl8 hksl
          go_upto_region 8 with (fail)
          refine wp_region_held_drew (S := fun w' => Blk w' R4 82 #[.int .i64 ver, .slice (some ⟨g, o, none⟩) ts.length tcap] ∧ w'.cell? ⟨g, o + j * 5 + 2, none⟩ = some (.int .i64 kn)) (by kernel_rfl) ⟨HR.out.b4, HKEY.out⟩ (fun hHeld => ?_)
          refine wpAnyH_takeE (i := 0) (v := .pointer (some ⟨K, 0, none⟩)) rfl rfl (by kernel_rfl) (by kernel_rfl) (by kernel_rfl) (fun _ _ _ h => h) (Or.inl ⟨by rfl, fun w1 hw => by go_simp⟩) (by assumption) ?_
          (try simp only [Act.put, List.setIfInBounds_toArray, List.set_cons_zero, List.set_cons_succ])
          refine wpAnyH_takeE (i := 1) (v := .agg ([.int .i64 ver, .slice (some ⟨g, o, none⟩) ts.length tcap]).toArray) rfl rfl (by kernel_rfl) (by kernel_rfl) (by kernel_rfl) (fun _ _ _ h => h) (yieldsIf_load_atE (by rfl) 82 _ rfl (R4) (0) rfl ([.int .i64 ver, .slice (some ⟨g, o, none⟩) ts.length tcap]) _ (fun w1 hw => CellsAt.blk hw.1) Tryz.underlying82 rfl (by kernel_rfl)) (by assumption) ?_
          (try simp only [Act.put, List.setIfInBounds_toArray, List.set_cons_zero, List.set_cons_succ])
          refine wpAnyH_takeE (i := 2) (v := .int .i64 (j : Int)) rfl rfl (by kernel_rfl) (by kernel_rfl) (by kernel_rfl) (fun _ _ _ h => h) (Or.inl ⟨by rfl, fun w1 hw => by go_simp⟩) (by assumption) ?_
          (try simp only [Act.put, List.setIfInBounds_toArray, List.set_cons_zero, List.set_cons_succ])
          refine wpAnyH_takeE (i := 4) (v := .pointer (some ⟨R4, 1, none⟩)) rfl rfl (by kernel_rfl) (by kernel_rfl) (by kernel_rfl) (fun _ _ _ h => h) (Or.inl ⟨by rfl, fun w1 hw => by go_simp⟩) (by assumption) ?_
          (try simp only [Act.put, List.setIfInBounds_toArray, List.set_cons_zero, List.set_cons_succ])
          refine wpAnyH_takeE (i := 5) (v := .slice (some ⟨g, o, none⟩) ts.length tcap) rfl rfl (by kernel_rfl) (by kernel_rfl) (by kernel_rfl) (fun _ _ _ h => h) (Or.inl ⟨by rfl, fun w1 hw => by have c1 : w1.cell? ⟨R4, 1, none⟩ = some (.slice (some ⟨g, o, none⟩) ts.length tcap) := hw.1.cell 1; clear hw; go_simp⟩) (by assumption) ?_
          (try simp only [Act.put, List.setIfInBounds_toArray, List.set_cons_zero, List.set_cons_succ])
          refine wpAnyH_takeE (i := 6) (v := .int .i64 (j : Int)) rfl rfl (by kernel_rfl) (by kernel_rfl) (by kernel_rfl) (fun _ _ _ h => h) (Or.inl ⟨by rfl, fun w1 hw => by go_simp⟩) (by assumption) ?_
          (try simp only [Act.put, List.setIfInBounds_toArray, List.set_cons_zero, List.set_cons_succ])
          refine wpAnyH_takeE (i := 7) (v := .pointer (some ⟨g, o + j * 5, none⟩)) rfl rfl (by kernel_rfl) (by kernel_rfl) (by kernel_rfl) (fun _ _ _ h => h) (Or.inl ⟨by rfl, fun w1 hw => by go_simp⟩) (by assumption) ?_
          (try simp only [Act.put, List.setIfInBounds_toArray, List.set_cons_zero, List.set_cons_succ])
          refine wpAnyH_takeE (i := 8) (v := .pointer (some ⟨g, o + j * 5 + 2, none⟩)) rfl rfl (by kernel_rfl) (by kernel_rfl) (by kernel_rfl) (fun _ _ _ h => h) (Or.inl ⟨by rfl, fun w1 hw => by go_simp⟩) (by assumption) ?_
          (try simp only [Act.put, List.setIfInBounds_toArray, List.set_cons_zero, List.set_cons_succ])
          refine wpAnyH_takeE (i := 9) (v := .int .i64 (kn : Int)) rfl rfl (by kernel_rfl) (by kernel_rfl) (by kernel_rfl) (fun _ _ _ h => h) (Or.inl ⟨by rfl, fun w1 hw => by have c1 := hw.2; clear hw; go_simp⟩) (by assumption) ?_
          (try simp only [Act.put, List.setIfInBounds_toArray, List.set_cons_zero, List.set_cons_succ])
          refine wpAnyH_takeE (i := 10) (v := .int .i64 mode) rfl rfl (by kernel_rfl) (by kernel_rfl) (by kernel_rfl) (fun _ _ _ h => h) (Or.inl ⟨by rfl, fun w1 hw => by go_simp⟩) (by assumption) ?_
          (try simp only [Act.put, List.setIfInBounds_toArray, List.set_cons_zero, List.set_cons_succ])
          refine wpAnyH_ready (rs := [3]) (by kernel_rfl) (by simp) ?_
          refine AllReadyH.cons rfl (fun K' hK => ?_) (AllReadyH.nil)
          go_simp
          go_at_call 61
          refine (HKK.out).mono ?_
          rintro e w5 ⟨A5, c5, rfl, ho5, hk5⟩
          have HR5 := Lib.hid (HR.out.step0 ((Kept.refl _ _).drew.then0 hk5) hKR)
          have hKEY5 : w5.cell? ⟨g, o + j * 5 + 2, none⟩ = some (.int .i64 kn) := hk5.cell_some HKEY.out (fun h => h)
          have HKEY5 := Lib.hid hKEY5
          have HO5 := Lib.hid (own_slin (S := S3 S (R4 + 1) (R4 + 3) (R4 + 2)) ho5 (fun k hk => by
            cases hx : S3 S (R4 + 1) (R4 + 3) (R4 + 2) k with
            | false => rfl
            | true => have h1 := HR.out.p.lt k hx; have h2 : wr.heap.size ≤ k := hk; omega))
          clear ho5 hk5 hKEY5 HKK HR HKEY
          go_wp2_with fail
          refine hK.out _ _ ?_ (fun hHeld => ?_)
          · exact ⟨HR5.out.b4, HKEY5.out⟩
          clear hK K'
          (try simp only [Act.put, List.setIfInBounds_toArray, List.set_cons_zero, List.set_cons_succ])
          refine wpAnyH_ready (rs := [11]) (by kernel_rfl) (by simp) ?_
          refine AllReadyH.cons rfl (fun K' hK => ?_) (AllReadyH.nil)
          go_simp
          go_at_call 73
          refine (crow_any (S3 S (R4 + 1) (R4 + 3) (R4 + 2)) K v l _ ks kn mode w5.heap.size w5 HR5.out.p.c HR5.out.p.SK HO5.out (Nat.le_refl _) HKS.out hkl).mono ?_
          rintro e w6 ⟨A6, c6, xs, rfl, ho6, hxl, hxv, hg6⟩
          have hkc6 : w6.cell? ⟨g, o + j * 5 + 2, none⟩ = some (.int .i64 kn) := by
            have h1 := ((HR5.out.goes hg6 hKR).p.key HT.out).1
            rw [HKN.out] at h1
            exact h1
          have HR6 := Lib.hid (HR5.out.goes hg6 hKR)
          have HO6 := Lib.hid ho6
          have HXV := Lib.hid hxv
          have HKC6 := Lib.hid hkc6
          have HXL := Lib.hid hxl
          clear hxl ho6 hxv hg6 HO5 HR5 hkc6 HKEY5
          go_wp2_with fail
          refine hK.out _ _ ?_ (fun hHeld => ?_)
          · exact ⟨HR6.out.b4, HKC6.out⟩
          clear hK K'
          (try simp only [Act.put, List.setIfInBounds_toArray, List.set_cons_zero, List.set_cons_succ])
          refine wpAnyH_ready (rs := [12]) (by kernel_rfl) (by simp) ?_
          refine AllReadyH.cons rfl (fun K' hK => ?_) (AllReadyH.nil)
          go_simp
          refine hK.out _ _ ?_ (fun hHeld => ?_)
          · exact ⟨HR6.out.b4, HKC6.out⟩
          clear hK K'
          refine wpAnyH_done (by kernel_rfl) ?_ _
          clear hHeld
          have hxk : xs.length ≤ 1000 := by have := HXL.out; omega
          have hrl : TabsOk ts (4 * j + (4 - m)) tabs → rows.length ≤ 1000 := fun h => by have := (h.2 j t rows HT.out HROWS.out).1; omega
          have hrf : TabsOk ts (4 * j + (4 - m)) tabs → ∀ r ∈ rows, t.cols.length ≤ r.length ∧ r.length ≤ 1000 := fun h r hr => by have h1 := ((h.2 j t rows HT.out HROWS.out).2 r hr).1; have := HLEN.out; omega
          have hKy := key_any w6.heap.size (.agg #[.int .i64 ver, .slice (some ⟨g, o, none⟩) ts.length tcap]) (.slice A6 xs.length c6) ver ts w6.drew (HR6.out.p.sch.keep0 (Nat.le_refl _) ((Kept.refl _ _).drew)) (Nat.le_refl _) j t HT.out xs ((OwnR.rin HO6.out rfl).keep0 (Nat.le_refl _) ((Kept.refl _ _).drew)) kn HKN.out (by have := HXL.out; omega) hxk
          generalize xs.take kn = ky at hKy
          have HKEYC := Lib.hid hKy
          clear hKy
          go_upto_region 9 with (fail)
          refine wp_region_held_drew (S := fun w' => Blk w' R4 82 #[.int .i64 ver, .slice (some ⟨g, o, none⟩) ts.length tcap] ∧ Blk w' (R4 + 3) 100 #[.slice (some ⟨R4 + 2, 0, none⟩) ts.length ts.length]) (by kernel_rfl) ⟨HR6.out.b4, HR6.out.b7⟩ (fun hHeld => ?_)
          refine wpAnyH_takeE (i := 0) (v := .agg ([.int .i64 ver, .slice (some ⟨g, o, none⟩) ts.length tcap]).toArray) rfl rfl (by kernel_rfl) (by kernel_rfl) (by kernel_rfl) (fun _ _ _ h => h) (yieldsIf_load_atE (by rfl) 82 _ rfl (R4) (0) rfl ([.int .i64 ver, .slice (some ⟨g, o, none⟩) ts.length tcap]) _ (fun w1 hw => CellsAt.blk hw.1) Tryz.underlying82 rfl (by kernel_rfl)) (by assumption) ?_
          (try simp only [Act.put, List.setIfInBounds_toArray, List.set_cons_zero, List.set_cons_succ])
          refine wpAnyH_takeE (i := 1) (v := .agg ([.slice (some ⟨R4 + 2, 0, none⟩) ts.length ts.length]).toArray) rfl rfl (by kernel_rfl) (by kernel_rfl) (by kernel_rfl) (fun _ _ _ h => h) (yieldsIf_load_atE (by rfl) 100 _ rfl (R4 + 3) (0) rfl ([.slice (some ⟨R4 + 2, 0, none⟩) ts.length ts.length]) _ (fun w1 hw => CellsAt.blk hw.2) Tryz.underlying100 rfl (by kernel_rfl)) (by assumption) ?_
          (try simp only [Act.put, List.setIfInBounds_toArray, List.set_cons_zero, List.set_cons_succ])
          refine wpAnyH_takeE (i := 2) (v := .int .i64 (j : Int)) rfl rfl (by kernel_rfl) (by kernel_rfl) (by kernel_rfl) (fun _ _ _ h => h) (Or.inl ⟨by rfl, fun w1 hw => by go_simp⟩) (by assumption) ?_
          (try simp only [Act.put, List.setIfInBounds_toArray, List.set_cons_zero, List.set_cons_succ])
          refine wpAnyH_takeE (i := 3) (v := .agg ([.int .i64 ver, .slice (some ⟨g, o, none⟩) ts.length tcap]).toArray) rfl rfl (by kernel_rfl) (by kernel_rfl) (by kernel_rfl) (fun _ _ _ h => h) (yieldsIf_load_atE (by rfl) 82 _ rfl (R4) (0) rfl ([.int .i64 ver, .slice (some ⟨g, o, none⟩) ts.length tcap]) _ (fun w1 hw => CellsAt.blk hw.1) Tryz.underlying82 rfl (by kernel_rfl)) (by assumption) ?_
          (try simp only [Act.put, List.setIfInBounds_toArray, List.set_cons_zero, List.set_cons_succ])
          refine wpAnyH_takeE (i := 4) (v := .int .i64 (j : Int)) rfl rfl (by kernel_rfl) (by kernel_rfl) (by kernel_rfl) (fun _ _ _ h => h) (Or.inl ⟨by rfl, fun w1 hw => by go_simp⟩) (by assumption) ?_
          (try simp only [Act.put, List.setIfInBounds_toArray, List.set_cons_zero, List.set_cons_succ])
          refine wpAnyH_takeE (i := 5) (v := .slice A6 xs.length c6) rfl rfl (by kernel_rfl) (by kernel_rfl) (by kernel_rfl) (fun _ _ _ h => h) (Or.inl ⟨by rfl, fun w1 hw => by go_simp⟩) (by assumption) ?_
          (try simp only [Act.put, List.setIfInBounds_toArray, List.set_cons_zero, List.set_cons_succ])
          refine wpAnyH_takeE (i := 7) (v := .slice A6 xs.length c6) rfl rfl (by kernel_rfl) (by kernel_rfl) (by kernel_rfl) (fun _ _ _ h => h) (Or.inl ⟨by rfl, fun w1 hw => by go_simp⟩) (by assumption) ?_
          (try simp only [Act.put, List.setIfInBounds_toArray, List.set_cons_zero, List.set_cons_succ])
          refine wpAnyH_ready (rs := [6]) (by kernel_rfl) (by simp) ?_
          refine AllReadyH.cons rfl (fun K' hK => ?_) (AllReadyH.nil)
          go_simp
          go_at_call 75
          refine (HKEYC.out).mono ?_
          rintro e w7 ⟨A7, c7, rfl, ho7, hk7⟩
          have HR7 := Lib.hid (HR6.out.step0 ((Kept.refl _ _).drew.then0 hk7) hKR)
          have HO7 := Lib.hid (OwnR.rin ho7 rfl)
          have HX7 := Lib.hid ((OwnR.rin HO6.out rfl).old (w' := w7) (((Kept.refl Kno w6).drew.then0 hk7).old (Nat.le_refl _) (fun _ _ h => h)) hk7.size)
          clear ho7 hk7 HO6 HKEYC
          go_wp2_with fail
          refine hK.out _ _ ?_ (fun hHeld => ?_)
          · exact ⟨HR7.out.b4, HR7.out.b7⟩
          clear hK K'
          (try simp only [Act.put, List.setIfInBounds_toArray, List.set_cons_zero, List.set_cons_succ])
          refine wpAnyH_ready (rs := [8]) (by kernel_rfl) (by simp) ?_
          refine AllReadyH.cons rfl (fun K' hK => ?_) (AllReadyH.nil)
          go_simp
          go_at_call 74
          refine (rput_any (S3 S (R4 + 1) (R4 + 3) (R4 + 2)) w7.heap.size _ _ _ ver ts (R4 + 2) ts.length ts.length tabs j t rows ky xs w7 HR7.out.p.sch (Nat.le_refl _) HT.out HR7.out.st HROWS.out (hrl HR7.out.ok) (hrf HR7.out.ok) HO7.out HX7.out hxk HR7.out.p.lt).mono ?_
          rintro e w8 ⟨rows', rfl, hst8, hl8, hm8, hk8⟩
          have HR8 := Lib.hid (HR7.out.put H.out.c hwR hst8 hk8 (HR7.out.ok.put (L' := 4 * j + (4 - (m - 1))) HT.out HROWS.out hl8 hm8 (fun _ => ⟨by have := HLEN.out; have := HXL.out; omega, HXV.out⟩) (by omega)))
          have HB4 : Hid (Blk w8 R4 82 #[.int .i64 ver, .slice (some ⟨g, o, none⟩) ts.length tcap]) := Lib.hid (HR7.out.b4.kept hk8 (fun e => by unfold Kone at e; omega))
          have HB7 : Hid (Blk w8 (R4 + 3) 100 #[.slice (some ⟨R4 + 2, 0, none⟩) ts.length ts.length]) := Lib.hid (HR7.out.b7.kept hk8 (fun e => by unfold Kone at e; omega))
          clear hst8 hl8 hm8 hk8 HO7 HX7 HR7
          go_wp2_with fail
          refine hK.out _ _ ?_ (fun hHeld => ?_)
          · exact ⟨HB4.out, HB7.out⟩
          clear hK K'
          (try simp only [Act.put, List.setIfInBounds_toArray, List.set_cons_zero, List.set_cons_succ])
          refine wpAnyH_ready (rs := [9]) (by kernel_rfl) (by simp) ?_
          refine AllReadyH.cons rfl (fun K' hK => ?_) (AllReadyH.nil)
          have c7 := HB7.out.cell 0
          have f7 := HB7.out.frozen 0
          go_simp
          clear c7 f7
          refine hK.out _ _ ?_ (fun hHeld => ?_)
          · exact ⟨HR8.out.b4, HR8.out.b7⟩
          clear hK K'
          refine wpAnyH_done (by kernel_rfl) ?_ _
          clear hHeld
          go_wp2_with fail
          exact ⟨⟨m - 1, _, by omega, by congr 1; omega, HR8.out⟩, by simp only [intOf]; omega⟩
        · have hmI : ¬ (0 : Int) < (m : Int) := by omega
          go_wp2
          go_roundw
          case rel => exact ⟨j + 1, tabs, hlt, by go_num, HR.out.mono (by omega)⟩
          case measure => simp only [intOf]; omega
    · have hltI : ¬ (j : Int) < (ts.length : Int) := by omega
      have c7 : wr.cell? ⟨R4 + 3, 0, none⟩ = some (.slice (some ⟨R4 + 2, 0, none⟩) ts.length ts.length) := HR.out.b7.cell 0
      have c6 : wr.cell? ⟨R4 + 1, 0, none⟩ = some (.slice none 0 0) := HR.out.b6.cell 0
      have f6 := HR.out.b6.frozen 0
      go_wp2_with fail
      refine bodyPost_ret (v := .agg #[.slice (some ⟨R4 + 2, 0, none⟩) ts.length ts.length]) ?_ rfl (HR.out.done H.out.c hwR _ (by omega))
      exact results_cell_row rfl _ _ (R4 + 1) 100 _ (0, 0) _ rfl (HR.out.b6.set_ 0 _) Tryz.underlying100 rfl (by kernel_rfl)

end Go.Proofs.YtffdaohmalmkfaaGreat
