/-
  PacketOwns: the reference's Of: it returns. (Printed by gen_pakpt.py.)
-/
import Derived.Test.YtffdaohmalmkfaaGreatW39
import Derived.Test.YtffdaohmalmkfaaGreatW40
import Derived.Test.YtffdaohmalmkfaaGreatW44
import Derived.Deep.CutBlock
set_option linter.unusedSimpArgs false
set_option linter.unusedVariables false
namespace Go.Proofs.YtffdaohmalmkfaaGreat
open Go.RowKit
set_option linter.unusedVariables false

/-- Two rows of one's own. -/
structure Two (base : Nat) (w : World) (A1 : Option Addr) (c1 n1 : Nat) (A2 : Option Addr) (c2 n2 : Nat) : Prop where
  o1 : ∃ cs, w.ownsRow base 3 1 (.slice A1 n1 c1) n1 cs
  o2 : ∃ cs, w.ownsRow base 49 3 (.slice A2 n2 c2) n2 cs
  ne : ∀ j, (Value.slice A1 n1 c1).ownBlock = some j → (Value.slice A2 n2 c2).ownBlock ≠ some j
section
variable {base : Nat} {w w' : World} {A1 A2 A' : Option Addr} {c1 n1 c2 n2 c' n' : Nat} {S : Nat → Prop}
theorem Two.nil : Two base w none 0 0 none 0 0 := ⟨⟨[], World.ownsRow_nil _ _ _ _⟩, ⟨[], World.ownsRow_nil _ _ _ _⟩, fun j h => by cases h⟩
theorem Two.ge1 (h : Two base w A1 c1 n1 A2 c2 n2) {j : Nat} (e : (Value.slice A1 n1 c1).ownBlock = some j) : base ≤ j ∧ j < w.heap.size := by
  obtain ⟨cs, ho⟩ := h.o1
  exact own_base ho e
theorem Two.ge2 (h : Two base w A1 c1 n1 A2 c2 n2) {j : Nat} (e : (Value.slice A2 n2 c2).ownBlock = some j) : base ≤ j ∧ j < w.heap.size := by
  obtain ⟨cs, ho⟩ := h.o2
  exact own_base ho e
theorem Two.keep (h : Two base w A1 c1 n1 A2 c2 n2) (hk : Kept S w w') (hS : ∀ j, base ≤ j → ¬ S j) : Two base w' A1 c1 n1 A2 c2 n2 := by
  obtain ⟨⟨cs1, h1⟩, ⟨cs2, h2⟩, h3⟩ := h
  exact ⟨⟨cs1, own_kept h1 hk (fun k e => hS k (own_base h1 e).1)⟩, ⟨cs2, own_kept h2 hk (fun k e => hS k (own_base h2 e).1)⟩, h3⟩
theorem Two.app1 (h : Two base w A1 c1 n1 A2 c2 n2) (hg : w.grownBy w' (Value.slice A1 n1 c1).ownBlock) {cs : List Value} (ho : w'.ownsRow base 3 1 (.slice A' n' c') n' cs)
    (hat : (Value.slice A' n' c').ownBlock = (Value.slice A1 n1 c1).ownBlock ∨ (Value.slice A' n' c').ownBlock = some w.heap.size) : Two base w' A' c' n' A2 c2 n2 := by
  obtain ⟨cs2, h2⟩ := h.o2
  refine ⟨⟨cs, ho⟩, ⟨cs2, own_kept h2 ((Kept.refl (fun j => (Value.slice A1 n1 c1).ownBlock = some j) w).grown hg (fun _ _ e => e)) (fun k e2 e1 => h.ne k e1 e2)⟩, fun j e1 e2 => ?_⟩
  rcases hat with e | e
  · exact h.ne j (e ▸ e1) e2
  · rw [e, Option.some.injEq] at e1
    have := (own_base h2 e2).2
    omega
theorem Two.app2 (h : Two base w A1 c1 n1 A2 c2 n2) (hg : w.grownBy w' (Value.slice A2 n2 c2).ownBlock) {cs : List Value} (ho : w'.ownsRow base 49 3 (.slice A' n' c') n' cs)
    (hat : (Value.slice A' n' c').ownBlock = (Value.slice A2 n2 c2).ownBlock ∨ (Value.slice A' n' c').ownBlock = some w.heap.size) : Two base w' A1 c1 n1 A' c' n' := by
  obtain ⟨cs1, h1⟩ := h.o1
  refine ⟨⟨cs1, own_kept h1 ((Kept.refl (fun j => (Value.slice A2 n2 c2).ownBlock = some j) w).grown hg (fun _ _ e => e)) (fun k e1 e2 => h.ne k e1 e2)⟩, ⟨cs, ho⟩, fun j e1 e2 => ?_⟩
  rcases hat with e | e
  · exact h.ne j e1 (e ▸ e2)
  · rw [e, Option.some.injEq] at e2
    have := (own_base h1 e1).2
    omega
end
theorem Kept.trans1 {S : Nat → Prop} {a b c : World} (h : Kept Kno a b) (k : Kept S b c) : Kept S a c := (h.mono (fun _ _ h => h.elim)).trans k (fun _ _ h => h)
theorem blk_rd {w : World} {g size : Nat} {t : TypeId} {cs : List Value} (h : Blk w g t cs.toArray) (hs : cs.length = size := by rfl) : Rd w size (.slice (some ⟨g, 0, none⟩) 1 1) 1 cs :=
  ⟨_, _, rfl, by omega, by omega, (fun h => by cases h), fun ad hA j u hj => by
    cases hA
    rw [add_lit0, Nat.zero_add, h.cell]
    simpa using hj⟩
theorem CellsAt.kept {w w' : World} {S : Nat → Prop} {g o : Nat} {cs : List Value} (h : CellsAt w g o cs) (hk : Kept S w w') (hS : ¬ S g) : CellsAt w' g o cs := fun j u hj => hk.cell_some (h j u hj) hS
def OfOk (w : World) (e : Ending) (w' : World) : Prop := ∃ (A : Option Addr) (n c : Nat) (k : Int), e = .returned (.tuple #[.slice A n c, .int .i64 k]) ∧ Kept Kno w w'
def OfRel (n base : Nat) (w : World) (out i : Value) (wr : World) : Prop :=
  ∃ (k : Nat) (A : Option Addr) (c : Nat) (cs : List Value), k ≤ n ∧ i = .int .i64 k ∧ out = .slice A k c ∧ wr.ownsRow base 73 5 (.slice A k c) k cs ∧ Kept Kno w wr
def OfIn (wi : World) (X : Nat) (op tab : Int) (kv : Value) (i : Value) (wr : World) : Prop :=
  ∃ (j n : Nat) (A1 : Option Addr) (c1 : Nat) (A2 : Option Addr) (c2 : Nat), j ≤ 8 ∧ n ≤ j ∧ i = .int .i64 j ∧ Two wi.heap.size wr A1 c1 n A2 c2 n ∧ Blk wr X 73 #[.int .i64 op, .int .i64 tab, kv, .slice A1 n c1, .slice A2 n c2] ∧ Kept (Kone X) wi wr

set_option maxRecDepth 100000 in
set_option maxHeartbeats 3000000 in
theorem of_any (B : Nat) (sv av bv : Value) (ver : Int) (ts : List Tbl) (ta tb : List (List (List Val))) (L : Nat) (w : World) (h : SchIn w B ver ts sv) (ha : StR w B av ta) (hb : StR w B bv tb) (hB : B ≤ w.heap.size) (hts : 0 < ts.length) (hoa : TabsOk ts L ta) (hob : TabsOk ts L tb) (hL : L ≤ 1000) :
    Calls Tryz.prog 65 #[sv, av, bv] w (OfOk w) := by
  obtain ⟨i0, hi, hz0, hz1, hz2⟩ := info_parts info_edit
  obtain ⟨i1, hi1, hy0, hy1, hy2⟩ := info_parts info_into
  obtain ⟨i2, hi2, hx0, hx1, hx2⟩ := info_parts info_val
  obtain ⟨t0, ht0⟩ : ∃ t, ts[0]? = some t := ⟨_, List.getElem?_eq_getElem hts⟩
  obtain ⟨g, o, cap, -, rfl, hcap, hmax, hgB, -, -⟩ := h.tbl ht0
  have h4 : ts.length ≤ 4 := by obtain ⟨_, _, _, h4, _⟩ := h; exact h4
  have hla := hoa.1
  have hlb := hob.1
  obtain ⟨r0, hr0⟩ : ∃ r, ta[0]? = some r := ⟨_, List.getElem?_eq_getElem (by omega)⟩
  obtain ⟨r1, hr1⟩ : ∃ r, tb[0]? = some r := ⟨_, List.getElem?_eq_getElem (by omega)⟩
  obtain ⟨ga, oa, ca, -, rfl, hca, hma, hgBa, -, -⟩ := ha.row hr0
  obtain ⟨gb, ob, cb, -, rfl, hcb, hmb, hgBb, -, -⟩ := hb.row hr1
  have HS_ := Lib.hid h
  have HA_ := Lib.hid ha
  have HB_ := Lib.hid hb
  have HOA := Lib.hid hoa
  have HOB := Lib.hid hob
  have hmax' : cap ≤ 9223372036854775807 := by simpa only [maxLen] using hmax
  have hma' : ca ≤ 9223372036854775807 := by simpa only [maxLen] using hma
  have hmb' : cb ≤ 9223372036854775807 := by simpa only [maxLen] using hmb
  clear h ha hb hoa hob ht0 hr0 hr1 hmax hma hmb hla hlb
  go_enter Tryz.func65, Tryz.ntmps65
  go_upto_region 1 with (fail)
  obtain ⟨w0, h0⟩ : ∃ w0, ((w.alloc (.cells #[.int .i64 ver, .slice (some ⟨g, o, none⟩) ts.length cap] 82)).alloc (.cells #[.slice (some ⟨ga, oa, none⟩) ta.length ca] 100)).alloc (.cells #[.slice (some ⟨gb, ob, none⟩) tb.length cb] 100) = w0 := ⟨_, rfl⟩
  have HK0 : Hid (Kept Kno w w0) := Lib.hid (by rw [← h0]; exact (((Kept.refl _ _).alloc _).alloc _).alloc _)
  have HSB0 : Hid (Blk w0 w.heap.size 82 #[.int .i64 ver, .slice (some ⟨g, o, none⟩) ts.length cap]) := Lib.hid (by rw [← h0]; exact ((Blk.new _ _ _).alloc _).alloc _)
  have HB6 : Hid (Blk w0 (w.heap.size + 1) 100 #[.slice (some ⟨ga, oa, none⟩) ta.length ca]) := Lib.hid (by rw [← h0]; have := (Blk.new (w.alloc (.cells #[.int .i64 ver, .slice (some ⟨g, o, none⟩) ts.length cap] 82)) 100 #[.slice (some ⟨ga, oa, none⟩) ta.length ca]).alloc (.cells #[.slice (some ⟨gb, ob, none⟩) tb.length cb] 100); simpa using this)
  have HB7 : Hid (Blk w0 (w.heap.size + 1 + 1) 100 #[.slice (some ⟨gb, ob, none⟩) tb.length cb]) := Lib.hid (by rw [← h0]; have := Blk.new ((w.alloc (.cells #[.int .i64 ver, .slice (some ⟨g, o, none⟩) ts.length cap] 82)).alloc (.cells #[.slice (some ⟨ga, oa, none⟩) ta.length ca] 100)) 100 #[.slice (some ⟨gb, ob, none⟩) tb.length cb]; simpa using this)
  rw [h0]
  clear h0
  have HX : Hid (∀ (A : Option Addr) (n c : Nat) (k : Int) (w' : World), Kept Kno w0 w' → OfOk w (.returned (.tuple #[.slice A n c, .int .i64 k])) w') := Lib.hid (fun A n c k w' hk => ⟨A, n, c, k, rfl, HK0.out.then0 hk⟩)
  have hB0 : B ≤ w0.heap.size := Nat.le_trans hB HK0.out.size
  have HSCH := Lib.hid (HS_.out.keep0 hB HK0.out)
  have b0 : w0.cell? ⟨w.heap.size, 0, none⟩ = some (.int .i64 ver) := HSB0.out.cell 0
  have b1 : w0.cell? ⟨w.heap.size, 0 + 1, none⟩ = some (.slice (some ⟨g, o, none⟩) ts.length cap) := HSB0.out.cell 1
  have b6 : w0.cell? ⟨w.heap.size + 1, 0, none⟩ = some (.slice (some ⟨ga, oa, none⟩) ta.length ca) := HB6.out.cell 0
  have b7 : w0.cell? ⟨w.heap.size + 1 + 1, 0, none⟩ = some (.slice (some ⟨gb, ob, none⟩) tb.length cb) := HB7.out.cell 0
  go_wp2_with fail
  refine (diff_any B _ _ _ ver ts ta tb L w0 HSCH.out (HA_.out.keep0 hB HK0.out) (HB_.out.keep0 hB HK0.out) hB0 hts HOA.out HOB.out hL).mono ?_
  rintro e w1 ⟨A, c, k1, chs, rfl, hly, hok, hlen, hk1⟩
  clear b0 b1 b6 b7 HB6 HB7
  obtain ⟨S3, hS3⟩ : ∃ n, w.heap.size = n := ⟨_, rfl⟩
  have hBS : B ≤ S3 := by omega
  have HLY := Lib.hid hly
  have HOK := Lib.hid hok
  have HK1 := Lib.hid hk1
  have HSB1 := Lib.hid (HSB0.out.kept hk1 (fun h => h))
  rw [hS3] at HSB1 ⊢
  have hcl : chs.length ≤ c := by obtain ⟨A', c', he, h3, -⟩ := hly; simp only [Value.slice.injEq] at he; rw [he.2.2]; exact h3
  have hcm : c ≤ 9223372036854775807 := by obtain ⟨A', c', he, -, h4, -⟩ := hly; simp only [Value.slice.injEq] at he; rw [he.2.2]; simpa only [maxLen] using h4
  clear hly hok hk1 HSB0 hS3
  by_cases hk10 : k1 = 0
  rotate_left
  · have hkb : (k1 != 0) = true := by rw [bne_iff_ne]; exact hk10
    go_wp2
    go_ret2
    exact HX.out _ _ _ _ _ HK1.out
  subst hk10
  have hB1 : B ≤ w1.heap.size := Nat.le_trans hB0 HK1.out.size
  have hS31 : S3 < w1.heap.size := HSB1.out.lt
  go_upto_region 6 with (fail)
  obtain ⟨n, hn⟩ : ∃ n, chs.length = n := ⟨_, rfl⟩
  have HN := Lib.hid hn
  rw [hn] at hlen hcl HLY ⊢
  clear hn
  go_loopw [10, 27] (fun x i wr => OfRel n w1.heap.size w1 x i wr) (fun _ i _ => n - (intOf i).toNat)
  case atStart => exact ⟨0, none, 0, [], Nat.zero_le _, rfl, rfl, World.ownsRow_nil _ _ _ _, Kept.refl _ _⟩
  case round =>
    obtain ⟨k, Ao, co, cso, hk, rfl, rfl, hown, hkr⟩ := hrel
    have HOWN := Lib.hid hown
    have HKR := Lib.hid hkr
    have hk0 : (0 : Int) ≤ (k : Int) := by omega
    clear hown hkr
    by_cases hlt : k < n
    · have hltI : (k : Int) < (n : Int) := by omega
      obtain ⟨x, hx⟩ : ∃ x, chs[k]? = some x := ⟨_, List.getElem?_eq_getElem (by rw [HN.out]; exact hlt)⟩
      have hxo := HOK.out x (List.mem_of_getElem? hx)
      obtain ⟨A', c', he, -, -, -, -, hat⟩ := HLY.out
      simp only [Value.slice.injEq, true_and] at he
      obtain ⟨rfl, rfl⟩ := he
      obtain ⟨gc, oc0, rfl, hgc, hat⟩ := hat (by omega)
      obtain ⟨cs, -, hq, hcc⟩ := hat k x hx
      obtain ⟨ov, nv, rfl, hov, hnv⟩ := hq
      obtain ⟨oA, oc, rfl⟩ : ∃ A c, ov = .slice A x.ox.length c := SlIn.form hov
      obtain ⟨nA, nc, rfl⟩ : ∃ A c, nv = .slice A x.nx.length c := SlIn.form hnv
      have hcc' : CellsAt wr gc (oc0 + k * 3) [.int .i64 (x.tab : Int), .slice oA x.ox.length oc, .slice nA x.nx.length nc] := CellsAt.old (show CellsAt w1 gc (oc0 + k * 3) [.int .i64 (x.tab : Int), .slice oA x.ox.length oc, .slice nA x.nx.length nc] from hcc) hgc (HKR.out.old (Nat.le_refl _) (fun _ _ h => h))
      obtain ⟨tab, htab⟩ : ∃ n, x.tab = n := ⟨_, rfl⟩
      rw [htab] at hcc'
      have HCC := Lib.hid hcc'
      have HCH := Lib.hid hxo
      have HOVR := Lib.hid (hov.keep0 (Nat.le_refl _) HKR.out)
      have HNVR := Lib.hid (hnv.keep0 (Nat.le_refl _) HKR.out)
      have HTAB := Lib.hid htab
      clear hx hxo hcc hcc' hov hnv hat htab
      go_upto_region 8 with (first
        | (refine wpList_load_at rfl 223 (.tmp 29) rfl gc (oc0 + k * 3) [.int .i64 (tab : Int), .slice oA x.ox.length oc, .slice nA x.nx.length nc] _ rfl HCC.out Tryz.underlying223 rfl (by kernel_rfl) ?_)
        | (refine wpList_store_new rfl 223 (.tmp 12) (.tmp 30) rfl _ #[.int .i64 (tab : Int), .slice oA x.ox.length oc, .slice nA x.nx.length nc] rfl rfl (by kernel_rfl) rfl (by simp [Value.oneCell']) ?_))
      obtain ⟨wy, hwy⟩ : ∃ wy, wr.alloc (.cells #[.int .i64 (tab : Int), .slice oA x.ox.length oc, .slice nA x.nx.length nc] 223) = wy := ⟨_, rfl⟩
      obtain ⟨C, hC⟩ : ∃ n, wr.heap.size = n := ⟨_, rfl⟩
      have HKY : Hid (Kept Kno wr wy) := Lib.hid (by rw [← hwy]; exact (Kept.refl _ _).alloc _)
      have HCB : Hid (Blk wy C 223 #[.int .i64 (tab : Int), .slice oA x.ox.length oc, .slice nA x.nx.length nc]) := Lib.hid (by rw [← hwy, ← hC]; exact Blk.new _ _ _)
      have HSB := Lib.hid ((HSB1.out.kept HKR.out (fun h => h)).kept HKY.out (fun h => h))
      have hCr : wr.heap.size ≤ C := by omega
      have hw1C : w1.heap.size ≤ C := by have := HKR.out.size; omega
      have hCy : C < wy.heap.size := HCB.out.lt
      have hwry : wr.heap.size ≤ wy.heap.size := HKY.out.size
      rw [hwy, hC]
      clear hwy hC HCC
      have HKEYOF : Hid (∀ wx, Kept Kno wy wx → Calls Tryz.prog 129 #[.agg #[.int .i64 ver, .slice (some ⟨g, o, none⟩) ts.length cap], .agg #[.int .i64 (tab : Int), .slice oA x.ox.length oc, .slice nA x.nx.length nc]] wx (KeyOfOk wx)) := Lib.hid (fun wx hk => by
        have hkx := HKY.out.then0 hk
        have h1 := keyof_any wr.heap.size (.agg #[.int .i64 ver, .slice (some ⟨g, o, none⟩) ts.length cap]) (.slice oA x.ox.length oc) (.slice nA x.nx.length nc) ver ts x wx ((HSCH.out.keep0 hB0 ((HK1.out.then0 HKR.out).then0 hkx)).old (fun _ _ => rfl) (by have := (HK1.out.then0 HKR.out).size; omega)) hkx.size HCH.out ((HOVR.out.keep0 HKR.out.size hkx).old (fun _ _ => rfl) HKR.out.size) ((HNVR.out.keep0 HKR.out.size hkx).old (fun _ _ => rfl) HKR.out.size)
        rw [HTAB.out] at h1
        exact h1)
      simp only [Act.put]
      go_cut [13] (fun s wx => ∃ (X : Nat) (kv : Value), s = .pointer (some ⟨X, 0, none⟩) ∧ Blk wx X 73 #[.int .i64 2, .int .i64 (tab : Int), kv, .slice none 0 0, .slice none 0 0] ∧ kv.oneCell' = true ∧ wy.heap.size ≤ X ∧ Kept Kno wy wx)
      case first =>
          refine wp_region_held_drew (S := fun w' => Blk w' S3 82 #[.int .i64 ver, .slice (some ⟨g, o, none⟩) ts.length cap] ∧ Blk w' C 223 #[.int .i64 (tab : Int), .slice oA x.ox.length oc, .slice nA x.nx.length nc]) (by kernel_rfl) ⟨HSB.out.drew, HCB.out.drew⟩ (fun hHeld => ?_)
          refine wpAnyH_takeE (i := 0) (v := .pointer (some ⟨C, 0, none⟩)) rfl rfl (by kernel_rfl) (by kernel_rfl) (by kernel_rfl) (fun _ _ _ h => h) (Or.inl ⟨by rfl, fun w1 hw => by go_simp⟩) (by assumption) ?_
          (try simp only [Act.put, List.setIfInBounds_toArray, List.set_cons_zero, List.set_cons_succ])
          refine wpAnyH_takeE (i := 1) (v := .int .i64 (tab : Int)) rfl rfl (by kernel_rfl) (by kernel_rfl) (by kernel_rfl) (fun _ _ _ h => h) (Or.inl ⟨by rfl, fun w1 hw => by have c1 : w1.cell? ⟨C, 0, none⟩ = some (.int .i64 (tab : Int)) := hw.2.cell 0; clear hw; go_simp⟩) (by assumption) ?_
          (try simp only [Act.put, List.setIfInBounds_toArray, List.set_cons_zero, List.set_cons_succ])
          refine wpAnyH_takeE (i := 2) (v := .agg ([.int .i64 ver, .slice (some ⟨g, o, none⟩) ts.length cap]).toArray) rfl rfl (by kernel_rfl) (by kernel_rfl) (by kernel_rfl) (fun _ _ _ h => h) (yieldsIf_load_atE (by rfl) 82 _ rfl (S3) (0) rfl ([.int .i64 ver, .slice (some ⟨g, o, none⟩) ts.length cap]) _ (fun w1 hw => CellsAt.blk hw.1) Tryz.underlying82 rfl (by kernel_rfl)) (by assumption) ?_
          (try simp only [Act.put, List.setIfInBounds_toArray, List.set_cons_zero, List.set_cons_succ])
          refine wpAnyH_takeE (i := 3) (v := .agg ([.int .i64 (tab : Int), .slice oA x.ox.length oc, .slice nA x.nx.length nc]).toArray) rfl rfl (by kernel_rfl) (by kernel_rfl) (by kernel_rfl) (fun _ _ _ h => h) (yieldsIf_load_atE (by rfl) 223 _ rfl (C) (0) rfl ([.int .i64 (tab : Int), .slice oA x.ox.length oc, .slice nA x.nx.length nc]) _ (fun w1 hw => CellsAt.blk hw.2) Tryz.underlying223 rfl (by kernel_rfl)) (by assumption) ?_
          (try simp only [Act.put, List.setIfInBounds_toArray, List.set_cons_zero, List.set_cons_succ])
          refine wpAnyH_ready (rs := [4, 7]) (by kernel_rfl) (by simp) ?_
          refine AllReadyH.cons rfl (fun K' hK => ?_) (AllReadyH.cons rfl (fun K' hK => ?_) (AllReadyH.nil))
          · go_simp
            go_at_call 129
            refine (HKEYOF.out _ ((Kept.refl _ wy).drew)).mono ?_
            rintro e w4 ⟨kx, ⟨A4, c4, rfl, ho4, hk4⟩, hkl⟩
            have HK4 : Hid (Kept Kno wy w4) := Lib.hid (((Kept.refl _ wy).drew).then0 hk4)
            have HO4 := Lib.hid (OwnR.rin ho4 rfl)
            have HKL := Lib.hid (Nat.le_trans hkl (by decide : 8 ≤ 1000))
            clear ho4 hk4 hkl
            go_wp2_with fail
            refine hK.out _ _ ?_ (fun hHeld => ?_)
            · exact ⟨HSB.out.kept HK4.out (fun h => h), HCB.out.kept HK4.out (fun h => h)⟩
            clear hK K'
            (try simp only [Act.put, List.setIfInBounds_toArray, List.set_cons_zero, List.set_cons_succ])
            refine wpAnyH_ready (rs := [5, 7]) (by kernel_rfl) (by simp) ?_
            refine AllReadyH.cons rfl (fun K' hK => ?_) (AllReadyH.cons rfl (fun K' hK => ?_) (AllReadyH.nil))
            · go_simp
              go_at_call 128
              refine (rcopy_any _ _ kx w4 (HO4.out) HKL.out).mono ?_
              rintro e w5 ⟨A5, c5, rfl, ho5, hk5⟩
              have HK5 : Hid (Kept Kno wy w5) := Lib.hid ((HK4.out).then0 hk5)
              have HKW : Hid (Kept Kno w4 w5) := Lib.hid hk5
              clear ho5 hk5
              go_wp2_with fail
              refine hK.out _ _ ?_ (fun hHeld => ?_)
              · exact ⟨HSB.out.kept HK5.out (fun h => h), HCB.out.kept HK5.out (fun h => h)⟩
              clear hK K'
              (try simp only [Act.put, List.setIfInBounds_toArray, List.set_cons_zero, List.set_cons_succ])
              refine wpAnyH_takeE (i := 6) (v := .agg #[.int .i64 2, .int .i64 (tab : Int), .slice A5 kx.length c5, .slice none 0 0, .slice none 0 0]) rfl rfl (by kernel_rfl) (by kernel_rfl) (by kernel_rfl) (fun _ _ _ h => h) (Or.inl ⟨by rfl, fun w1 hw => by go_simp⟩) (by assumption) ?_
              (try simp only [Act.put, List.setIfInBounds_toArray, List.set_cons_zero, List.set_cons_succ])
              refine wpAnyH_ready (rs := [7]) (by kernel_rfl) (by simp) ?_
              refine AllReadyH.cons rfl (fun K' hK => ?_) (AllReadyH.nil)
              go_simp
              refine hK.out _ _ ?_ (fun hHeld => ?_)
              · exact ⟨HSB.out.kept ((HK5.out).alloc _) (fun h => h), HCB.out.kept ((HK5.out).alloc _) (fun h => h)⟩
              clear hK K'
              (try simp only [Act.put, List.setIfInBounds_toArray, List.set_cons_zero, List.set_cons_succ])
              refine wpAnyH_ready (rs := [8]) (by kernel_rfl) (by simp) ?_
              refine AllReadyH.cons rfl (fun K' hK => ?_) (AllReadyH.nil)
              rw [if_pos (by rfl)]
              have hbx : Blk (w5.alloc (.cells #[.int .i64 0, .int .i64 0, .slice none 0 0, .slice none 0 0, .slice none 0 0] 73)) (w5.heap.size) 73 #[.int .i64 0, .int .i64 0, .slice none 0 0, .slice none 0 0, .slice none 0 0] := Blk.new _ _ _
              refine wp_store_row 73 (.tmp 13) (.tmp 37) rfl (w5.heap.size) #[.int .i64 2, .int .i64 (tab : Int), .slice A5 kx.length c5, .slice none 0 0, .slice none 0 0] rfl rfl _ _ hbx (by kernel_rfl) rfl (by simp [Value.oneCell']) ?_
              have hXy : wy.heap.size ≤ w5.heap.size := HK5.out.size
              have hkz : Kept Kno wy ((w5.alloc (.cells #[.int .i64 0, .int .i64 0, .slice none 0 0, .slice none 0 0, .slice none 0 0] 73)).setRow (w5.heap.size) #[.int .i64 2, .int .i64 (tab : Int), .slice A5 kx.length c5, .slice none 0 0, .slice none 0 0]) := (HK5.out.alloc _).setRow (fun h => absurd h (by omega)) _
              refine hK.out _ _ ?_ (fun hHeld => ?_)
              · exact ⟨HSB.out.kept hkz (fun h => h), HCB.out.kept hkz (fun h => h)⟩
              clear hK K'
              refine wpAnyH_done (by kernel_rfl) ?_ _
              clear hHeld
              go_wp2_with fail
              go_meet
              exact ⟨_, .slice A5 kx.length c5, rfl, hbx.setRow _, rfl, hXy, hkz⟩
            · go_simp
              refine hK.out _ _ ?_ (fun hHeld => ?_)
              · exact ⟨HSB.out.kept ((HK4.out).alloc _) (fun h => h), HCB.out.kept ((HK4.out).alloc _) (fun h => h)⟩
              clear hK K'
              (try simp only [Act.put, List.setIfInBounds_toArray, List.set_cons_zero, List.set_cons_succ])
              refine wpAnyH_ready (rs := [5]) (by kernel_rfl) (by simp) ?_
              refine AllReadyH.cons rfl (fun K' hK => ?_) (AllReadyH.nil)
              go_simp
              go_at_call 128
              refine (rcopy_any _ _ kx (w4.alloc (.cells #[.int .i64 0, .int .i64 0, .slice none 0 0, .slice none 0 0, .slice none 0 0] 73)) (HO4.out.old (((Kept.refl Kno w4).alloc _).old (Nat.le_refl _) (fun _ _ h => h)) ((Kept.refl Kno w4).alloc (.cells #[.int .i64 0, .int .i64 0, .slice none 0 0, .slice none 0 0, .slice none 0 0] 73)).size) HKL.out).mono ?_
              rintro e w5 ⟨A5, c5, rfl, ho5, hk5⟩
              have HK5 : Hid (Kept Kno wy w5) := Lib.hid ((HK4.out.alloc _).then0 hk5)
              have HKW : Hid (Kept Kno (w4.alloc (.cells #[.int .i64 0, .int .i64 0, .slice none 0 0, .slice none 0 0, .slice none 0 0] 73)) w5) := Lib.hid hk5
              clear ho5 hk5
              go_wp2_with fail
              refine hK.out _ _ ?_ (fun hHeld => ?_)
              · exact ⟨HSB.out.kept HK5.out (fun h => h), HCB.out.kept HK5.out (fun h => h)⟩
              clear hK K'
              (try simp only [Act.put, List.setIfInBounds_toArray, List.set_cons_zero, List.set_cons_succ])
              refine wpAnyH_takeE (i := 6) (v := .agg #[.int .i64 2, .int .i64 (tab : Int), .slice A5 kx.length c5, .slice none 0 0, .slice none 0 0]) rfl rfl (by kernel_rfl) (by kernel_rfl) (by kernel_rfl) (fun _ _ _ h => h) (Or.inl ⟨by rfl, fun w1 hw => by go_simp⟩) (by assumption) ?_
              (try simp only [Act.put, List.setIfInBounds_toArray, List.set_cons_zero, List.set_cons_succ])
              refine wpAnyH_ready (rs := [8]) (by kernel_rfl) (by simp) ?_
              refine AllReadyH.cons rfl (fun K' hK => ?_) (AllReadyH.nil)
              rw [if_pos (by rfl)]
              have hbx : Blk (w5) (w4.heap.size) 73 #[.int .i64 0, .int .i64 0, .slice none 0 0, .slice none 0 0, .slice none 0 0] := (Blk.new w4 _ _).kept HKW.out (fun h => h)
              refine wp_store_row 73 (.tmp 13) (.tmp 37) rfl (w4.heap.size) #[.int .i64 2, .int .i64 (tab : Int), .slice A5 kx.length c5, .slice none 0 0, .slice none 0 0] rfl rfl _ _ hbx (by kernel_rfl) rfl (by simp [Value.oneCell']) ?_
              have hXy : wy.heap.size ≤ w4.heap.size := HK4.out.size
              have hkz : Kept Kno wy ((w5).setRow (w4.heap.size) #[.int .i64 2, .int .i64 (tab : Int), .slice A5 kx.length c5, .slice none 0 0, .slice none 0 0]) := (HK5.out).setRow (fun h => absurd h (by omega)) _
              refine hK.out _ _ ?_ (fun hHeld => ?_)
              · exact ⟨HSB.out.kept hkz (fun h => h), HCB.out.kept hkz (fun h => h)⟩
              clear hK K'
              refine wpAnyH_done (by kernel_rfl) ?_ _
              clear hHeld
              go_wp2_with fail
              go_meet
              exact ⟨_, .slice A5 kx.length c5, rfl, hbx.setRow _, rfl, hXy, hkz⟩
          · go_simp
            refine hK.out _ _ ?_ (fun hHeld => ?_)
            · exact ⟨HSB.out.kept (((Kept.refl Kno wy).drew).alloc _) (fun h => h), HCB.out.kept (((Kept.refl Kno wy).drew).alloc _) (fun h => h)⟩
            clear hK K'
            (try simp only [Act.put, List.setIfInBounds_toArray, List.set_cons_zero, List.set_cons_succ])
            have hkd : Kept Kno wy (wy.drew.alloc (.cells #[.int .i64 0, .int .i64 0, .slice none 0 0, .slice none 0 0, .slice none 0 0] 73)) := (Kept.refl _ wy).drew.alloc _
            refine wpAnyH_ready (rs := [4]) (by kernel_rfl) (by simp) ?_
            refine AllReadyH.cons rfl (fun K' hK => ?_) (AllReadyH.nil)
            go_simp
            go_at_call 129
            refine (HKEYOF.out _ (hkd)).mono ?_
            rintro e w4 ⟨kx, ⟨A4, c4, rfl, ho4, hk4⟩, hkl⟩
            have hbz := (Blk.new wy.drew 73 #[.int .i64 0, .int .i64 0, .slice none 0 0, .slice none 0 0, .slice none 0 0]).kept hk4 (fun h => h)
            have HK4 : Hid (Kept Kno wy w4) := Lib.hid ((hkd).then0 hk4)
            have HO4 := Lib.hid (OwnR.rin ho4 rfl)
            have HKL := Lib.hid (Nat.le_trans hkl (by decide : 8 ≤ 1000))
            clear ho4 hk4 hkl
            go_wp2_with fail
            refine hK.out _ _ ?_ (fun hHeld => ?_)
            · exact ⟨HSB.out.kept HK4.out (fun h => h), HCB.out.kept HK4.out (fun h => h)⟩
            clear hK K'
            (try simp only [Act.put, List.setIfInBounds_toArray, List.set_cons_zero, List.set_cons_succ])
            refine wpAnyH_ready (rs := [5]) (by kernel_rfl) (by simp) ?_
            refine AllReadyH.cons rfl (fun K' hK => ?_) (AllReadyH.nil)
            go_simp
            go_at_call 128
            refine (rcopy_any _ _ kx w4 (HO4.out) HKL.out).mono ?_
            rintro e w5 ⟨A5, c5, rfl, ho5, hk5⟩
            have HK5 : Hid (Kept Kno wy w5) := Lib.hid ((HK4.out).then0 hk5)
            have HKW : Hid (Kept Kno w4 w5) := Lib.hid hk5
            clear ho5 hk5
            go_wp2_with fail
            refine hK.out _ _ ?_ (fun hHeld => ?_)
            · exact ⟨HSB.out.kept HK5.out (fun h => h), HCB.out.kept HK5.out (fun h => h)⟩
            clear hK K'
            (try simp only [Act.put, List.setIfInBounds_toArray, List.set_cons_zero, List.set_cons_succ])
            refine wpAnyH_takeE (i := 6) (v := .agg #[.int .i64 2, .int .i64 (tab : Int), .slice A5 kx.length c5, .slice none 0 0, .slice none 0 0]) rfl rfl (by kernel_rfl) (by kernel_rfl) (by kernel_rfl) (fun _ _ _ h => h) (Or.inl ⟨by rfl, fun w1 hw => by go_simp⟩) (by assumption) ?_
            (try simp only [Act.put, List.setIfInBounds_toArray, List.set_cons_zero, List.set_cons_succ])
            refine wpAnyH_ready (rs := [8]) (by kernel_rfl) (by simp) ?_
            refine AllReadyH.cons rfl (fun K' hK => ?_) (AllReadyH.nil)
            rw [if_pos (by rfl)]
            have hbx : Blk (w5) (wy.heap.size) 73 #[.int .i64 0, .int .i64 0, .slice none 0 0, .slice none 0 0, .slice none 0 0] := hbz.kept HKW.out (fun h => h)
            refine wp_store_row 73 (.tmp 13) (.tmp 37) rfl (wy.heap.size) #[.int .i64 2, .int .i64 (tab : Int), .slice A5 kx.length c5, .slice none 0 0, .slice none 0 0] rfl rfl _ _ hbx (by kernel_rfl) rfl (by simp [Value.oneCell']) ?_
            have hXy : wy.heap.size ≤ wy.heap.size := Nat.le_refl _
            have hkz : Kept Kno wy ((w5).setRow (wy.heap.size) #[.int .i64 2, .int .i64 (tab : Int), .slice A5 kx.length c5, .slice none 0 0, .slice none 0 0]) := (HK5.out).setRow (fun h => absurd h (by omega)) _
            refine hK.out _ _ ?_ (fun hHeld => ?_)
            · exact ⟨HSB.out.kept hkz (fun h => h), HCB.out.kept hkz (fun h => h)⟩
            clear hK K'
            refine wpAnyH_done (by kernel_rfl) ?_ _
            clear hHeld
            go_wp2_with fail
            go_meet
            exact ⟨_, .slice A5 kx.length c5, rfl, hbx.setRow _, rfl, hXy, hkz⟩
      case rest =>
      obtain ⟨X, kv, rfl, hbx, hkv1, hXy, hkc⟩ := hcut
      have HBX := Lib.hid hbx
      have HKC := Lib.hid hkc
      have HKV1 := Lib.hid hkv1
      obtain ⟨wa, rfl⟩ : ∃ x, x = wc := ⟨wc, rfl⟩
      have HSBA := Lib.hid (HSB.out.kept hkc (fun h => h))
      have HCBA := Lib.hid (HCB.out.kept hkc (fun h => h))
      have c1 : wa.cell? ⟨C, 1, none⟩ = some (.slice oA x.ox.length oc) := HCBA.out.cell 1
      have c2 : wa.cell? ⟨C, 2, none⟩ = some (.slice nA x.nx.length nc) := HCBA.out.cell 2
      have x0 : wa.cell? ⟨X, 0, none⟩ = some (.int .i64 2) := HBX.out.cell 0
      have fx0 := HBX.out.frozen 0
      have hCX : C ≠ X := by omega
      have hSX : S3 ≠ X := by have := HSB.out.lt; omega
      clear hbx hkc hkv1
      go_upto_block 2 with (fail)
      go_cut [] (fun wx => ∃ op : Int, Blk wx X 73 #[.int .i64 op, .int .i64 (tab : Int), kv, .slice none 0 0, .slice none 0 0] ∧ Kept Kno wy wx ∧ ((op = 3 ∧ x.nx = []) ∨ (op = 1 ∧ x.nx ≠ []) ∨ (op = 2 ∧ x.ox ≠ [] ∧ x.nx ≠ [])))
      case first =>
        by_cases hn0 : x.nx.length = 0
        · have hnb : ((x.nx.length : Int) == 0) = true := by rw [hn0]; rfl
          have HR := Lib.hid (show ∃ op : Int, Blk (wa.setCell ⟨X, 0, none⟩ (.int .i64 3)) X 73 #[.int .i64 op, .int .i64 (tab : Int), kv, .slice none 0 0, .slice none 0 0] ∧ Kept Kno wy (wa.setCell ⟨X, 0, none⟩ (.int .i64 3)) ∧ ((op = 3 ∧ x.nx = []) ∨ (op = 1 ∧ x.nx ≠ []) ∨ (op = 2 ∧ x.ox ≠ [] ∧ x.nx ≠ [])) from ⟨3, by have := HBX.out.set_ 0 (.int .i64 3); simpa using this, HKC.out.setNew (p := ⟨X, 0, none⟩) hXy _, Or.inl ⟨rfl, List.eq_nil_of_length_eq_zero hn0⟩⟩)
          clear hn0
          go_wp2_with fail
          go_meet
          exact HR.out
        · have hnb : ((x.nx.length : Int) == 0) = false := by rw [beq_eq_false_iff_ne]; omega
          have HN0 := Lib.hid (show x.nx ≠ [] from fun e => hn0 (by rw [e]; rfl))
          clear hn0
          by_cases ho0 : x.ox.length = 0
          · have hob : ((x.ox.length : Int) == 0) = true := by rw [ho0]; rfl
            have HR := Lib.hid (show ∃ op : Int, Blk (wa.setCell ⟨X, 0, none⟩ (.int .i64 1)) X 73 #[.int .i64 op, .int .i64 (tab : Int), kv, .slice none 0 0, .slice none 0 0] ∧ Kept Kno wy (wa.setCell ⟨X, 0, none⟩ (.int .i64 1)) ∧ ((op = 3 ∧ x.nx = []) ∨ (op = 1 ∧ x.nx ≠ []) ∨ (op = 2 ∧ x.ox ≠ [] ∧ x.nx ≠ [])) from ⟨1, by have := HBX.out.set_ 0 (.int .i64 1); simpa using this, HKC.out.setNew (p := ⟨X, 0, none⟩) hXy _, Or.inr (Or.inl ⟨rfl, HN0.out⟩)⟩)
            clear ho0
            go_wp2_with fail
            go_meet
            exact HR.out
          · have hob : ((x.ox.length : Int) == 0) = false := by rw [beq_eq_false_iff_ne]; omega
            have HR := Lib.hid (show ∃ op : Int, Blk wa X 73 #[.int .i64 op, .int .i64 (tab : Int), kv, .slice none 0 0, .slice none 0 0] ∧ Kept Kno wy wa ∧ ((op = 3 ∧ x.nx = []) ∨ (op = 1 ∧ x.nx ≠ []) ∨ (op = 2 ∧ x.ox ≠ [] ∧ x.nx ≠ [])) from ⟨2, HBX.out, HKC.out, Or.inr (Or.inr ⟨rfl, fun e => ho0 (by rw [e]; rfl), HN0.out⟩)⟩)
            clear ho0
            go_wp2_with fail
            go_meet
            exact HR.out
      case rest =>
      obtain ⟨wb, rfl⟩ : ∃ x, x = wc := ⟨wc, rfl⟩
      obtain ⟨op, hbx, hkb, hop⟩ := hcut
      have HBXB := Lib.hid hbx
      have HOP := Lib.hid hop
      have hXb : X < wb.heap.size := hbx.lt
      have HKW0 := Lib.hid ((HK1.out.then0 HKR.out).then0 (HKY.out.then0 hkb))
      have HKRB := Lib.hid (HKY.out.then0 hkb)
      have HSBB := Lib.hid (HSB.out.kept hkb (fun h => h))
      have HCBB := Lib.hid (HCB.out.kept hkb (fun h => h))
      obtain ⟨t, ht, hfo, hfn, -⟩ := HCH.out
      rw [HTAB.out] at ht
      obtain ⟨g', o', cap', st, he, -, -, hg', hTI, hcc⟩ := HSCH.out.tbl ht
      simp only [Value.agg.injEq, Array.mk.injEq, List.cons.injEq, Value.slice.injEq, Option.some.injEq, Addr.mk.injEq, and_true, true_and] at he
      obtain ⟨⟨rfl, rfl⟩, rfl⟩ := he
      obtain ⟨htl, -⟩ := List.getElem?_eq_some_iff.1 ht
      obtain ⟨-, -, h8, hk1, hk2, -, -⟩ := hTI
      obtain ⟨kn, hkn⟩ : ∃ kn : Nat, t.key = kn := ⟨t.key.toNat, by omega⟩
      have hkc := HKW0.out.cell_some (hcc 2 _ rfl) (fun h => h)
      rw [hkn] at hkc
      have s1 : wb.cell? ⟨S3, 1, none⟩ = some (.slice (some ⟨g, o, none⟩) ts.length cap) := HSBB.out.cell 1
      have cc0 : wb.cell? ⟨C, 0, none⟩ = some (.int .i64 (tab : Int)) := HCBB.out.cell 0
      have htl0 : (0 : Int) ≤ (tab : Int) := by omega
      have htlI : (tab : Int) < (ts.length : Int) := by omega
      have hkn8 : kn ≤ 8 := by omega
      have hkn1 : 1 ≤ kn := by omega
      have HNX8 : Hid (x.nx.length ≤ 8) := Lib.hid (by
        rcases hfn with e | e
        · rw [e]; simp
        · have := e.1; omega)
      have HLEN : Hid (x.ox ≠ [] → x.nx ≠ [] → x.ox.length = x.nx.length) := Lib.hid (fun h1 h2 => by
        rcases hfn with e | e
        · exact absurd e h2
        · rcases hfo with e' | e'
          · exact absurd e' h1
          · have := e.1; have := e'.1; omega)
      clear hbx hkb hop hcc hkn ht h8 hk1 hk2 hfo hfn
      go_upto_region 14 with (fail)
      clear s1 cc0 hkc
      go_loopw [14] (fun i wr => OfIn wb X op tab kv i wr) (fun i _ => x.nx.length - (intOf i).toNat)
      case atStart => exact ⟨kn, 0, none, 0, none, 0, hkn8, Nat.zero_le _, rfl, Two.nil, HBXB.out, Kept.refl _ _⟩
      case round =>
        obtain ⟨j, m, A1, d1, A2, d2, hj8, hmj, rfl, htwo, hbxr, hkr⟩ := hrel
        have HTR := Lib.hid htwo
        have HXR := Lib.hid hbxr
        have HKB := Lib.hid hkr
        have HCBR := Lib.hid (HCBB.out.kept hkr (fun e => by unfold Kone at e; omega))
        have r2 : wr.cell? ⟨C, 2, none⟩ = some (.slice nA x.nx.length nc) := HCBR.out.cell 2
        have hj0 : (0 : Int) ≤ (j : Int) := by omega
        have hwr : wb.heap.size ≤ wr.heap.size := hkr.size
        have HKO := Lib.hid (HKRB.out.trans1 hkr)
        have hnx8 := HNX8.out
        clear htwo hbxr hkr
        by_cases hlt2 : j < x.nx.length
        · have hltI2 : (j : Int) < (x.nx.length : Int) := by omega
          obtain ⟨v, hv⟩ : ∃ y, x.nx[j]? = some y := ⟨_, List.getElem?_eq_getElem hlt2⟩
          obtain ⟨gN, oN, rfl, -, hncap, hncm, hgN, hcv⟩ := HNVR.out.get hv
          have hgNX : gN < X := by omega
          have hgNb : gN < wb.heap.size := by omega
          have HVC := Lib.hid (hcv.kept HKO.out (fun e => by unfold Kone at e; omega))
          have hncm' : nc ≤ 9223372036854775807 := by simpa only [maxLen] using hncm
          clear hv hcv hncm
          go_upto_region 16 with (fail)
          go_cut [93] (fun s wx => ∃ bb : Bool, s = .bool bb ∧ Kept Kno wr wx)
          case first =>
            rcases HOP.out with ⟨h3, hnil⟩ | ⟨h1, hnn⟩ | ⟨h2, hon, hnn⟩
            · rw [hnil] at hlt2
              exact absurd hlt2 (by simp)
            · subst h1
              refine wp_region_held_drew (S := fun w' => Blk w' C 223 #[.int .i64 (tab : Int), .slice oA x.ox.length oc, .slice (some ⟨gN, oN, none⟩) x.nx.length nc] ∧ Blk w' X 73 #[.int .i64 1, .int .i64 (tab : Int), kv, .slice A1 m d1, .slice A2 m d2] ∧ CellsAt w' gN (oN + j * 3) (vCells v)) (by kernel_rfl) ⟨HCBR.out.drew, HXR.out.drew, HVC.out⟩ (fun hHeld => ?_)
              refine wpAnyH_takeE (i := 0) (v := .pointer (some ⟨X, 0, none⟩)) rfl rfl (by kernel_rfl) (by kernel_rfl) (by kernel_rfl) (fun _ _ _ h => h) (Or.inl ⟨by rfl, fun w1 hw => by go_simp⟩) (by assumption) ?_
              (try simp only [Act.put, List.setIfInBounds_toArray, List.set_cons_zero, List.set_cons_succ])
              refine wpAnyH_takeE (i := 1) (v := .int .i64 1) rfl rfl (by kernel_rfl) (by kernel_rfl) (by kernel_rfl) (fun _ _ _ h => h) (Or.inl ⟨by rfl, fun w1 hw => by have c1 : w1.cell? ⟨X, 0, none⟩ = some (.int .i64 1) := hw.2.1.cell 0; clear hw; go_simp⟩) (by assumption) ?_
              (try simp only [Act.put, List.setIfInBounds_toArray, List.set_cons_zero, List.set_cons_succ])
              refine wpAnyH_takeE (i := 2) (v := .bool true) rfl rfl (by kernel_rfl) (by kernel_rfl) (by kernel_rfl) (fun _ _ _ h => h) (Or.inl ⟨by rfl, fun w1 hw => by go_simp⟩) (by assumption) ?_
              (try simp only [Act.put, List.setIfInBounds_toArray, List.set_cons_zero, List.set_cons_succ])
              refine wpAnyH_takeE (i := 3) (v := .bool true) rfl rfl (by kernel_rfl) (by kernel_rfl) (by kernel_rfl) (fun _ _ _ h => h) (Or.inl ⟨by rfl, fun w1 hw => by go_simp⟩) (by assumption) ?_
              (try simp only [Act.put, List.setIfInBounds_toArray, List.set_cons_zero, List.set_cons_succ])
              refine wpAnyH_takeE (i := 4) (v := .pointer (some ⟨C, 2, none⟩)) rfl rfl (by kernel_rfl) (by kernel_rfl) (by kernel_rfl) (fun _ _ _ h => h) (Or.inl ⟨by rfl, fun w1 hw => by go_simp⟩) (by assumption) ?_
              (try simp only [Act.put, List.setIfInBounds_toArray, List.set_cons_zero, List.set_cons_succ])
              refine wpAnyH_takeE (i := 5) (v := .slice (some ⟨gN, oN, none⟩) x.nx.length nc) rfl rfl (by kernel_rfl) (by kernel_rfl) (by kernel_rfl) (fun _ _ _ h => h) (Or.inl ⟨by rfl, fun w1 hw => by have c1 : w1.cell? ⟨C, 2, none⟩ = some (.slice (some ⟨gN, oN, none⟩) x.nx.length nc) := hw.1.cell 2; clear hw; go_simp⟩) (by assumption) ?_
              (try simp only [Act.put, List.setIfInBounds_toArray, List.set_cons_zero, List.set_cons_succ])
              refine wpAnyH_takeE (i := 6) (v := .int .i64 (j : Int)) rfl rfl (by kernel_rfl) (by kernel_rfl) (by kernel_rfl) (fun _ _ _ h => h) (Or.inl ⟨by rfl, fun w1 hw => by go_simp⟩) (by assumption) ?_
              (try simp only [Act.put, List.setIfInBounds_toArray, List.set_cons_zero, List.set_cons_succ])
              refine wpAnyH_takeE (i := 7) (v := .pointer (some ⟨gN, oN + j * 3, none⟩)) rfl rfl (by kernel_rfl) (by kernel_rfl) (by kernel_rfl) (fun _ _ _ h => h) (Or.inl ⟨by rfl, fun w1 hw => by go_simp⟩) (by assumption) ?_
              (try simp only [Act.put, List.setIfInBounds_toArray, List.set_cons_zero, List.set_cons_succ])
              refine wpAnyH_takeE (i := 8) (v := .pointer (some ⟨gN, oN + j * 3, none⟩)) rfl rfl (by kernel_rfl) (by kernel_rfl) (by kernel_rfl) (fun _ _ _ h => h) (Or.inl ⟨by rfl, fun w1 hw => by go_simp⟩) (by assumption) ?_
              (try simp only [Act.put, List.setIfInBounds_toArray, List.set_cons_zero, List.set_cons_succ])
              refine wpAnyH_takeE (i := 9) (v := .int .i64 v.kind) rfl rfl (by kernel_rfl) (by kernel_rfl) (by kernel_rfl) (fun _ _ _ h => h) (Or.inl ⟨by rfl, fun w1 hw => by have c1 : w1.cell? ⟨gN, oN + j * 3, none⟩ = some (.int .i64 v.kind) := hw.2.2 0 _ rfl; clear hw; go_simp⟩) (by assumption) ?_
              (try simp only [Act.put, List.setIfInBounds_toArray, List.set_cons_zero, List.set_cons_succ])
              obtain ⟨bb, hbb⟩ : ∃ bb, (v.kind != 1) = bb := ⟨_, rfl⟩
              refine wpAnyH_takeE (i := 10) (v := .bool bb) rfl rfl (by kernel_rfl) (by kernel_rfl) (by kernel_rfl) (fun _ _ _ h => h) (Or.inl ⟨by rfl, fun w1 hw => by go_simp⟩) (by assumption) ?_
              (try simp only [Act.put, List.setIfInBounds_toArray, List.set_cons_zero, List.set_cons_succ])
              refine wpAnyH_takeE (i := 11) (v := .bool bb) rfl rfl (by kernel_rfl) (by kernel_rfl) (by kernel_rfl) (fun _ _ _ h => h) (Or.inl ⟨by rfl, fun w1 hw => by go_simp⟩) (by assumption) ?_
              (try simp only [Act.put, List.setIfInBounds_toArray, List.set_cons_zero, List.set_cons_succ])
              refine wpAnyH_takeE (i := 12) (v := .bool bb) rfl rfl (by kernel_rfl) (by kernel_rfl) (by kernel_rfl) (fun _ _ _ h => h) (Or.inl ⟨by rfl, fun w1 hw => by go_simp⟩) (by assumption) ?_
              (try simp only [Act.put, List.setIfInBounds_toArray, List.set_cons_zero, List.set_cons_succ])
              clear hbb
              cases bb with
              | true =>
                refine wpAnyH_takeE (i := 13) (v := undef) rfl rfl (by kernel_rfl) (by kernel_rfl) (by kernel_rfl) (fun _ _ _ h => h) (Or.inr ⟨by rfl, rfl⟩) (by assumption) ?_
                (try simp only [Act.put, List.setIfInBounds_toArray, List.set_cons_zero, List.set_cons_succ])
                refine wpAnyH_takeE (i := 14) (v := undef) rfl rfl (by kernel_rfl) (by kernel_rfl) (by kernel_rfl) (fun _ _ _ h => h) (Or.inr ⟨by rfl, rfl⟩) (by assumption) ?_
                (try simp only [Act.put, List.setIfInBounds_toArray, List.set_cons_zero, List.set_cons_succ])
                refine wpAnyH_takeE (i := 15) (v := undef) rfl rfl (by kernel_rfl) (by kernel_rfl) (by kernel_rfl) (fun _ _ _ h => h) (Or.inr ⟨by rfl, rfl⟩) (by assumption) ?_
                (try simp only [Act.put, List.setIfInBounds_toArray, List.set_cons_zero, List.set_cons_succ])
                refine wpAnyH_takeE (i := 16) (v := undef) rfl rfl (by kernel_rfl) (by kernel_rfl) (by kernel_rfl) (fun _ _ _ h => h) (Or.inr ⟨by rfl, rfl⟩) (by assumption) ?_
                (try simp only [Act.put, List.setIfInBounds_toArray, List.set_cons_zero, List.set_cons_succ])
                refine wpAnyH_takeE (i := 17) (v := undef) rfl rfl (by kernel_rfl) (by kernel_rfl) (by kernel_rfl) (fun _ _ _ h => h) (Or.inr ⟨by rfl, rfl⟩) (by assumption) ?_
                (try simp only [Act.put, List.setIfInBounds_toArray, List.set_cons_zero, List.set_cons_succ])
                refine wpAnyH_takeE (i := 18) (v := undef) rfl rfl (by kernel_rfl) (by kernel_rfl) (by kernel_rfl) (fun _ _ _ h => h) (Or.inr ⟨by rfl, rfl⟩) (by assumption) ?_
                (try simp only [Act.put, List.setIfInBounds_toArray, List.set_cons_zero, List.set_cons_succ])
                refine wpAnyH_takeE (i := 19) (v := undef) rfl rfl (by kernel_rfl) (by kernel_rfl) (by kernel_rfl) (fun _ _ _ h => h) (Or.inr ⟨by rfl, rfl⟩) (by assumption) ?_
                (try simp only [Act.put, List.setIfInBounds_toArray, List.set_cons_zero, List.set_cons_succ])
                refine wpAnyH_takeE (i := 20) (v := undef) rfl rfl (by kernel_rfl) (by kernel_rfl) (by kernel_rfl) (fun _ _ _ h => h) (Or.inr ⟨by rfl, rfl⟩) (by assumption) ?_
                (try simp only [Act.put, List.setIfInBounds_toArray, List.set_cons_zero, List.set_cons_succ])
                refine wpAnyH_takeE (i := 21) (v := undef) rfl rfl (by kernel_rfl) (by kernel_rfl) (by kernel_rfl) (fun _ _ _ h => h) (Or.inr ⟨by rfl, rfl⟩) (by assumption) ?_
                (try simp only [Act.put, List.setIfInBounds_toArray, List.set_cons_zero, List.set_cons_succ])
                refine wpAnyH_takeE (i := 22) (v := undef) rfl rfl (by kernel_rfl) (by kernel_rfl) (by kernel_rfl) (fun _ _ _ h => h) (Or.inr ⟨by rfl, rfl⟩) (by assumption) ?_
                (try simp only [Act.put, List.setIfInBounds_toArray, List.set_cons_zero, List.set_cons_succ])
                refine wpAnyH_takeE (i := 23) (v := undef) rfl rfl (by kernel_rfl) (by kernel_rfl) (by kernel_rfl) (fun _ _ _ h => h) (Or.inr ⟨by rfl, rfl⟩) (by assumption) ?_
                (try simp only [Act.put, List.setIfInBounds_toArray, List.set_cons_zero, List.set_cons_succ])
                refine wpAnyH_takeE (i := 24) (v := undef) rfl rfl (by kernel_rfl) (by kernel_rfl) (by kernel_rfl) (fun _ _ _ h => h) (Or.inr ⟨by rfl, rfl⟩) (by assumption) ?_
                (try simp only [Act.put, List.setIfInBounds_toArray, List.set_cons_zero, List.set_cons_succ])
                refine wpAnyH_takeE (i := 25) (v := undef) rfl rfl (by kernel_rfl) (by kernel_rfl) (by kernel_rfl) (fun _ _ _ h => h) (Or.inr ⟨by rfl, rfl⟩) (by assumption) ?_
                (try simp only [Act.put, List.setIfInBounds_toArray, List.set_cons_zero, List.set_cons_succ])
                refine wpAnyH_takeE (i := 26) (v := undef) rfl rfl (by kernel_rfl) (by kernel_rfl) (by kernel_rfl) (fun _ _ _ h => h) (Or.inr ⟨by rfl, rfl⟩) (by assumption) ?_
                (try simp only [Act.put, List.setIfInBounds_toArray, List.set_cons_zero, List.set_cons_succ])
                refine wpAnyH_takeE (i := 27) (v := undef) rfl rfl (by kernel_rfl) (by kernel_rfl) (by kernel_rfl) (fun _ _ _ h => h) (Or.inr ⟨by rfl, rfl⟩) (by assumption) ?_
                (try simp only [Act.put, List.setIfInBounds_toArray, List.set_cons_zero, List.set_cons_succ])
                refine wpAnyH_takeE (i := 28) (v := undef) rfl rfl (by kernel_rfl) (by kernel_rfl) (by kernel_rfl) (fun _ _ _ h => h) (Or.inr ⟨by rfl, rfl⟩) (by assumption) ?_
                (try simp only [Act.put, List.setIfInBounds_toArray, List.set_cons_zero, List.set_cons_succ])
                refine wpAnyH_takeE (i := 29) (v := .bool true) rfl rfl (by kernel_rfl) (by kernel_rfl) (by kernel_rfl) (fun _ _ _ h => h) (Or.inl ⟨by rfl, fun w1 hw => by go_simp⟩) (by assumption) ?_
                (try simp only [Act.put, List.setIfInBounds_toArray, List.set_cons_zero, List.set_cons_succ])
                refine wpAnyH_done (by kernel_rfl) ?_ _
                clear hHeld
                go_wp2_with fail
                go_meet
                exact ⟨true, rfl, (Kept.refl _ _).drew⟩
              | false =>
                refine wpAnyH_takeE (i := 13) (v := .pointer (some ⟨X, 0, none⟩)) rfl rfl (by kernel_rfl) (by kernel_rfl) (by kernel_rfl) (fun _ _ _ h => h) (Or.inl ⟨by rfl, fun w1 hw => by go_simp⟩) (by assumption) ?_
                (try simp only [Act.put, List.setIfInBounds_toArray, List.set_cons_zero, List.set_cons_succ])
                refine wpAnyH_takeE (i := 14) (v := .int .i64 1) rfl rfl (by kernel_rfl) (by kernel_rfl) (by kernel_rfl) (fun _ _ _ h => h) (Or.inl ⟨by rfl, fun w1 hw => by have c1 : w1.cell? ⟨X, 0, none⟩ = some (.int .i64 1) := hw.2.1.cell 0; clear hw; go_simp⟩) (by assumption) ?_
                (try simp only [Act.put, List.setIfInBounds_toArray, List.set_cons_zero, List.set_cons_succ])
                refine wpAnyH_takeE (i := 15) (v := .bool false) rfl rfl (by kernel_rfl) (by kernel_rfl) (by kernel_rfl) (fun _ _ _ h => h) (Or.inl ⟨by rfl, fun w1 hw => by go_simp⟩) (by assumption) ?_
                (try simp only [Act.put, List.setIfInBounds_toArray, List.set_cons_zero, List.set_cons_succ])
                refine wpAnyH_takeE (i := 16) (v := .bool false) rfl rfl (by kernel_rfl) (by kernel_rfl) (by kernel_rfl) (fun _ _ _ h => h) (Or.inl ⟨by rfl, fun w1 hw => by go_simp⟩) (by assumption) ?_
                (try simp only [Act.put, List.setIfInBounds_toArray, List.set_cons_zero, List.set_cons_succ])
                refine wpAnyH_takeE (i := 17) (v := undef) rfl rfl (by kernel_rfl) (by kernel_rfl) (by kernel_rfl) (fun _ _ _ h => h) (Or.inr ⟨by rfl, rfl⟩) (by assumption) ?_
                (try simp only [Act.put, List.setIfInBounds_toArray, List.set_cons_zero, List.set_cons_succ])
                refine wpAnyH_takeE (i := 18) (v := undef) rfl rfl (by kernel_rfl) (by kernel_rfl) (by kernel_rfl) (fun _ _ _ h => h) (Or.inr ⟨by rfl, rfl⟩) (by assumption) ?_
                (try simp only [Act.put, List.setIfInBounds_toArray, List.set_cons_zero, List.set_cons_succ])
                refine wpAnyH_takeE (i := 19) (v := undef) rfl rfl (by kernel_rfl) (by kernel_rfl) (by kernel_rfl) (fun _ _ _ h => h) (Or.inr ⟨by rfl, rfl⟩) (by assumption) ?_
                (try simp only [Act.put, List.setIfInBounds_toArray, List.set_cons_zero, List.set_cons_succ])
                refine wpAnyH_takeE (i := 20) (v := undef) rfl rfl (by kernel_rfl) (by kernel_rfl) (by kernel_rfl) (fun _ _ _ h => h) (Or.inr ⟨by rfl, rfl⟩) (by assumption) ?_
                (try simp only [Act.put, List.setIfInBounds_toArray, List.set_cons_zero, List.set_cons_succ])
                refine wpAnyH_takeE (i := 21) (v := undef) rfl rfl (by kernel_rfl) (by kernel_rfl) (by kernel_rfl) (fun _ _ _ h => h) (Or.inr ⟨by rfl, rfl⟩) (by assumption) ?_
                (try simp only [Act.put, List.setIfInBounds_toArray, List.set_cons_zero, List.set_cons_succ])
                refine wpAnyH_takeE (i := 22) (v := undef) rfl rfl (by kernel_rfl) (by kernel_rfl) (by kernel_rfl) (fun _ _ _ h => h) (Or.inr ⟨by rfl, rfl⟩) (by assumption) ?_
                (try simp only [Act.put, List.setIfInBounds_toArray, List.set_cons_zero, List.set_cons_succ])
                refine wpAnyH_takeE (i := 23) (v := undef) rfl rfl (by kernel_rfl) (by kernel_rfl) (by kernel_rfl) (fun _ _ _ h => h) (Or.inr ⟨by rfl, rfl⟩) (by assumption) ?_
                (try simp only [Act.put, List.setIfInBounds_toArray, List.set_cons_zero, List.set_cons_succ])
                refine wpAnyH_takeE (i := 24) (v := undef) rfl rfl (by kernel_rfl) (by kernel_rfl) (by kernel_rfl) (fun _ _ _ h => h) (Or.inr ⟨by rfl, rfl⟩) (by assumption) ?_
                (try simp only [Act.put, List.setIfInBounds_toArray, List.set_cons_zero, List.set_cons_succ])
                refine wpAnyH_takeE (i := 25) (v := undef) rfl rfl (by kernel_rfl) (by kernel_rfl) (by kernel_rfl) (fun _ _ _ h => h) (Or.inr ⟨by rfl, rfl⟩) (by assumption) ?_
                (try simp only [Act.put, List.setIfInBounds_toArray, List.set_cons_zero, List.set_cons_succ])
                refine wpAnyH_takeE (i := 26) (v := undef) rfl rfl (by kernel_rfl) (by kernel_rfl) (by kernel_rfl) (fun _ _ _ h => h) (Or.inr ⟨by rfl, rfl⟩) (by assumption) ?_
                (try simp only [Act.put, List.setIfInBounds_toArray, List.set_cons_zero, List.set_cons_succ])
                refine wpAnyH_takeE (i := 27) (v := undef) rfl rfl (by kernel_rfl) (by kernel_rfl) (by kernel_rfl) (fun _ _ _ h => h) (Or.inr ⟨by rfl, rfl⟩) (by assumption) ?_
                (try simp only [Act.put, List.setIfInBounds_toArray, List.set_cons_zero, List.set_cons_succ])
                refine wpAnyH_takeE (i := 28) (v := .bool false) rfl rfl (by kernel_rfl) (by kernel_rfl) (by kernel_rfl) (fun _ _ _ h => h) (Or.inl ⟨by rfl, fun w1 hw => by go_simp⟩) (by assumption) ?_
                (try simp only [Act.put, List.setIfInBounds_toArray, List.set_cons_zero, List.set_cons_succ])
                refine wpAnyH_takeE (i := 29) (v := .bool false) rfl rfl (by kernel_rfl) (by kernel_rfl) (by kernel_rfl) (fun _ _ _ h => h) (Or.inl ⟨by rfl, fun w1 hw => by go_simp⟩) (by assumption) ?_
                (try simp only [Act.put, List.setIfInBounds_toArray, List.set_cons_zero, List.set_cons_succ])
                refine wpAnyH_done (by kernel_rfl) ?_ _
                clear hHeld
                go_wp2_with fail
                go_meet
                exact ⟨false, rfl, (Kept.refl _ _).drew⟩
            · subst h2
              have hol := HLEN.out hon hnn
              obtain ⟨u, hu⟩ : ∃ y, x.ox[j]? = some y := ⟨_, List.getElem?_eq_getElem (by omega)⟩
              obtain ⟨gO, oO, rfl, -, hocap, hocm, hgO, hcu⟩ := HOVR.out.get hu
              have HUC := Lib.hid (hcu.kept HKO.out (fun e => by unfold Kone at e; omega))
              have hocm' : oc ≤ 9223372036854775807 := by simpa only [maxLen] using hocm
              have hltO : (j : Int) < (x.ox.length : Int) := by omega
              clear hu hcu hol hon hnn hocm
              refine wp_region_held_drew (S := fun w' => Blk w' C 223 #[.int .i64 (tab : Int), .slice (some ⟨gO, oO, none⟩) x.ox.length oc, .slice (some ⟨gN, oN, none⟩) x.nx.length nc] ∧ Blk w' X 73 #[.int .i64 2, .int .i64 (tab : Int), kv, .slice A1 m d1, .slice A2 m d2] ∧ CellsAt w' gN (oN + j * 3) (vCells v) ∧ CellsAt w' gO (oO + j * 3) (vCells u)) (by kernel_rfl) ⟨HCBR.out.drew, HXR.out.drew, HVC.out, HUC.out⟩ (fun hHeld => ?_)
              refine wpAnyH_takeE (i := 0) (v := .pointer (some ⟨X, 0, none⟩)) rfl rfl (by kernel_rfl) (by kernel_rfl) (by kernel_rfl) (fun _ _ _ h => h) (Or.inl ⟨by rfl, fun w1 hw => by go_simp⟩) (by assumption) ?_
              (try simp only [Act.put, List.setIfInBounds_toArray, List.set_cons_zero, List.set_cons_succ])
              refine wpAnyH_takeE (i := 1) (v := .int .i64 2) rfl rfl (by kernel_rfl) (by kernel_rfl) (by kernel_rfl) (fun _ _ _ h => h) (Or.inl ⟨by rfl, fun w1 hw => by have c1 : w1.cell? ⟨X, 0, none⟩ = some (.int .i64 2) := hw.2.1.cell 0; clear hw; go_simp⟩) (by assumption) ?_
              (try simp only [Act.put, List.setIfInBounds_toArray, List.set_cons_zero, List.set_cons_succ])
              refine wpAnyH_takeE (i := 2) (v := .bool false) rfl rfl (by kernel_rfl) (by kernel_rfl) (by kernel_rfl) (fun _ _ _ h => h) (Or.inl ⟨by rfl, fun w1 hw => by go_simp⟩) (by assumption) ?_
              (try simp only [Act.put, List.setIfInBounds_toArray, List.set_cons_zero, List.set_cons_succ])
              refine wpAnyH_takeE (i := 3) (v := .bool false) rfl rfl (by kernel_rfl) (by kernel_rfl) (by kernel_rfl) (fun _ _ _ h => h) (Or.inl ⟨by rfl, fun w1 hw => by go_simp⟩) (by assumption) ?_
              (try simp only [Act.put, List.setIfInBounds_toArray, List.set_cons_zero, List.set_cons_succ])
              refine wpAnyH_takeE (i := 4) (v := undef) rfl rfl (by kernel_rfl) (by kernel_rfl) (by kernel_rfl) (fun _ _ _ h => h) (Or.inr ⟨by rfl, rfl⟩) (by assumption) ?_
              (try simp only [Act.put, List.setIfInBounds_toArray, List.set_cons_zero, List.set_cons_succ])
              refine wpAnyH_takeE (i := 5) (v := undef) rfl rfl (by kernel_rfl) (by kernel_rfl) (by kernel_rfl) (fun _ _ _ h => h) (Or.inr ⟨by rfl, rfl⟩) (by assumption) ?_
              (try simp only [Act.put, List.setIfInBounds_toArray, List.set_cons_zero, List.set_cons_succ])
              refine wpAnyH_takeE (i := 6) (v := undef) rfl rfl (by kernel_rfl) (by kernel_rfl) (by kernel_rfl) (fun _ _ _ h => h) (Or.inr ⟨by rfl, rfl⟩) (by assumption) ?_
              (try simp only [Act.put, List.setIfInBounds_toArray, List.set_cons_zero, List.set_cons_succ])
              refine wpAnyH_takeE (i := 7) (v := undef) rfl rfl (by kernel_rfl) (by kernel_rfl) (by kernel_rfl) (fun _ _ _ h => h) (Or.inr ⟨by rfl, rfl⟩) (by assumption) ?_
              (try simp only [Act.put, List.setIfInBounds_toArray, List.set_cons_zero, List.set_cons_succ])
              refine wpAnyH_takeE (i := 8) (v := undef) rfl rfl (by kernel_rfl) (by kernel_rfl) (by kernel_rfl) (fun _ _ _ h => h) (Or.inr ⟨by rfl, rfl⟩) (by assumption) ?_
              (try simp only [Act.put, List.setIfInBounds_toArray, List.set_cons_zero, List.set_cons_succ])
              refine wpAnyH_takeE (i := 9) (v := undef) rfl rfl (by kernel_rfl) (by kernel_rfl) (by kernel_rfl) (fun _ _ _ h => h) (Or.inr ⟨by rfl, rfl⟩) (by assumption) ?_
              (try simp only [Act.put, List.setIfInBounds_toArray, List.set_cons_zero, List.set_cons_succ])
              refine wpAnyH_takeE (i := 10) (v := undef) rfl rfl (by kernel_rfl) (by kernel_rfl) (by kernel_rfl) (fun _ _ _ h => h) (Or.inr ⟨by rfl, rfl⟩) (by assumption) ?_
              (try simp only [Act.put, List.setIfInBounds_toArray, List.set_cons_zero, List.set_cons_succ])
              refine wpAnyH_takeE (i := 11) (v := .bool false) rfl rfl (by kernel_rfl) (by kernel_rfl) (by kernel_rfl) (fun _ _ _ h => h) (Or.inl ⟨by rfl, fun w1 hw => by go_simp⟩) (by assumption) ?_
              (try simp only [Act.put, List.setIfInBounds_toArray, List.set_cons_zero, List.set_cons_succ])
              refine wpAnyH_takeE (i := 12) (v := .bool false) rfl rfl (by kernel_rfl) (by kernel_rfl) (by kernel_rfl) (fun _ _ _ h => h) (Or.inl ⟨by rfl, fun w1 hw => by go_simp⟩) (by assumption) ?_
              (try simp only [Act.put, List.setIfInBounds_toArray, List.set_cons_zero, List.set_cons_succ])
              refine wpAnyH_takeE (i := 13) (v := .pointer (some ⟨X, 0, none⟩)) rfl rfl (by kernel_rfl) (by kernel_rfl) (by kernel_rfl) (fun _ _ _ h => h) (Or.inl ⟨by rfl, fun w1 hw => by go_simp⟩) (by assumption) ?_
              (try simp only [Act.put, List.setIfInBounds_toArray, List.set_cons_zero, List.set_cons_succ])
              refine wpAnyH_takeE (i := 14) (v := .int .i64 2) rfl rfl (by kernel_rfl) (by kernel_rfl) (by kernel_rfl) (fun _ _ _ h => h) (Or.inl ⟨by rfl, fun w1 hw => by have c1 : w1.cell? ⟨X, 0, none⟩ = some (.int .i64 2) := hw.2.1.cell 0; clear hw; go_simp⟩) (by assumption) ?_
              (try simp only [Act.put, List.setIfInBounds_toArray, List.set_cons_zero, List.set_cons_succ])
              refine wpAnyH_takeE (i := 15) (v := .bool true) rfl rfl (by kernel_rfl) (by kernel_rfl) (by kernel_rfl) (fun _ _ _ h => h) (Or.inl ⟨by rfl, fun w1 hw => by go_simp⟩) (by assumption) ?_
              (try simp only [Act.put, List.setIfInBounds_toArray, List.set_cons_zero, List.set_cons_succ])
              refine wpAnyH_takeE (i := 16) (v := .bool true) rfl rfl (by kernel_rfl) (by kernel_rfl) (by kernel_rfl) (fun _ _ _ h => h) (Or.inl ⟨by rfl, fun w1 hw => by go_simp⟩) (by assumption) ?_
              (try simp only [Act.put, List.setIfInBounds_toArray, List.set_cons_zero, List.set_cons_succ])
              refine wpAnyH_takeE (i := 17) (v := .pointer (some ⟨C, 2, none⟩)) rfl rfl (by kernel_rfl) (by kernel_rfl) (by kernel_rfl) (fun _ _ _ h => h) (Or.inl ⟨by rfl, fun w1 hw => by go_simp⟩) (by assumption) ?_
              (try simp only [Act.put, List.setIfInBounds_toArray, List.set_cons_zero, List.set_cons_succ])
              refine wpAnyH_takeE (i := 18) (v := .slice (some ⟨gN, oN, none⟩) x.nx.length nc) rfl rfl (by kernel_rfl) (by kernel_rfl) (by kernel_rfl) (fun _ _ _ h => h) (Or.inl ⟨by rfl, fun w1 hw => by have c1 : w1.cell? ⟨C, 2, none⟩ = some (.slice (some ⟨gN, oN, none⟩) x.nx.length nc) := hw.1.cell 2; clear hw; go_simp⟩) (by assumption) ?_
              (try simp only [Act.put, List.setIfInBounds_toArray, List.set_cons_zero, List.set_cons_succ])
              refine wpAnyH_takeE (i := 19) (v := .int .i64 (j : Int)) rfl rfl (by kernel_rfl) (by kernel_rfl) (by kernel_rfl) (fun _ _ _ h => h) (Or.inl ⟨by rfl, fun w1 hw => by go_simp⟩) (by assumption) ?_
              (try simp only [Act.put, List.setIfInBounds_toArray, List.set_cons_zero, List.set_cons_succ])
              refine wpAnyH_takeE (i := 20) (v := .pointer (some ⟨gN, oN + j * 3, none⟩)) rfl rfl (by kernel_rfl) (by kernel_rfl) (by kernel_rfl) (fun _ _ _ h => h) (Or.inl ⟨by rfl, fun w1 hw => by go_simp⟩) (by assumption) ?_
              (try simp only [Act.put, List.setIfInBounds_toArray, List.set_cons_zero, List.set_cons_succ])
              refine wpAnyH_takeE (i := 21) (v := .agg (vCells v).toArray) rfl rfl (by kernel_rfl) (by kernel_rfl) (by kernel_rfl) (fun _ _ _ h => h) (yieldsIf_load_atE (by rfl) 49 _ rfl (gN) (oN + j * 3) rfl (vCells v) _ (fun w1 hw => hw.2.2.1) Tryz.underlying49 rfl (by kernel_rfl)) (by assumption) ?_
              (try simp only [Act.put, List.setIfInBounds_toArray, List.set_cons_zero, List.set_cons_succ])
              refine wpAnyH_takeE (i := 22) (v := .pointer (some ⟨C, 1, none⟩)) rfl rfl (by kernel_rfl) (by kernel_rfl) (by kernel_rfl) (fun _ _ _ h => h) (Or.inl ⟨by rfl, fun w1 hw => by go_simp⟩) (by assumption) ?_
              (try simp only [Act.put, List.setIfInBounds_toArray, List.set_cons_zero, List.set_cons_succ])
              refine wpAnyH_takeE (i := 23) (v := .slice (some ⟨gO, oO, none⟩) x.ox.length oc) rfl rfl (by kernel_rfl) (by kernel_rfl) (by kernel_rfl) (fun _ _ _ h => h) (Or.inl ⟨by rfl, fun w1 hw => by have c1 : w1.cell? ⟨C, 1, none⟩ = some (.slice (some ⟨gO, oO, none⟩) x.ox.length oc) := hw.1.cell 1; clear hw; go_simp⟩) (by assumption) ?_
              (try simp only [Act.put, List.setIfInBounds_toArray, List.set_cons_zero, List.set_cons_succ])
              refine wpAnyH_takeE (i := 24) (v := .int .i64 (j : Int)) rfl rfl (by kernel_rfl) (by kernel_rfl) (by kernel_rfl) (fun _ _ _ h => h) (Or.inl ⟨by rfl, fun w1 hw => by go_simp⟩) (by assumption) ?_
              (try simp only [Act.put, List.setIfInBounds_toArray, List.set_cons_zero, List.set_cons_succ])
              refine wpAnyH_takeE (i := 25) (v := .pointer (some ⟨gO, oO + j * 3, none⟩)) rfl rfl (by kernel_rfl) (by kernel_rfl) (by kernel_rfl) (fun _ _ _ h => h) (Or.inl ⟨by rfl, fun w1 hw => by go_simp⟩) (by assumption) ?_
              (try simp only [Act.put, List.setIfInBounds_toArray, List.set_cons_zero, List.set_cons_succ])
              refine wpAnyH_takeE (i := 26) (v := .agg (vCells u).toArray) rfl rfl (by kernel_rfl) (by kernel_rfl) (by kernel_rfl) (fun _ _ _ h => h) (yieldsIf_load_atE (by rfl) 49 _ rfl (gO) (oO + j * 3) rfl (vCells u) _ (fun w1 hw => hw.2.2.2) Tryz.underlying49 rfl (by kernel_rfl)) (by assumption) ?_
              (try simp only [Act.put, List.setIfInBounds_toArray, List.set_cons_zero, List.set_cons_succ])
              refine wpAnyH_takeE (i := 27) (v := .bool (valNe v u)) rfl rfl (by kernel_rfl) (by kernel_rfl) (by kernel_rfl) (fun _ _ _ h => h) (yieldsIf_neq (by rfl) _ _ rfl v u rfl rfl) (by assumption) ?_
              (try simp only [Act.put, List.setIfInBounds_toArray, List.set_cons_zero, List.set_cons_succ])
              refine wpAnyH_takeE (i := 28) (v := .bool (valNe v u)) rfl rfl (by kernel_rfl) (by kernel_rfl) (by kernel_rfl) (fun _ _ _ h => h) (Or.inl ⟨by rfl, fun w1 hw => by go_simp⟩) (by assumption) ?_
              (try simp only [Act.put, List.setIfInBounds_toArray, List.set_cons_zero, List.set_cons_succ])
              refine wpAnyH_takeE (i := 29) (v := .bool (valNe v u)) rfl rfl (by kernel_rfl) (by kernel_rfl) (by kernel_rfl) (fun _ _ _ h => h) (Or.inl ⟨by rfl, fun w1 hw => by go_simp⟩) (by assumption) ?_
              (try simp only [Act.put, List.setIfInBounds_toArray, List.set_cons_zero, List.set_cons_succ])
              refine wpAnyH_done (by kernel_rfl) ?_ _
              clear hHeld
              go_wp2_with fail
              go_meet
              exact ⟨valNe v u, rfl, (Kept.refl _ _).drew⟩
          case rest =>
          obtain ⟨wd, rfl⟩ : ∃ y, y = wc := ⟨wc, rfl⟩
          obtain ⟨bb, rfl, hkd⟩ := hcut
          have HTD := Lib.hid (HTR.out.keep hkd (fun _ _ h => h))
          have HXD := Lib.hid (HXR.out.kept hkd (fun h => h))
          have HCD := Lib.hid (HCBR.out.kept hkd (fun h => h))
          have HVD := Lib.hid (HVC.out.kept hkd (fun h => h))
          have HKD := Lib.hid (HKB.out.then0 hkd)
          have hCb : C < wb.heap.size := by omega
          have m1 : m + 1 ≤ maxLen := by simp only [maxLen]; omega
          clear hkd r2 HTR HXR HCBR HVC HKB
          cases bb with
          | false =>
            go_wp2
            go_roundw
            case rel => exact ⟨j + 1, m, A1, d1, A2, d2, by omega, by omega, by go_num, HTD.out, HXD.out, HKD.out⟩
            case measure => simp [intOf]; omega
          | true =>
          go_upto_region 17 with (fail)
          refine wp_region_T 15 (fun w' => Blk w' X 73 #[.int .i64 op, .int .i64 (tab : Int), kv, .slice A1 m d1, .slice A2 m d2]) (fun w' => Blk w' C 223 #[.int .i64 (tab : Int), .slice oA x.ox.length oc, .slice (some ⟨gN, oN, none⟩) x.nx.length nc] ∧ CellsAt w' gN (oN + j * 3) (vCells v)) (by kernel_rfl) ⟨HCD.out.drew, HVD.out⟩ HXD.out.drew (fun hHeld => ?_)
          clear hHeld
          obtain ⟨we, hwe⟩ : ∃ y, wd.drew = y := ⟨_, rfl⟩
          have hkd : Kept Kno wd we := by rw [← hwe]; exact (Kept.refl _ _).drew
          rw [hwe]
          clear hwe
          have HT_we := Lib.hid (HTD.out.keep hkd (fun _ _ h => h))
          have HX_we := Lib.hid (HXD.out.kept hkd (fun h => h))
          have HC_we := Lib.hid (HCD.out.kept hkd (fun h => h))
          have HV_we := Lib.hid (HVD.out.kept hkd (fun h => h))
          have HK_we := Lib.hid (HKD.out.then0 hkd)
          clear hkd
          refine wpAnyT_take (i := 0) (v := .pointer (some ⟨X, 3, none⟩)) rfl rfl (by kernel_rfl) (by kernel_rfl) (by kernel_rfl) (by decide) (fun _ _ _ h => h) (Or.inl ⟨by rfl, fun w1 hw => by go_simp⟩) ⟨⟨HC_we.out, HV_we.out⟩, fun _ => HX_we.out⟩ ?_
          (try simp only [Act.put, List.setIfInBounds_toArray, List.set_cons_zero, List.set_cons_succ])
          refine wpAnyT_takeT (i := 1) (v := .slice A1 m d1) rfl rfl (by kernel_rfl) (by kernel_rfl) (by kernel_rfl) (by decide) (by kernel_rfl) (by kernel_rfl) (fun _ _ _ h => h) (Or.inl ⟨by rfl, fun w1 hw => by have c1 : w1.cell? ⟨X, 3, none⟩ = some (.slice A1 m d1) := hw.2.cell 3; clear hw; go_simp⟩) ⟨⟨HC_we.out, HV_we.out⟩, fun _ => HX_we.out⟩ ?_
          (try simp only [Act.put, List.setIfInBounds_toArray, List.set_cons_zero, List.set_cons_succ])
          refine wpAnyT_take (i := 2) (v := .int .i64 (j : Int)) rfl rfl (by kernel_rfl) (by kernel_rfl) (by kernel_rfl) (by decide) (fun _ _ _ h => h) (Or.inl ⟨by rfl, fun w1 hw => by go_simp⟩) ⟨⟨HC_we.out, HV_we.out⟩, fun _ => HX_we.out⟩ ?_
          (try simp only [Act.put, List.setIfInBounds_toArray, List.set_cons_zero, List.set_cons_succ])
          refine wpAnyT_take (i := 5) (v := .pointer (some ⟨X, 4, none⟩)) rfl rfl (by kernel_rfl) (by kernel_rfl) (by kernel_rfl) (by decide) (fun _ _ _ h => h) (Or.inl ⟨by rfl, fun w1 hw => by go_simp⟩) ⟨⟨HC_we.out, HV_we.out⟩, fun _ => HX_we.out⟩ ?_
          (try simp only [Act.put, List.setIfInBounds_toArray, List.set_cons_zero, List.set_cons_succ])
          refine wpAnyT_takeT (i := 6) (v := .slice A2 m d2) rfl rfl (by kernel_rfl) (by kernel_rfl) (by kernel_rfl) (by decide) (by kernel_rfl) (by kernel_rfl) (fun _ _ _ h => h) (Or.inl ⟨by rfl, fun w1 hw => by have c1 : w1.cell? ⟨X, 4, none⟩ = some (.slice A2 m d2) := hw.2.cell 4; clear hw; go_simp⟩) ⟨⟨HC_we.out, HV_we.out⟩, fun _ => HX_we.out⟩ ?_
          (try simp only [Act.put, List.setIfInBounds_toArray, List.set_cons_zero, List.set_cons_succ])
          refine wpAnyT_take (i := 7) (v := .pointer (some ⟨C, 2, none⟩)) rfl rfl (by kernel_rfl) (by kernel_rfl) (by kernel_rfl) (by decide) (fun _ _ _ h => h) (Or.inl ⟨by rfl, fun w1 hw => by go_simp⟩) ⟨⟨HC_we.out, HV_we.out⟩, fun _ => HX_we.out⟩ ?_
          (try simp only [Act.put, List.setIfInBounds_toArray, List.set_cons_zero, List.set_cons_succ])
          refine wpAnyT_take (i := 8) (v := .slice (some ⟨gN, oN, none⟩) x.nx.length nc) rfl rfl (by kernel_rfl) (by kernel_rfl) (by kernel_rfl) (by decide) (fun _ _ _ h => h) (Or.inl ⟨by rfl, fun w1 hw => by have c1 : w1.cell? ⟨C, 2, none⟩ = some (.slice (some ⟨gN, oN, none⟩) x.nx.length nc) := hw.1.cell 2; clear hw; go_simp⟩) ⟨⟨HC_we.out, HV_we.out⟩, fun _ => HX_we.out⟩ ?_
          (try simp only [Act.put, List.setIfInBounds_toArray, List.set_cons_zero, List.set_cons_succ])
          refine wpAnyT_take (i := 9) (v := .int .i64 (j : Int)) rfl rfl (by kernel_rfl) (by kernel_rfl) (by kernel_rfl) (by decide) (fun _ _ _ h => h) (Or.inl ⟨by rfl, fun w1 hw => by go_simp⟩) ⟨⟨HC_we.out, HV_we.out⟩, fun _ => HX_we.out⟩ ?_
          (try simp only [Act.put, List.setIfInBounds_toArray, List.set_cons_zero, List.set_cons_succ])
          refine wpAnyT_take (i := 10) (v := .pointer (some ⟨gN, oN + j * 3, none⟩)) rfl rfl (by kernel_rfl) (by kernel_rfl) (by kernel_rfl) (by decide) (fun _ _ _ h => h) (Or.inl ⟨by rfl, fun w1 hw => by go_simp⟩) ⟨⟨HC_we.out, HV_we.out⟩, fun _ => HX_we.out⟩ ?_
          (try simp only [Act.put, List.setIfInBounds_toArray, List.set_cons_zero, List.set_cons_succ])
          refine wpAnyT_take (i := 11) (v := .agg (vCells v).toArray) rfl rfl (by kernel_rfl) (by kernel_rfl) (by kernel_rfl) (by decide) (fun _ _ _ h => h) (yieldsIf_load_atE (by rfl) 49 _ rfl gN (oN + j * 3) rfl (vCells v) _ (fun w1 hw => hw.2) Tryz.underlying49 rfl (by kernel_rfl)) ⟨⟨HC_we.out, HV_we.out⟩, fun _ => HX_we.out⟩ ?_
          (try simp only [Act.put, List.setIfInBounds_toArray, List.set_cons_zero, List.set_cons_succ])
          refine wpAnyT_ready (rs := [3, 12]) (by kernel_rfl) (by simp) ?_
          refine AllReadyT.cons rfl (fun K' hK => ?_) (AllReadyT.cons rfl (fun K' hK => ?_) (AllReadyT.nil))
          · go_simp
            obtain ⟨w3, hww3⟩ : ∃ y, we.alloc (.cells #[.int .i64 (j : Int)] 3) = y := ⟨_, rfl⟩
            rw [hww3]
            have hkaw3 : Kept Kno we w3 := by rw [← hww3]; exact (Kept.refl _ _).alloc _
            have HT_w3 := Lib.hid (HT_we.out.keep hkaw3 (fun _ _ h => h))
            have HK_w3 := Lib.hid (HK_we.out.then0 hkaw3)
            have HX_w3 := Lib.hid (HX_we.out.kept hkaw3 (fun h => h))
            have HC_w3 := Lib.hid (HC_we.out.kept hkaw3 (fun h => h))
            have HV_w3 := Lib.hid (HV_we.out.kept hkaw3 (fun h => h))
            have HI_w3 := Lib.hid (show Blk w3 we.heap.size 3 #[.int .i64 (j : Int)] by rw [← hww3]; exact Blk.new _ _ _)
            clear hww3 hkaw3
            refine hK.out _ _ ⟨⟨HC_w3.out, HV_w3.out⟩, fun _ => HX_w3.out⟩ (fun hHeld => ?_)
            clear hK K' hHeld
            (try simp only [Act.put, List.setIfInBounds_toArray, List.set_cons_zero, List.set_cons_succ])
            refine wpAnyT_ready (rs := [4, 12]) (by kernel_rfl) (by simp) ?_
            refine AllReadyT.cons rfl (fun K' hK => ?_) (AllReadyT.cons rfl (fun K' hK => ?_) (AllReadyT.nil))
            · obtain ⟨cs1, ho1⟩ := HT_w3.out.o1
              refine step_append_rd _ (by rfl) _ _ 24 (by rfl) wb.heap.size 3 i1 _ 1 8 Tryz.underlying24 hi1 hy0 hy1 hy2 (by rfl) (by decide) (.slice A1 m d1) m cs1 (by rfl) ho1 (.slice (some ⟨we.heap.size, 0, none⟩) 1 1) 1 [.int .i64 (j : Int)] (by rfl) (blk_rd HI_w3.out) (by simp [Value.oneCell']) m1 (by omega) HK_w3.out.size ?_
              intro A4 c4 w4 hown hg hat
              have HT_w4 := Lib.hid (HT_w3.out.app1 hg hown hat)
              have hgk : Kept (fun k => wb.heap.size ≤ k ∧ (Value.slice A1 m d1).ownBlock = some k) w3 w4 := (Kept.refl _ _).grown hg (fun k hk e => ⟨(HT_w3.out.ge1 e).1, e⟩)
              have HK_w4 := Lib.hid (HK_w3.out.trans hgk (fun k hk e => by have := e.1; omega))
              have HX_w4 := Lib.hid (HX_w3.out.kept hgk (fun e => by have := e.1; omega))
              have HC_w4 := Lib.hid (HC_w3.out.kept hgk (fun e => by have := e.1; omega))
              have HV_w4 := Lib.hid (HV_w3.out.kept hgk (fun e => by have := e.1; omega))
              clear ho1 hown hg hat hgk
              refine hK.out _ _ ⟨⟨HC_w4.out, HV_w4.out⟩, fun _ => HX_w4.out⟩ (fun hHeld => ?_)
              clear hK K' hHeld
              (try simp only [Act.put, List.setIfInBounds_toArray, List.set_cons_zero, List.set_cons_succ])
              refine wpAnyT_take (i := 14) (v := .pointer (some ⟨X, 3, none⟩)) rfl rfl (by kernel_rfl) (by kernel_rfl) (by kernel_rfl) (by decide) (fun _ _ _ h => h) (Or.inl ⟨by rfl, fun w1 hw => by go_simp⟩) ⟨⟨HC_w4.out, HV_w4.out⟩, fun _ => HX_w4.out⟩ ?_
              (try simp only [Act.put, List.setIfInBounds_toArray, List.set_cons_zero, List.set_cons_succ])
              refine wpAnyT_ready (rs := [12]) (by kernel_rfl) (by simp) ?_
              refine AllReadyT.cons rfl (fun K' hK => ?_) (AllReadyT.nil)
              rw [if_pos (by rfl)]
              refine wp_buildOne 30 49 (.tmp 105) rfl (vCells v).toArray i2 _ 3 Tryz.underlying30 hi2 hx0 rfl hx1 (by decide) (by decide) rfl ?_
              obtain ⟨w5, hww5⟩ : ∃ y, w4.alloc (.cells (vCells v).toArray 49) = y := ⟨_, rfl⟩
              rw [hww5]
              have hkaw5 : Kept Kno w4 w5 := by rw [← hww5]; exact (Kept.refl _ _).alloc _
              have HT_w5 := Lib.hid (HT_w4.out.keep hkaw5 (fun _ _ h => h))
              have HK_w5 := Lib.hid (HK_w4.out.then0 hkaw5)
              have HX_w5 := Lib.hid (HX_w4.out.kept hkaw5 (fun h => h))
              have HC_w5 := Lib.hid (HC_w4.out.kept hkaw5 (fun h => h))
              have HV_w5 := Lib.hid (HV_w4.out.kept hkaw5 (fun h => h))
              have HR_w5 := Lib.hid (show Blk w5 w4.heap.size 49 (vCells v).toArray by rw [← hww5]; exact Blk.new _ _ _)
              clear hww5 hkaw5
              refine hK.out _ _ ⟨⟨HC_w5.out, HV_w5.out⟩, fun _ => HX_w5.out⟩ (fun hHeld => ?_)
              clear hK K' hHeld
              (try simp only [Act.put, List.setIfInBounds_toArray, List.set_cons_zero, List.set_cons_succ])
              refine wpAnyT_ready (rs := [13]) (by kernel_rfl) (by simp) ?_
              refine AllReadyT.cons rfl (fun K' hK => ?_) (AllReadyT.nil)
              obtain ⟨cs1, ho1⟩ := HT_w5.out.o2
              refine step_append_rd _ (by rfl) _ _ 30 (by rfl) wb.heap.size 49 i2 _ 3 32 Tryz.underlying30 hi2 hx0 hx1 hx2 (by rfl) (by decide) (.slice A2 m d2) m cs1 (by rfl) ho1 (.slice (some ⟨w4.heap.size, 0, none⟩) 1 1) 1 (vCells v) (by rfl) (blk_rd HR_w5.out) (by simp [vCells, Value.oneCell']) m1 (by omega) HK_w5.out.size ?_
              intro A13 c13 w6 hown hg hat
              have HT_w6 := Lib.hid (HT_w5.out.app2 hg hown hat)
              have hgk : Kept (fun k => wb.heap.size ≤ k ∧ (Value.slice A2 m d2).ownBlock = some k) w5 w6 := (Kept.refl _ _).grown hg (fun k hk e => ⟨(HT_w5.out.ge2 e).1, e⟩)
              have HK_w6 := Lib.hid (HK_w5.out.trans hgk (fun k hk e => by have := e.1; omega))
              have HX_w6 := Lib.hid (HX_w5.out.kept hgk (fun e => by have := e.1; omega))
              have HC_w6 := Lib.hid (HC_w5.out.kept hgk (fun e => by have := e.1; omega))
              have HV_w6 := Lib.hid (HV_w5.out.kept hgk (fun e => by have := e.1; omega))
              clear ho1 hown hg hat hgk
              refine hK.out _ _ ⟨⟨HC_w6.out, HV_w6.out⟩, fun _ => HX_w6.out⟩ (fun hHeld => ?_)
              clear hK K' hHeld
              (try simp only [Act.put, List.setIfInBounds_toArray, List.set_cons_zero, List.set_cons_succ])
              refine wpAnyT_ready (rs := [15]) (by kernel_rfl) (by simp) ?_
              refine AllReadyT.cons rfl (fun K' hK => ?_) (AllReadyT.nil)
              have x3 := HX_w6.out.cell 3
              have f3 := HX_w6.out.frozen 3
              go_simp
              clear x3 f3
              obtain ⟨w7, hw7⟩ : ∃ y, w6.setCell ⟨X, 3, none⟩ (.slice A4 (m + 1) c4) = y := ⟨_, rfl⟩
              have hk7 : Kept (Kone X) w6 w7 := by rw [← hw7]; exact (Kept.refl _ _).setIn (p := ⟨X, 3, none⟩) (by unfold Kone; rfl) _
              have hx7 : Blk w7 X 73 #[.int .i64 op, .int .i64 (tab : Int), kv, .slice A4 (m + 1) c4, .slice A2 m d2] := by rw [← hw7]; have := HX_w6.out.set_ 3 (.slice A4 (m + 1) c4); simpa using this
              rw [hw7]
              have HC_7 := Lib.hid (HC_w6.out.kept hk7 (fun e => by unfold Kone at e; omega))
              have HV_7 := Lib.hid (HV_w6.out.kept hk7 (fun e => by unfold Kone at e; omega))
              have HT_7 := Lib.hid (HT_w6.out.keep hk7 (fun j hj e => by unfold Kone at e; omega))
              have HK_7 := Lib.hid (HK_w6.out.trans hk7 (fun _ _ h => h))
              have HX_7 := Lib.hid hx7
              clear hw7 hk7 hx7
              refine hK.out _ _ ⟨⟨HC_7.out, HV_7.out⟩, fun h => by simp at h⟩ (fun hHeld => ?_)
              clear hK K' hHeld
              (try simp only [Act.put, List.setIfInBounds_toArray, List.set_cons_zero, List.set_cons_succ])
              refine wpAnyT_ready (rs := [16]) (by kernel_rfl) (by simp) ?_
              refine AllReadyT.cons rfl (fun K' hK => ?_) (AllReadyT.nil)
              go_simp
              refine hK.out _ _ ⟨⟨HC_7.out, HV_7.out⟩, fun h => by simp at h⟩ (fun hHeld => ?_)
              clear hK K' hHeld
              (try simp only [Act.put, List.setIfInBounds_toArray, List.set_cons_zero, List.set_cons_succ])
              refine wpAnyT_ready (rs := [17]) (by kernel_rfl) (by simp) ?_
              refine AllReadyT.cons rfl (fun K' hK => ?_) (AllReadyT.nil)
              have x4 := HX_7.out.cell 4
              have f4 := HX_7.out.frozen 4
              go_simp
              clear x4 f4
              obtain ⟨w8, hw8⟩ : ∃ y, w7.setCell ⟨X, 4, none⟩ (.slice A13 (m + 1) c13) = y := ⟨_, rfl⟩
              have hk8 : Kept (Kone X) w7 w8 := by rw [← hw8]; exact (Kept.refl _ _).setIn (p := ⟨X, 4, none⟩) (by unfold Kone; rfl) _
              have hx8 : Blk w8 X 73 #[.int .i64 op, .int .i64 (tab : Int), kv, .slice A4 (m + 1) c4, .slice A13 (m + 1) c13] := by rw [← hw8]; have := HX_7.out.set_ 4 (.slice A13 (m + 1) c13); simpa using this
              rw [hw8]
              have HC_8 := Lib.hid (HC_7.out.kept hk8 (fun e => by unfold Kone at e; omega))
              have HV_8 := Lib.hid (HV_7.out.kept hk8 (fun e => by unfold Kone at e; omega))
              have HT_8 := Lib.hid (HT_7.out.keep hk8 (fun j hj e => by unfold Kone at e; omega))
              have HK_8 := Lib.hid (HK_7.out.trans hk8 (fun _ _ h => h))
              have HX_8 := Lib.hid hx8
              clear hw8 hk8 hx8
              refine hK.out _ _ ⟨⟨HC_8.out, HV_8.out⟩, fun h => by simp at h⟩ (fun hHeld => ?_)
              clear hK K' hHeld
              refine wpAnyT_done (by kernel_rfl) ?_ _
              go_wp2_with fail
              go_roundw
              case rel => exact ⟨j + 1, m + 1, A4, c4, A13, c13, by omega, by omega, by go_num, HT_8.out, HX_8.out, HK_8.out⟩
              case measure => simp [intOf]; omega
            · rw [if_pos (by rfl)]
              refine wp_buildOne 30 49 (.tmp 105) rfl (vCells v).toArray i2 _ 3 Tryz.underlying30 hi2 hx0 rfl hx1 (by decide) (by decide) rfl ?_
              obtain ⟨w4, hww4⟩ : ∃ y, w3.alloc (.cells (vCells v).toArray 49) = y := ⟨_, rfl⟩
              rw [hww4]
              have hkaw4 : Kept Kno w3 w4 := by rw [← hww4]; exact (Kept.refl _ _).alloc _
              have HT_w4 := Lib.hid (HT_w3.out.keep hkaw4 (fun _ _ h => h))
              have HK_w4 := Lib.hid (HK_w3.out.then0 hkaw4)
              have HX_w4 := Lib.hid (HX_w3.out.kept hkaw4 (fun h => h))
              have HC_w4 := Lib.hid (HC_w3.out.kept hkaw4 (fun h => h))
              have HV_w4 := Lib.hid (HV_w3.out.kept hkaw4 (fun h => h))
              have HI_w4 := Lib.hid (HI_w3.out.kept hkaw4 (fun h => h))
              have HR_w4 := Lib.hid (show Blk w4 w3.heap.size 49 (vCells v).toArray by rw [← hww4]; exact Blk.new _ _ _)
              clear hww4 hkaw4
              refine hK.out _ _ ⟨⟨HC_w4.out, HV_w4.out⟩, fun _ => HX_w4.out⟩ (fun hHeld => ?_)
              clear hK K' hHeld
              (try simp only [Act.put, List.setIfInBounds_toArray, List.set_cons_zero, List.set_cons_succ])
              refine wpAnyT_ready (rs := [4]) (by kernel_rfl) (by simp) ?_
              refine AllReadyT.cons rfl (fun K' hK => ?_) (AllReadyT.nil)
              obtain ⟨cs1, ho1⟩ := HT_w4.out.o1
              refine step_append_rd _ (by rfl) _ _ 24 (by rfl) wb.heap.size 3 i1 _ 1 8 Tryz.underlying24 hi1 hy0 hy1 hy2 (by rfl) (by decide) (.slice A1 m d1) m cs1 (by rfl) ho1 (.slice (some ⟨we.heap.size, 0, none⟩) 1 1) 1 [.int .i64 (j : Int)] (by rfl) (blk_rd HI_w4.out) (by simp [Value.oneCell']) m1 (by omega) HK_w4.out.size ?_
              intro A4 c4 w5 hown hg hat
              have HT_w5 := Lib.hid (HT_w4.out.app1 hg hown hat)
              have hgk : Kept (fun k => wb.heap.size ≤ k ∧ (Value.slice A1 m d1).ownBlock = some k) w4 w5 := (Kept.refl _ _).grown hg (fun k hk e => ⟨(HT_w4.out.ge1 e).1, e⟩)
              have HK_w5 := Lib.hid (HK_w4.out.trans hgk (fun k hk e => by have := e.1; omega))
              have HX_w5 := Lib.hid (HX_w4.out.kept hgk (fun e => by have := e.1; omega))
              have HC_w5 := Lib.hid (HC_w4.out.kept hgk (fun e => by have := e.1; omega))
              have HV_w5 := Lib.hid (HV_w4.out.kept hgk (fun e => by have := e.1; omega))
              have HR_w5 := Lib.hid (HR_w4.out.kept hgk (fun e => own_blk_ne ho1 HR_w4.out (by decide) e.2))
              clear ho1 hown hg hat hgk
              refine hK.out _ _ ⟨⟨HC_w5.out, HV_w5.out⟩, fun _ => HX_w5.out⟩ (fun hHeld => ?_)
              clear hK K' hHeld
              (try simp only [Act.put, List.setIfInBounds_toArray, List.set_cons_zero, List.set_cons_succ])
              refine wpAnyT_take (i := 14) (v := .pointer (some ⟨X, 3, none⟩)) rfl rfl (by kernel_rfl) (by kernel_rfl) (by kernel_rfl) (by decide) (fun _ _ _ h => h) (Or.inl ⟨by rfl, fun w1 hw => by go_simp⟩) ⟨⟨HC_w5.out, HV_w5.out⟩, fun _ => HX_w5.out⟩ ?_
              (try simp only [Act.put, List.setIfInBounds_toArray, List.set_cons_zero, List.set_cons_succ])
              refine wpAnyT_ready (rs := [13]) (by kernel_rfl) (by simp) ?_
              refine AllReadyT.cons rfl (fun K' hK => ?_) (AllReadyT.nil)
              obtain ⟨cs1, ho1⟩ := HT_w5.out.o2
              refine step_append_rd _ (by rfl) _ _ 30 (by rfl) wb.heap.size 49 i2 _ 3 32 Tryz.underlying30 hi2 hx0 hx1 hx2 (by rfl) (by decide) (.slice A2 m d2) m cs1 (by rfl) ho1 (.slice (some ⟨w3.heap.size, 0, none⟩) 1 1) 1 (vCells v) (by rfl) (blk_rd HR_w5.out) (by simp [vCells, Value.oneCell']) m1 (by omega) HK_w5.out.size ?_
              intro A13 c13 w6 hown hg hat
              have HT_w6 := Lib.hid (HT_w5.out.app2 hg hown hat)
              have hgk : Kept (fun k => wb.heap.size ≤ k ∧ (Value.slice A2 m d2).ownBlock = some k) w5 w6 := (Kept.refl _ _).grown hg (fun k hk e => ⟨(HT_w5.out.ge2 e).1, e⟩)
              have HK_w6 := Lib.hid (HK_w5.out.trans hgk (fun k hk e => by have := e.1; omega))
              have HX_w6 := Lib.hid (HX_w5.out.kept hgk (fun e => by have := e.1; omega))
              have HC_w6 := Lib.hid (HC_w5.out.kept hgk (fun e => by have := e.1; omega))
              have HV_w6 := Lib.hid (HV_w5.out.kept hgk (fun e => by have := e.1; omega))
              clear ho1 hown hg hat hgk
              refine hK.out _ _ ⟨⟨HC_w6.out, HV_w6.out⟩, fun _ => HX_w6.out⟩ (fun hHeld => ?_)
              clear hK K' hHeld
              (try simp only [Act.put, List.setIfInBounds_toArray, List.set_cons_zero, List.set_cons_succ])
              refine wpAnyT_ready (rs := [15]) (by kernel_rfl) (by simp) ?_
              refine AllReadyT.cons rfl (fun K' hK => ?_) (AllReadyT.nil)
              have x3 := HX_w6.out.cell 3
              have f3 := HX_w6.out.frozen 3
              go_simp
              clear x3 f3
              obtain ⟨w7, hw7⟩ : ∃ y, w6.setCell ⟨X, 3, none⟩ (.slice A4 (m + 1) c4) = y := ⟨_, rfl⟩
              have hk7 : Kept (Kone X) w6 w7 := by rw [← hw7]; exact (Kept.refl _ _).setIn (p := ⟨X, 3, none⟩) (by unfold Kone; rfl) _
              have hx7 : Blk w7 X 73 #[.int .i64 op, .int .i64 (tab : Int), kv, .slice A4 (m + 1) c4, .slice A2 m d2] := by rw [← hw7]; have := HX_w6.out.set_ 3 (.slice A4 (m + 1) c4); simpa using this
              rw [hw7]
              have HC_7 := Lib.hid (HC_w6.out.kept hk7 (fun e => by unfold Kone at e; omega))
              have HV_7 := Lib.hid (HV_w6.out.kept hk7 (fun e => by unfold Kone at e; omega))
              have HT_7 := Lib.hid (HT_w6.out.keep hk7 (fun j hj e => by unfold Kone at e; omega))
              have HK_7 := Lib.hid (HK_w6.out.trans hk7 (fun _ _ h => h))
              have HX_7 := Lib.hid hx7
              clear hw7 hk7 hx7
              refine hK.out _ _ ⟨⟨HC_7.out, HV_7.out⟩, fun h => by simp at h⟩ (fun hHeld => ?_)
              clear hK K' hHeld
              (try simp only [Act.put, List.setIfInBounds_toArray, List.set_cons_zero, List.set_cons_succ])
              refine wpAnyT_ready (rs := [16]) (by kernel_rfl) (by simp) ?_
              refine AllReadyT.cons rfl (fun K' hK => ?_) (AllReadyT.nil)
              go_simp
              refine hK.out _ _ ⟨⟨HC_7.out, HV_7.out⟩, fun h => by simp at h⟩ (fun hHeld => ?_)
              clear hK K' hHeld
              (try simp only [Act.put, List.setIfInBounds_toArray, List.set_cons_zero, List.set_cons_succ])
              refine wpAnyT_ready (rs := [17]) (by kernel_rfl) (by simp) ?_
              refine AllReadyT.cons rfl (fun K' hK => ?_) (AllReadyT.nil)
              have x4 := HX_7.out.cell 4
              have f4 := HX_7.out.frozen 4
              go_simp
              clear x4 f4
              obtain ⟨w8, hw8⟩ : ∃ y, w7.setCell ⟨X, 4, none⟩ (.slice A13 (m + 1) c13) = y := ⟨_, rfl⟩
              have hk8 : Kept (Kone X) w7 w8 := by rw [← hw8]; exact (Kept.refl _ _).setIn (p := ⟨X, 4, none⟩) (by unfold Kone; rfl) _
              have hx8 : Blk w8 X 73 #[.int .i64 op, .int .i64 (tab : Int), kv, .slice A4 (m + 1) c4, .slice A13 (m + 1) c13] := by rw [← hw8]; have := HX_7.out.set_ 4 (.slice A13 (m + 1) c13); simpa using this
              rw [hw8]
              have HC_8 := Lib.hid (HC_7.out.kept hk8 (fun e => by unfold Kone at e; omega))
              have HV_8 := Lib.hid (HV_7.out.kept hk8 (fun e => by unfold Kone at e; omega))
              have HT_8 := Lib.hid (HT_7.out.keep hk8 (fun j hj e => by unfold Kone at e; omega))
              have HK_8 := Lib.hid (HK_7.out.trans hk8 (fun _ _ h => h))
              have HX_8 := Lib.hid hx8
              clear hw8 hk8 hx8
              refine hK.out _ _ ⟨⟨HC_8.out, HV_8.out⟩, fun h => by simp at h⟩ (fun hHeld => ?_)
              clear hK K' hHeld
              refine wpAnyT_done (by kernel_rfl) ?_ _
              go_wp2_with fail
              go_roundw
              case rel => exact ⟨j + 1, m + 1, A4, c4, A13, c13, by omega, by omega, by go_num, HT_8.out, HX_8.out, HK_8.out⟩
              case measure => simp [intOf]; omega
          · rw [if_pos (by rfl)]
            refine wp_buildOne 30 49 (.tmp 105) rfl (vCells v).toArray i2 _ 3 Tryz.underlying30 hi2 hx0 rfl hx1 (by decide) (by decide) rfl ?_
            obtain ⟨w3, hww3⟩ : ∃ y, we.alloc (.cells (vCells v).toArray 49) = y := ⟨_, rfl⟩
            rw [hww3]
            have hkaw3 : Kept Kno we w3 := by rw [← hww3]; exact (Kept.refl _ _).alloc _
            have HT_w3 := Lib.hid (HT_we.out.keep hkaw3 (fun _ _ h => h))
            have HK_w3 := Lib.hid (HK_we.out.then0 hkaw3)
            have HX_w3 := Lib.hid (HX_we.out.kept hkaw3 (fun h => h))
            have HC_w3 := Lib.hid (HC_we.out.kept hkaw3 (fun h => h))
            have HV_w3 := Lib.hid (HV_we.out.kept hkaw3 (fun h => h))
            have HR_w3 := Lib.hid (show Blk w3 we.heap.size 49 (vCells v).toArray by rw [← hww3]; exact Blk.new _ _ _)
            clear hww3 hkaw3
            refine hK.out _ _ ⟨⟨HC_w3.out, HV_w3.out⟩, fun _ => HX_w3.out⟩ (fun hHeld => ?_)
            clear hK K' hHeld
            (try simp only [Act.put, List.setIfInBounds_toArray, List.set_cons_zero, List.set_cons_succ])
            refine wpAnyT_ready (rs := [3]) (by kernel_rfl) (by simp) ?_
            refine AllReadyT.cons rfl (fun K' hK => ?_) (AllReadyT.nil)
            go_simp
            obtain ⟨w4, hww4⟩ : ∃ y, w3.alloc (.cells #[.int .i64 (j : Int)] 3) = y := ⟨_, rfl⟩
            rw [hww4]
            have hkaw4 : Kept Kno w3 w4 := by rw [← hww4]; exact (Kept.refl _ _).alloc _
            have HT_w4 := Lib.hid (HT_w3.out.keep hkaw4 (fun _ _ h => h))
            have HK_w4 := Lib.hid (HK_w3.out.then0 hkaw4)
            have HX_w4 := Lib.hid (HX_w3.out.kept hkaw4 (fun h => h))
            have HC_w4 := Lib.hid (HC_w3.out.kept hkaw4 (fun h => h))
            have HV_w4 := Lib.hid (HV_w3.out.kept hkaw4 (fun h => h))
            have HR_w4 := Lib.hid (HR_w3.out.kept hkaw4 (fun h => h))
            have HI_w4 := Lib.hid (show Blk w4 w3.heap.size 3 #[.int .i64 (j : Int)] by rw [← hww4]; exact Blk.new _ _ _)
            clear hww4 hkaw4
            refine hK.out _ _ ⟨⟨HC_w4.out, HV_w4.out⟩, fun _ => HX_w4.out⟩ (fun hHeld => ?_)
            clear hK K' hHeld
            (try simp only [Act.put, List.setIfInBounds_toArray, List.set_cons_zero, List.set_cons_succ])
            refine wpAnyT_ready (rs := [4]) (by kernel_rfl) (by simp) ?_
            refine AllReadyT.cons rfl (fun K' hK => ?_) (AllReadyT.nil)
            obtain ⟨cs1, ho1⟩ := HT_w4.out.o1
            refine step_append_rd _ (by rfl) _ _ 24 (by rfl) wb.heap.size 3 i1 _ 1 8 Tryz.underlying24 hi1 hy0 hy1 hy2 (by rfl) (by decide) (.slice A1 m d1) m cs1 (by rfl) ho1 (.slice (some ⟨w3.heap.size, 0, none⟩) 1 1) 1 [.int .i64 (j : Int)] (by rfl) (blk_rd HI_w4.out) (by simp [Value.oneCell']) m1 (by omega) HK_w4.out.size ?_
            intro A4 c4 w5 hown hg hat
            have HT_w5 := Lib.hid (HT_w4.out.app1 hg hown hat)
            have hgk : Kept (fun k => wb.heap.size ≤ k ∧ (Value.slice A1 m d1).ownBlock = some k) w4 w5 := (Kept.refl _ _).grown hg (fun k hk e => ⟨(HT_w4.out.ge1 e).1, e⟩)
            have HK_w5 := Lib.hid (HK_w4.out.trans hgk (fun k hk e => by have := e.1; omega))
            have HX_w5 := Lib.hid (HX_w4.out.kept hgk (fun e => by have := e.1; omega))
            have HC_w5 := Lib.hid (HC_w4.out.kept hgk (fun e => by have := e.1; omega))
            have HV_w5 := Lib.hid (HV_w4.out.kept hgk (fun e => by have := e.1; omega))
            have HR_w5 := Lib.hid (HR_w4.out.kept hgk (fun e => own_blk_ne ho1 HR_w4.out (by decide) e.2))
            clear ho1 hown hg hat hgk
            refine hK.out _ _ ⟨⟨HC_w5.out, HV_w5.out⟩, fun _ => HX_w5.out⟩ (fun hHeld => ?_)
            clear hK K' hHeld
            (try simp only [Act.put, List.setIfInBounds_toArray, List.set_cons_zero, List.set_cons_succ])
            refine wpAnyT_take (i := 14) (v := .pointer (some ⟨X, 3, none⟩)) rfl rfl (by kernel_rfl) (by kernel_rfl) (by kernel_rfl) (by decide) (fun _ _ _ h => h) (Or.inl ⟨by rfl, fun w1 hw => by go_simp⟩) ⟨⟨HC_w5.out, HV_w5.out⟩, fun _ => HX_w5.out⟩ ?_
            (try simp only [Act.put, List.setIfInBounds_toArray, List.set_cons_zero, List.set_cons_succ])
            refine wpAnyT_ready (rs := [13]) (by kernel_rfl) (by simp) ?_
            refine AllReadyT.cons rfl (fun K' hK => ?_) (AllReadyT.nil)
            obtain ⟨cs1, ho1⟩ := HT_w5.out.o2
            refine step_append_rd _ (by rfl) _ _ 30 (by rfl) wb.heap.size 49 i2 _ 3 32 Tryz.underlying30 hi2 hx0 hx1 hx2 (by rfl) (by decide) (.slice A2 m d2) m cs1 (by rfl) ho1 (.slice (some ⟨we.heap.size, 0, none⟩) 1 1) 1 (vCells v) (by rfl) (blk_rd HR_w5.out) (by simp [vCells, Value.oneCell']) m1 (by omega) HK_w5.out.size ?_
            intro A13 c13 w6 hown hg hat
            have HT_w6 := Lib.hid (HT_w5.out.app2 hg hown hat)
            have hgk : Kept (fun k => wb.heap.size ≤ k ∧ (Value.slice A2 m d2).ownBlock = some k) w5 w6 := (Kept.refl _ _).grown hg (fun k hk e => ⟨(HT_w5.out.ge2 e).1, e⟩)
            have HK_w6 := Lib.hid (HK_w5.out.trans hgk (fun k hk e => by have := e.1; omega))
            have HX_w6 := Lib.hid (HX_w5.out.kept hgk (fun e => by have := e.1; omega))
            have HC_w6 := Lib.hid (HC_w5.out.kept hgk (fun e => by have := e.1; omega))
            have HV_w6 := Lib.hid (HV_w5.out.kept hgk (fun e => by have := e.1; omega))
            clear ho1 hown hg hat hgk
            refine hK.out _ _ ⟨⟨HC_w6.out, HV_w6.out⟩, fun _ => HX_w6.out⟩ (fun hHeld => ?_)
            clear hK K' hHeld
            (try simp only [Act.put, List.setIfInBounds_toArray, List.set_cons_zero, List.set_cons_succ])
            refine wpAnyT_ready (rs := [15]) (by kernel_rfl) (by simp) ?_
            refine AllReadyT.cons rfl (fun K' hK => ?_) (AllReadyT.nil)
            have x3 := HX_w6.out.cell 3
            have f3 := HX_w6.out.frozen 3
            go_simp
            clear x3 f3
            obtain ⟨w7, hw7⟩ : ∃ y, w6.setCell ⟨X, 3, none⟩ (.slice A4 (m + 1) c4) = y := ⟨_, rfl⟩
            have hk7 : Kept (Kone X) w6 w7 := by rw [← hw7]; exact (Kept.refl _ _).setIn (p := ⟨X, 3, none⟩) (by unfold Kone; rfl) _
            have hx7 : Blk w7 X 73 #[.int .i64 op, .int .i64 (tab : Int), kv, .slice A4 (m + 1) c4, .slice A2 m d2] := by rw [← hw7]; have := HX_w6.out.set_ 3 (.slice A4 (m + 1) c4); simpa using this
            rw [hw7]
            have HC_7 := Lib.hid (HC_w6.out.kept hk7 (fun e => by unfold Kone at e; omega))
            have HV_7 := Lib.hid (HV_w6.out.kept hk7 (fun e => by unfold Kone at e; omega))
            have HT_7 := Lib.hid (HT_w6.out.keep hk7 (fun j hj e => by unfold Kone at e; omega))
            have HK_7 := Lib.hid (HK_w6.out.trans hk7 (fun _ _ h => h))
            have HX_7 := Lib.hid hx7
            clear hw7 hk7 hx7
            refine hK.out _ _ ⟨⟨HC_7.out, HV_7.out⟩, fun h => by simp at h⟩ (fun hHeld => ?_)
            clear hK K' hHeld
            (try simp only [Act.put, List.setIfInBounds_toArray, List.set_cons_zero, List.set_cons_succ])
            refine wpAnyT_ready (rs := [16]) (by kernel_rfl) (by simp) ?_
            refine AllReadyT.cons rfl (fun K' hK => ?_) (AllReadyT.nil)
            go_simp
            refine hK.out _ _ ⟨⟨HC_7.out, HV_7.out⟩, fun h => by simp at h⟩ (fun hHeld => ?_)
            clear hK K' hHeld
            (try simp only [Act.put, List.setIfInBounds_toArray, List.set_cons_zero, List.set_cons_succ])
            refine wpAnyT_ready (rs := [17]) (by kernel_rfl) (by simp) ?_
            refine AllReadyT.cons rfl (fun K' hK => ?_) (AllReadyT.nil)
            have x4 := HX_7.out.cell 4
            have f4 := HX_7.out.frozen 4
            go_simp
            clear x4 f4
            obtain ⟨w8, hw8⟩ : ∃ y, w7.setCell ⟨X, 4, none⟩ (.slice A13 (m + 1) c13) = y := ⟨_, rfl⟩
            have hk8 : Kept (Kone X) w7 w8 := by rw [← hw8]; exact (Kept.refl _ _).setIn (p := ⟨X, 4, none⟩) (by unfold Kone; rfl) _
            have hx8 : Blk w8 X 73 #[.int .i64 op, .int .i64 (tab : Int), kv, .slice A4 (m + 1) c4, .slice A13 (m + 1) c13] := by rw [← hw8]; have := HX_7.out.set_ 4 (.slice A13 (m + 1) c13); simpa using this
            rw [hw8]
            have HC_8 := Lib.hid (HC_7.out.kept hk8 (fun e => by unfold Kone at e; omega))
            have HV_8 := Lib.hid (HV_7.out.kept hk8 (fun e => by unfold Kone at e; omega))
            have HT_8 := Lib.hid (HT_7.out.keep hk8 (fun j hj e => by unfold Kone at e; omega))
            have HK_8 := Lib.hid (HK_7.out.trans hk8 (fun _ _ h => h))
            have HX_8 := Lib.hid hx8
            clear hw8 hk8 hx8
            refine hK.out _ _ ⟨⟨HC_8.out, HV_8.out⟩, fun h => by simp at h⟩ (fun hHeld => ?_)
            clear hK K' hHeld
            refine wpAnyT_done (by kernel_rfl) ?_ _
            go_wp2_with fail
            go_roundw
            case rel => exact ⟨j + 1, m + 1, A4, c4, A13, c13, by omega, by omega, by go_num, HT_8.out, HX_8.out, HK_8.out⟩
            case measure => simp [intOf]; omega
        · have hltI2 : ¬ (j : Int) < (x.nx.length : Int) := by omega
          have m1 : k + 1 ≤ maxLen := by simp only [maxLen]; omega
          have HOWR := Lib.hid (own_kept HOWN.out HKO.out (fun i e h => by unfold Kone at h; have := (own_base HOWN.out e).2; omega))
          have HONE := Lib.hid (show kv.oneCell' = true from HKV1.out)
          have hw1r : w1.heap.size ≤ wr.heap.size := by have := HKR.out.size; omega
          have HKZ := Lib.hid (HKR.out.trans1 HKO.out)
          go_wp2_with (first
            | (refine wpList_load_row rfl 73 (.tmp 13) rfl X rfl 73 #[.int .i64 op, .int .i64 (tab : Int), kv, .slice A1 m d1, .slice A2 m d2] (0, 0) _ HXR.out Tryz.underlying73 rfl (by kernel_rfl) ?_)
            | (at_builtin; go_must (refine wpList_append_rd _ rfl _ _ 25 rfl w1.heap.size 73 i0 _ 5 88 Tryz.underlying25 hi hz0 hz1 hz2 rfl (by decide) (.slice Ao k co) k cso rfl (World.ownsRow.alloc HOWR.out _) _ 1 [.int .i64 op, .int .i64 (tab : Int), kv, .slice A1 m d1, .slice A2 m d2] rfl (Rd.one' _ _ _ rfl (by simp)) (by simp [HONE.out]; simp [Value.oneCell']) m1 (by omega) (by simp; omega) ?_); intro A9 c9 w9 hown9 hg9 hat9))
          refine ⟨⟨k + 1, A9, c9, _, by omega, by go_num, rfl, hown9, (((HKZ.out.mono (T := Kno) (fun i hi e => by unfold Kone at e; omega)).alloc _).grown hg9 (fun i hi e => by have := (own_base HOWR.out e).1; omega))⟩, ?_⟩
          simp [intOf]
          omega
    · have hltI : ¬ (k : Int) < (n : Int) := by omega
      go_wp2
      go_ret2
      exact HX.out _ _ _ _ _ (HK1.out.then0 HKR.out)

end Go.Proofs.YtffdaohmalmkfaaGreat
