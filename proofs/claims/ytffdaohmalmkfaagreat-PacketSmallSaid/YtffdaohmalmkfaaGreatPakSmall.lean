/-
  PacketSmall: the walk.
-/
import Derived.Test.YtffdaohmalmkfaaGreatPakV
import Derived.Test.YtffdaohmalmkfaaGreatPakX
import Derived.Test.YtffdaohmalmkfaaGreatCase3
namespace Go.Proofs.YtffdaohmalmkfaaGreat
open Go.RowKit
set_option linter.unusedVariables false

def VB (n : Nat) (A : Option Addr) (c : Nat) (m : Nat) (K : Option Addr) (d : Nat) : Array Value := #[.int .i64 1, .int .i64 1073741824, .int .i64 15, .slice A n c, .int .i64 3, .int .i64 1073741824, .int .i64 7, .int .i64 100, .int .i64 7, .slice K m d]
/-- The verdict V has n arguments and m cells in its key, all x; L is x. -/
structure SmallSt (w : World) (V L : Nat) (x : Val) (n m : Nat) (wr : World) (A : Option Addr) (c : Nat) (K : Option Addr) (d : Nat) : Prop where
  v : Blk wr V 34 (VB n A c m K d)
  l : Blk wr L 49 #[.int .i64 x.kind, .int .i64 x.n, .string x.s]
  a : OwnR wr (V + 1) (.slice A n c) (List.replicate n x)
  k : OwnR wr (V + 1) (.slice K m d) (List.replicate m x)
  apart : ∀ k, (Value.slice A n c).ownBlock = some k → (Value.slice K m d).ownBlock ≠ some k
  kept : Kept Kno w wr
def Rel1 (w : World) (V L : Nat) (x : Val) (N : Nat) (i : Value) (wr : World) : Prop := ∃ (n : Nat) (A : Option Addr) (c : Nat), n ≤ N ∧ i = .int .i64 n ∧ SmallSt w V L x n 0 wr A c none 0
def Rel2 (w : World) (V L : Nat) (x : Val) (N M : Nat) (i : Value) (wr : World) : Prop := ∃ (m : Nat) (A : Option Addr) (c : Nat) (K : Option Addr) (d : Nat), m ≤ M ∧ i = .int .i64 m ∧ SmallSt w V L x N m wr A c K d

theorem rowC_snoc (n : Nat) (x : Val) : rowC (List.replicate (n + 1) x) = rowC (List.replicate n x) ++ vCells x := by
  rw [List.replicate_succ']
  simp [rowC]
theorem SmallSt.args {w wr w2 : World} {V L n m c d c2 : Nat} {x : Val} {A K A2 : Option Addr} {t : TypeId} {cs : Array Value} (st : SmallSt w V L x n m wr A c K d) (hV : w.heap.size ≤ V) (hL : L < V)
    (hown2 : w2.ownsRow (V + 1) 49 3 (.slice A2 (n + 1) c2) (n + 1) (rowC (List.replicate n x) ++ vCells x)) (hg2 : (wr.alloc (.cells cs t)).grownBy w2 (Value.slice A n c).ownBlock)
    (hat2 : (Value.slice A2 (n + 1) c2).ownBlock = (Value.slice A n c).ownBlock ∨ (Value.slice A2 (n + 1) c2).ownBlock = some (wr.alloc (.cells cs t)).heap.size) : SmallSt w V L x (n + 1) m (w2.setCell ⟨V, 3, none⟩ (.slice A2 (n + 1) c2)) A2 c2 K d := by
  have hlow : ∀ k, (Value.slice A n c).ownBlock = some k → V + 1 ≤ k := fun k hk => (own_base st.a hk).1
  have hotl : ∀ k, (Value.slice K m d).ownBlock = some k → V + 1 ≤ k ∧ k < wr.heap.size := fun k hk => own_base st.k hk
  have hVV : ∀ g, g ≤ V → some g ≠ (Value.slice A n c).ownBlock := fun g hg he => by have := hlow g he.symm; omega
  refine ⟨?_, ?_, ?_, ?_, ?_, ?_⟩
  · have := ((st.v.alloc (.cells cs t)).grown hg2 (hVV V (Nat.le_refl _))).set_ 3 (.slice A2 (n + 1) c2)
    exact this
  · exact ((st.l.alloc (.cells cs t)).grown hg2 (hVV L (by omega))).far (by simp; omega) _
  · refine own_far ?_ (fun he => by have := (own_base hown2 he).1; simp only at this; omega) _
    have e : (List.replicate (n + 1) x).length = n + 1 := by simp
    rw [e, rowC_snoc]
    exact hown2
  · exact own_far ((st.k.alloc (.cells cs t)).kept hg2 (by cases hq : (Value.slice K m d).ownBlock with
      | none => exact .inl rfl
      | some k => exact .inr (fun he => st.apart k he.symm hq))) (fun he => by have := (hotl _ he).1; simp only at this; omega) _
  · intro k hk hk2
    rcases hat2 with h | h
    · rw [h] at hk; exact st.apart k hk hk2
    · rw [h] at hk; injection hk with hk; have := (hotl k hk2).2; simp at hk; omega
  · exact ((st.kept.alloc (.cells cs t)).grown hg2 (fun k hk he => by have := hlow k he; omega)).setNew (p := ⟨V, 3, none⟩) hV _

theorem SmallSt.key {w wr w2 : World} {V L n m c d c2 : Nat} {x : Val} {A K A2 : Option Addr} {t : TypeId} {cs : Array Value} (st : SmallSt w V L x n m wr A c K d) (hV : w.heap.size ≤ V) (hL : L < V)
    (hown2 : w2.ownsRow (V + 1) 49 3 (.slice A2 (m + 1) c2) (m + 1) (rowC (List.replicate m x) ++ vCells x)) (hg2 : (wr.alloc (.cells cs t)).grownBy w2 (Value.slice K m d).ownBlock)
    (hat2 : (Value.slice A2 (m + 1) c2).ownBlock = (Value.slice K m d).ownBlock ∨ (Value.slice A2 (m + 1) c2).ownBlock = some (wr.alloc (.cells cs t)).heap.size) : SmallSt w V L x n (m + 1) (w2.setCell ⟨V, 9, none⟩ (.slice A2 (m + 1) c2)) A c A2 c2 := by
  have hlow : ∀ k, (Value.slice K m d).ownBlock = some k → V + 1 ≤ k := fun k hk => (own_base st.k hk).1
  have hotl : ∀ k, (Value.slice A n c).ownBlock = some k → V + 1 ≤ k ∧ k < wr.heap.size := fun k hk => own_base st.a hk
  have hVV : ∀ g, g ≤ V → some g ≠ (Value.slice K m d).ownBlock := fun g hg he => by have := hlow g he.symm; omega
  refine ⟨?_, ?_, ?_, ?_, ?_, ?_⟩
  · have := ((st.v.alloc (.cells cs t)).grown hg2 (hVV V (Nat.le_refl _))).set_ 9 (.slice A2 (m + 1) c2)
    exact this
  · exact ((st.l.alloc (.cells cs t)).grown hg2 (hVV L (by omega))).far (by simp; omega) _
  · exact own_far ((st.a.alloc (.cells cs t)).kept hg2 (by cases hq : (Value.slice A n c).ownBlock with
      | none => exact .inl rfl
      | some k => exact .inr (fun he => st.apart k hq he.symm))) (fun he => by have := (hotl _ he).1; simp only at this; omega) _
  · refine own_far ?_ (fun he => by have := (own_base hown2 he).1; simp only at this; omega) _
    have e : (List.replicate (m + 1) x).length = m + 1 := by simp
    rw [e, rowC_snoc]
    exact hown2
  · intro k hk hk2
    rcases hat2 with h | h
    · rw [h] at hk2; exact st.apart k hk hk2
    · rw [h] at hk2; injection hk2 with hk2; have := (hotl k hk).2; simp at hk2; omega
  · exact ((st.kept.alloc (.cells cs t)).grown hg2 (fun k hk he => by have := hlow k he; omega)).setNew (p := ⟨V, 9, none⟩) hV _

theorem small_row {w : World} {V n c : Nat} {x : Val} {A : Option Addr} (h : OwnR w (V + 1) (.slice A n c) (List.replicate n x)) (hx : okVal x) : RowB w w.heap.size (.slice A n c) (List.replicate n x) :=
  ⟨OwnR.row h (fun y hy => by rw [List.eq_of_mem_replicate hy]; exact hx), fun k hk => (own_base h hk).2⟩
theorem real_rep (n : Nat) (x : Val) (h : realB x = true) : realsB (List.replicate n x) = true := by
  unfold realsB
  rw [List.all_eq_true]
  intro y hy
  rw [List.eq_of_mem_replicate hy]
  exact h
theorem vencs_rep (n : Nat) (x : Val) (hv : validB x.kind x.n x.s = true) : valsOk (List.replicate n x) = true := by
  unfold valsOk
  rw [List.all_eq_true]
  intro y hy
  rw [List.eq_of_mem_replicate hy]
  exact hv
def vd (n m : Nat) (x : Val) : Verd := ⟨1, 1073741824, 15, List.replicate n x, 3, 1073741824, 7, 100, 7, List.replicate m x⟩
theorem vd_ok (n m : Nat) (x : Val) (hn : n ≤ 8) (hm : m ≤ 8) (h : realB x = true) : (wB 1 1 8 && verdB 1 (vd n m x)) = true := by
  have h1 : callB 1073741824 15 (List.replicate n x) = true := by
    unfold callB
    rw [real_rep n x h, List.length_replicate, decide_eq_true hn]
    rfl
  have h2 : decide ((List.replicate m x).length ≤ 8) = true := by rw [List.length_replicate]; exact decide_eq_true hm
  unfold verdB vd
  simp only
  rw [h1, real_rep m x h, h2]
  rfl
theorem vd_len (n m : Nat) (x : Val) (hn : n ≤ 8) (hm : m ≤ 8) (h : validB x.kind x.n x.s = true) : (encVerd 1 (vd n m x)).length ≤ 4096 := by
  have l1 := renc_length (List.replicate n x) (by simp; omega) (vencs_rep n x h)
  have l2 := renc_length (List.replicate m x) (by simp; omega) (vencs_rep m x h)
  have i0 := (inum_length 4).2
  have i1 := (inum_length 1).2
  have i2 := (inum_length 1073741824).2
  have i3 := (inum_length 15).2
  have i4 := (inum_length 3).2
  have i5 := (inum_length 7).2
  have i6 := (inum_length 100).2
  simp only [encVerd, verdBs, vd, encRef, List.flatten_cons, List.flatten_nil, List.length_append, List.length_nil]
  omega

theorem info_valp : (Tryz.prog.info? 49).map (fun i => (i.zero, i.size, i.bytes)) = some (some (.agg #[.int .i64 0, .int .i64 0, .string ⟨#[]⟩]), 3, 32) := by kernel_rfl

set_option maxRecDepth 100000 in
set_option maxHeartbeats 4000000 in
theorem small_any (a b : Int) (c : UInt8) (w : World) (ha0 : 0 ≤ a) (ha1 : a < 256) (hb0 : 0 ≤ b) (hb1 : b < 256) :
    Calls Tryz.prog 5 #[.int .u8 a, .int .u8 b, .int .u8 c.toNat] w (RetBool true w) := by
  obtain ⟨i0, hi, hz0, hz1, hz2⟩ := info_parts info_valp
  go_enter Tryz.func5, Tryz.ntmps5
  go_wp2_with fail
  have hbc : Bs (w.alloc (.cells #[.int .u8 c.toNat] 5)) (.slice (some ⟨w.heap.size, 0, none⟩) 1 1) [c] := bs_lit w [c] (0, 0) 5
  refine (repeat64_any _ c _ hbc).mono ?_
  rintro e w1 ⟨A1, cap1, bs, hbl, rfl, hb1', hk1⟩
  have hcv := run_string_bs (P := Tryz.prog) 22 9 5 hb1' Tryz.underlying22 Tryz.underlying5 Tryz.underlying9
  have hss : (⟨bs.toArray⟩ : ByteArray).size = 64 := by simpa [ByteArray.size] using hbl
  have HK1 := Lib.hid (((Kept.refl Kno w).alloc _).then0 hk1)
  have HSS := Lib.hid hss
  generalize (⟨bs.toArray⟩ : ByteArray) = s at hcv HSS
  clear hb1' hk1 hbc hss hbl
  go_upto_region 4 with (fail)
  obtain ⟨N, hN, hN8⟩ : ∃ N : Nat, a % 9 = (N : Int) ∧ N ≤ 8 := ⟨(a % 9).toNat, by omega, by omega⟩
  obtain ⟨M, hM, hM8⟩ : ∃ M : Nat, b % 9 = (M : Int) ∧ M ≤ 8 := ⟨(b % 9).toNat, by omega, by omega⟩
  have hNt : a.tmod 9 = (N : Int) := by rw [Int.tmod_eq_emod_of_nonneg ha0]; exact hN
  have hMt : b.tmod 9 = (M : Int) := by rw [Int.tmod_eq_emod_of_nonneg hb0]; exact hM
  obtain ⟨x, hx⟩ : ∃ x : Val, x = ⟨5, 0, s⟩ := ⟨_, rfl⟩
  have hxv : validB x.kind x.n x.s = true := by rw [hx]; simp [validB, HSS.out]
  have hxr : realB x = true := by rw [hx] at hxv ⊢; unfold realB; rw [hxv]; rfl
  have hxo : okVal x := by rw [hx]; exact ⟨by show (-9223372036854775808 : Int) ≤ 0; decide, by show (0 : Int) ≤ 9223372036854775807; decide, by show s.size ≤ maxLen; rw [HSS.out]; decide⟩
  obtain ⟨w2, h2⟩ : ∃ w2, w2 = (w1.alloc (.cells #[.int .i64 5, .int .i64 0, .string s] 49)).alloc (.cells #[.int .i64 1, .int .i64 1073741824, .int .i64 15, .slice none 0 0, .int .i64 3, .int .i64 1073741824, .int .i64 7, .int .i64 100, .int .i64 7, .slice none 0 0] 34) := ⟨_, rfl⟩
  have hst : SmallSt w (w1.heap.size + 1) w1.heap.size x 0 0 w2 none 0 none 0 := by
    refine ⟨?_, ?_, World.ownsRow_nil _ _ _ _, World.ownsRow_nil _ _ _ _, fun k hk => by simp [Value.ownBlock] at hk, ?_⟩
    · have := Blk.new (w1.alloc (.cells #[.int .i64 5, .int .i64 0, .string s] 49)) 34 #[.int .i64 1, .int .i64 1073741824, .int .i64 15, .slice none 0 0, .int .i64 3, .int .i64 1073741824, .int .i64 7, .int .i64 100, .int .i64 7, .slice none 0 0]
      rw [size_alloc'] at this
      rw [h2]; exact this
    · rw [h2, hx]; exact (Blk.new _ _ _).alloc _
    · rw [h2]; exact (HK1.out.alloc _).alloc _
  have HST := Lib.hid hst
  have HXV := Lib.hid hxv
  have HXR := Lib.hid hxr
  have HXO := Lib.hid hxo
  have hV : w.heap.size ≤ w1.heap.size + 1 := by have := HK1.out.size; omega
  have hxk : vCells x = [.int .i64 5, .int .i64 0, .string s] := by rw [hx]; rfl
  have HXC := Lib.hid hxk
  have HXE := Lib.hid hx
  have H2 := Lib.hid h2
  clear hst hxv hxr hxo hcv HSS h2 hxk hx hN hM
  rw [← H2.out]
  go_loopw [9] (fun i wr => Rel1 w (w1.heap.size + 1) w1.heap.size x N i wr) (fun i _ => N - (intOf i).toNat)
  case atStart => exact ⟨0, none, 0, Nat.zero_le _, rfl, HST.out⟩
  case round =>
    obtain ⟨n, A, ca, hn, rfl, hst⟩ := hrel
    have ST := Lib.hid hst
    clear hst
    by_cases hlt : n < N
    · have hltI : (n : Int) < (N : Int) := by omega
      have hn0 : (0 : Int) ≤ (n : Int) := by omega
      have c3 : wr.cell? ⟨w1.heap.size + 1, 3, none⟩ = some (.slice A n ca) := ST.out.v.cell 3
      have f3 := ST.out.v.frozen 3
      have l0 : wr.cell? ⟨w1.heap.size, 0, none⟩ = some (.int .i64 5) := by have := ST.out.l.cell 0; rw [HXE.out] at this; exact this
      have l1 : wr.cell? ⟨w1.heap.size, 1, none⟩ = some (.int .i64 0) := by have := ST.out.l.cell 1; rw [HXE.out] at this; exact this
      have l2 : wr.cell? ⟨w1.heap.size, 2, none⟩ = some (.string s) := by have := ST.out.l.cell 2; rw [HXE.out] at this; exact this
      have hVl := ST.out.v.lt
      have hown : wr.ownsRow (w1.heap.size + 1 + 1) 49 3 (.slice A n ca) n (rowC (List.replicate n x)) := by have h9 : wr.ownsRow (w1.heap.size + 1 + 1) 49 3 (.slice A n ca) (List.replicate n x).length (rowC (List.replicate n x)) := ST.out.a; rw [List.length_replicate] at h9; exact h9
      have HOWN := Lib.hid hown
      have m1 : n + 1 ≤ maxLen := by simp only [maxLen]; omega
      clear hown
      go_wp2_with (at_builtin; go_must (refine wpList_append_rd _ rfl _ _ 26 rfl (w1.heap.size + 1 + 1) 49 i0 _ 3 32 Tryz.underlying26 hi hz0 hz1 hz2 rfl (by decide) (.slice A n ca) n (rowC (List.replicate n x)) rfl (World.ownsRow.alloc HOWN.out _) _ 1 (vCells x) rfl (by rw [HXC.out]; exact Rd.one _ _ _ rfl) (by rw [HXC.out]; simp [Value.oneCell']) m1 (by omega) (by simp; omega) ?_); intro A2 c2 w3 hown2 hg2 hat2; have q3 : w3.cell? ⟨w1.heap.size + 1, 3, none⟩ = some (.slice A n ca) := hg2.cell (((Kept.refl Kno wr).alloc _).cell_some c3 (fun h => h)) (fun he => by have := (own_base HOWN.out he.symm).1; simp only at this; omega); have g3 : w3.frozen? ⟨w1.heap.size + 1, 3, none⟩ = false := (World.frozen?_of_block (hg2.block (w1.heap.size + 1) (by simp; omega) (fun he => by have := (own_base HOWN.out he.symm).1; omega))).trans (((Kept.refl Kno wr).alloc _).frozen_no f3 hVl (fun h => h)))
      have hst2 := ST.out.args hV (Nat.lt_succ_self _) hown2 hg2 hat2
      have ST2 := Lib.hid hst2
      clear hst2 hown2 hg2 hat2 q3 g3 c3 f3 l0 l1 l2
      go_roundw
      case rel => exact ⟨n + 1, A2, c2, by omega, by go_num, ST2.out⟩
      case measure => simp [intOf]; omega
    · have hltI : ¬ (n : Int) < (N : Int) := by omega
      obtain rfl : n = N := by omega
      go_upto_region 8 with (fail)
      go_loopw [10] (fun i wr => Rel2 w (w1.heap.size + 1) w1.heap.size x n M i wr) (fun i _ => M - (intOf i).toNat)
      case atStart => exact ⟨0, A, ca, none, 0, Nat.zero_le _, rfl, ST.out⟩
      case round =>
        obtain ⟨m, A', ca', K, d, hm, rfl, hst⟩ := hrel
        have ST := Lib.hid hst
        clear hst
        by_cases hlt : m < M
        · have hltI2 : (m : Int) < (M : Int) := by omega
          have hn0 : (0 : Int) ≤ (m : Int) := by omega
          have c9 : wr.cell? ⟨w1.heap.size + 1, 9, none⟩ = some (.slice K m d) := ST.out.v.cell 9
          have f9 := ST.out.v.frozen 9
          have l0 : wr.cell? ⟨w1.heap.size, 0, none⟩ = some (.int .i64 5) := by have := ST.out.l.cell 0; rw [HXE.out] at this; exact this
          have l1 : wr.cell? ⟨w1.heap.size, 1, none⟩ = some (.int .i64 0) := by have := ST.out.l.cell 1; rw [HXE.out] at this; exact this
          have l2 : wr.cell? ⟨w1.heap.size, 2, none⟩ = some (.string s) := by have := ST.out.l.cell 2; rw [HXE.out] at this; exact this
          have hVl := ST.out.v.lt
          have hown : wr.ownsRow (w1.heap.size + 1 + 1) 49 3 (.slice K m d) m (rowC (List.replicate m x)) := by have h9 : wr.ownsRow (w1.heap.size + 1 + 1) 49 3 (.slice K m d) (List.replicate m x).length (rowC (List.replicate m x)) := ST.out.k; rw [List.length_replicate] at h9; exact h9
          have HOWN := Lib.hid hown
          have m1 : m + 1 ≤ maxLen := by simp only [maxLen]; omega
          clear hown
          go_wp2_with (at_builtin; go_must (refine wpList_append_rd _ rfl _ _ 30 rfl (w1.heap.size + 1 + 1) 49 i0 _ 3 32 Tryz.underlying30 hi hz0 hz1 hz2 rfl (by decide) (.slice K m d) m (rowC (List.replicate m x)) rfl (World.ownsRow.alloc HOWN.out _) _ 1 (vCells x) rfl (by rw [HXC.out]; exact Rd.one _ _ _ rfl) (by rw [HXC.out]; simp [Value.oneCell']) m1 (by omega) (by simp; omega) ?_); intro A2 c2 w3 hown2 hg2 hat2; have q3 : w3.cell? ⟨w1.heap.size + 1, 9, none⟩ = some (.slice K m d) := hg2.cell (((Kept.refl Kno wr).alloc _).cell_some c9 (fun h => h)) (fun he => by have := (own_base HOWN.out he.symm).1; simp only at this; omega); have g3 : w3.frozen? ⟨w1.heap.size + 1, 9, none⟩ = false := (World.frozen?_of_block (hg2.block (w1.heap.size + 1) (by simp; omega) (fun he => by have := (own_base HOWN.out he.symm).1; omega))).trans (((Kept.refl Kno wr).alloc _).frozen_no f9 hVl (fun h => h)))
          have hst2 := ST.out.key hV (Nat.lt_succ_self _) hown2 hg2 hat2
          have ST2 := Lib.hid hst2
          clear hst2 hown2 hg2 hat2 q3 g3 c9 f9 l0 l1 l2
          go_roundw
          case rel => exact ⟨m + 1, A', ca', A2, c2, by omega, by go_num, ST2.out⟩
          case measure => simp [intOf]; omega
        · have hltI2 : ¬ (m : Int) < (M : Int) := by omega
          obtain rfl : m = M := by omega
          have hra := small_row ST.out.a HXO.out
          have hrk := small_row ST.out.k HXO.out
          have hCE := encode_verdict 1 (vd n m x) (.slice A' n ca') (.slice K m d) wr hra hrk (vd_ok n m x hN8 hM8 HXR.out)
          have hlen := vd_len n m x hN8 hM8 HXV.out
          have HCE := Lib.hid hCE
          have HV0 : Hid (Blk wr (w1.heap.size + 1) 34 #[.int .i64 1, .int .i64 1073741824, .int .i64 15, .slice A' n ca', .int .i64 3, .int .i64 1073741824, .int .i64 7, .int .i64 100, .int .i64 7, .slice K m d]) := Lib.hid ST.out.v
          have HKW := Lib.hid ST.out.kept
          generalize encVerd 1 (vd n m x) = E at HCE hlen
          have hlenI : (E.length : Int) ≤ 4096 := by omega
          clear hra hrk hCE
          go_wp2_with (refine wpList_load_row rfl 34 (.tmp 8) rfl (w1.heap.size + 1) rfl 34 #[.int .i64 1, .int .i64 1073741824, .int .i64 15, .slice A' n ca', .int .i64 3, .int .i64 1073741824, .int .i64 7, .int .i64 100, .int .i64 7, .slice K m d] (0, 0) _ HV0.out Tryz.underlying34 rfl (by kernel_rfl) ?_)
          refine HCE.out.mono ?_
          rintro e w4 ⟨hk4, h4⟩
          rw [if_pos (by omega)] at h4
          obtain ⟨A4, c4, rfl, -⟩ := h4
          have HK4 := Lib.hid (HKW.out.then0 hk4)
          clear hk4 HCE
          go_wp2_with fail
          refine (begun_any w4).mono ?_
          rintro e w5 ⟨rfl, hk5⟩
          have HX : Hid (RetBool true w (.returned (.bool true)) w5) := Lib.hid ⟨rfl, HK4.out.then0 hk5⟩
          clear hk5
          go_wp2
          go_ret
          exact HX.out

end Go.Proofs.YtffdaohmalmkfaaGreat
