/-
  JournalApart: the walk of the law.
-/
import Derived.Test.YteoodgcpkgfomaaM11
import Derived.Deep.CutBlock
namespace Go.Proofs.Yteoodgcpkgfomaa
open Go.RowKit
set_option linter.unusedVariables false

/-- Two journals over one disk. -/
structure Two (W w : World) (B J1 J2 : Nat) (f1 f2 : Int) (fs : List File) (rv1 ev1 : Value) (us1 : List Value) (rv2 ev2 : Value) (us2 : List Value) (a : Ab) (rs1 rs2 : List (List UInt8)) : Prop where
  is : Is w W.heap.size B fs a
  j1 : Jr w W.heap.size J1 B f1 rv1 ev1 us1 rs1 false
  j2 : Jr w W.heap.size J2 B f2 rv2 ev2 us2 rs2 false
  a1 : JApart J1 B fs rv1 ev1 us1
  a2 : JApart J2 B fs rv2 ev2 us2
  ap : ∀ k, JOwn J1 rv1 ev1 us1 k → ¬ JOwn J2 rv2 ev2 us2 k
  k : Kept Kno W w

section
variable {W w w' : World} {B J1 J2 : Nat} {f1 f2 : Int} {fs : List File} {rv1 ev1 rv2 ev2 : Value} {us1 us2 : List Value} {a : Ab} {rs1 rs2 : List (List UInt8)} {s' : JA}
theorem Two.swap (h : Two W w B J1 J2 f1 f2 fs rv1 ev1 us1 rv2 ev2 us2 a rs1 rs2) : Two W w B J2 J1 f2 f1 fs rv2 ev2 us2 rv1 ev1 us1 a rs2 rs1 :=
  ⟨h.is, h.j2, h.j1, h.a2, h.a1, fun k h1 h2 => h.ap k h2 h1, h.k⟩
theorem Two.turn1 (h : Two W w B J1 J2 f1 f2 fs rv1 ev1 us1 rv2 ev2 us2 a rs1 rs2) (ht : JTurn W.heap.size J1 B f1 fs rv1 ev1 us1 s' w w') (ho : s'.off = false) :
    ∃ fs' rv' ev' us', Two W w' B J1 J2 f1 f2 fs' rv' ev' us' rv2 ev2 us2 s'.a s'.rs rs2 ∧ (∀ k, JOwn J1 rv' ev' us' k → JOwn J1 rv1 ev1 us1 k ∨ w.heap.size ≤ k) ∧ (∀ k, DK B fs' k → DK B fs k ∨ w.heap.size ≤ k) ∧ Kept (fun k => JOwn J1 rv1 ev1 us1 k ∨ DK B fs k) w w' := by
  obtain ⟨fs', rv', ev', us', h1, h2, h3, h4, h5, h6⟩ := ht
  rw [ho] at h2
  refine ⟨fs', rv', ev', us', ⟨h1, h2, h.j2.kept h4 (fun k e e' => ?_), h3, fun k e e' => ?_, fun k e e' => ?_, jkept h.k (Nat.le_refl _) h.j1 h.is h4⟩, h6, h5, h4⟩
  · rcases e' with e' | e'
    · exact h.ap k e' e
    · exact h.a2 k e e'
  · rcases h5 k e' with h7 | h7
    · exact h.a2 k e h7
    · have := (h.j2.own_low e).2; omega
  · rcases h6 k e with h7 | h7
    · exact h.ap k h7 e'
    · have := (h.j2.own_low e').2; omega
theorem Two.kept {S : Nat → Prop} (h : Two W w B J1 J2 f1 f2 fs rv1 ev1 us1 rv2 ev2 us2 a rs1 rs2) (hk : Kept S w w') (h1 : ∀ k, S k → ¬ JOwn J1 rv1 ev1 us1 k) (h2 : ∀ k, S k → ¬ JOwn J2 rv2 ev2 us2 k) (h3 : ∀ k, S k → ¬ DK B fs k) (h4 : ∀ k, S k → W.heap.size ≤ k) :
    Two W w' B J1 J2 f1 f2 fs rv1 ev1 us1 rv2 ev2 us2 a rs1 rs2 :=
  ⟨is_far h.is hk h3, h.j1.kept hk (fun k e e' => h1 k e' e), h.j2.kept hk (fun k e e' => h2 k e' e), h.a1, h.a2, h.ap, h.k.trans hk (fun i hi e => by have := h4 i e; omega)⟩
theorem Two.kept0 (h : Two W w B J1 J2 f1 f2 fs rv1 ev1 us1 rv2 ev2 us2 a rs1 rs2) (hk : Kept Kno w w') : Two W w' B J1 J2 f1 f2 fs rv1 ev1 us1 rv2 ev2 us2 a rs1 rs2 :=
  h.kept hk (fun _ h => h.elim) (fun _ h => h.elim) (fun _ h => h.elim) (fun _ h => h.elim)
theorem Two.low (h : Two W w B J1 J2 f1 f2 fs rv1 ev1 us1 rv2 ev2 us2 a rs1 rs2) {k : Nat} (hk : JOwn J1 rv1 ev1 us1 k ∨ JOwn J2 rv2 ev2 us2 k ∨ DK B fs k) : k < w.heap.size := by
  rcases hk with e | e | e
  · exact (h.j1.own_low e).2
  · exact (h.j2.own_low e).2
  · exact (h.is.low e).2
end

/-- The disk as the two journals have written it. -/
structure Pair (a : Ab) (f1 f2 : Nat) (rs1 rs2 : List (List UInt8)) : Prop where
  calm : Calm a
  room : a.room = 16777216
  file1 : (a.file f1).1 = frames rs1
  file2 : (a.file f2).1 = frames rs2
  used : a.used = (frames rs1).length + (frames rs2).length
theorem Pair.swap {a : Ab} {f1 f2 : Nat} {rs1 rs2 : List (List UInt8)} (h : Pair a f1 f2 rs1 rs2) : Pair a f2 f1 rs2 rs1 := ⟨h.calm, h.room, h.file2, h.file1, by rw [h.used]; omega⟩
theorem Pair.append {a : Ab} {f1 f2 : Nat} {rs1 rs2 : List (List UInt8)} (h : Pair a f1 f2 rs1 rs2) (h1 : f1 < 8) (h12 : f1 ≠ f2) (b : List UInt8) (hb : b.length ≤ 300) (hl1 : (frames rs1).length ≤ 2488) (hl2 : (frames rs2).length ≤ 2488) :
    ∃ a', (⟨a, rs1, false⟩ : JA).append f1 b = (⟨a', rs1 ++ [b], false⟩, 0) ∧ Pair a' f1 f2 (rs1 ++ [b]) rs2 := by
  have hlf : (frame b).length ≤ 311 := by have h9 := (leb_length b.length).2; rw [frame_length]; omega
  have hu := h.used
  have h9 := JA.append_calm h.calm h1 rs1 b (by omega) (by rw [h.room, hu]; omega)
  rw [h.file1] at h9
  refine ⟨_, h9, h.calm.put _, h.room, ?_, ?_, ?_⟩
  · rw [h.calm.file_put h1, frames_snoc]
  · rw [file_put_ne _ h12, h.file2]
  · have h8 := h.calm.used_put h1 (frames rs1 ++ frame b, (a.file f1).2)
    rw [h.file1] at h8
    simp only [List.length_append] at h8
    rw [frames_snoc, List.length_append]
    omega

/-- A slice of n bytes, whatever they are, in a row of its own. -/
def RowN (w : World) (base : Nat) (u : Value) (n : Nat) : Prop :=
  ∃ A c, u = .slice A n c ∧ (n = 0 ∨ ∃ g cur, A = some ⟨g, 0, none⟩ ∧ base ≤ g ∧ w.heap[g]? = some (.cells cur 5 (0, 0)) ∧ n ≤ cur.size ∧ ∀ (j : Nat) (v : Value), j < n → cur[j]? = some v → ∃ z, v = .int .u8 z)
theorem RowN.of_own {w : World} {base : Nat} {u : Value} {l : List UInt8} (h : OwnB w base 5 u l) : RowN w base u l.length := by
  obtain ⟨h1, h2⟩ := h
  rcases h2 with ⟨rfl, hn⟩ | ⟨g, cap, cur, rfl, hb, hh, hnc, hcm, hs, ht⟩
  · exact ⟨none, 0, by rw [hn], .inl hn⟩
  · refine ⟨_, cap, rfl, .inr ⟨g, cur, rfl, hb, hh, by omega, fun j v hj hv => ?_⟩⟩
    have h5 : (cur.toList.take (l.length * 1))[j]? = some v := by rw [List.getElem?_take, if_pos (by omega)]; simpa using hv
    rw [ht, List.getElem?_map] at h5
    cases hq : l[j]? with
    | none => rw [hq] at h5; cases h5
    | some c =>
      rw [hq] at h5
      simp only [Option.map_some, Option.some.injEq] at h5
      exact ⟨_, h5.symm⟩
theorem RowN.set {w : World} {base : Nat} {u : Value} {n : Nat} (h : RowN w base u n) (g j : Nat) (z : Int) : RowN (w.setCell ⟨g, j, none⟩ (.int .u8 z)) base u n := by
  obtain ⟨A, c, rfl, h⟩ := h
  refine ⟨A, c, rfl, h.imp_right ?_⟩
  rintro ⟨g', cur, rfl, hb, hh, hn, hv⟩
  by_cases hg : g' = g
  · subst hg
    refine ⟨g', cur.setIfInBounds j (.int .u8 z), rfl, hb, Blk.set_ (t := 5) hh j _, by simpa using hn, fun i v hi he => ?_⟩
    rw [Array.getElem?_setIfInBounds] at he
    split at he
    · split at he
      · injection he with he; exact ⟨z, he.symm⟩
      · cases he
    · exact hv i v hi he
  · exact ⟨g', cur, rfl, hb, Blk.far (t := 5) hh (p := ⟨g, j, none⟩) hg _, hn, hv⟩
theorem RowN.kept {S : Nat → Prop} {w w' : World} {base : Nat} {u : Value} {n : Nat} (h : RowN w base u n) (hk : Kept S w w') (hS : ∀ k, u.ownBlock = some k → ¬ S k) : RowN w' base u n := by
  obtain ⟨A, c, rfl, h⟩ := h
  refine ⟨A, c, rfl, h.imp_right ?_⟩
  rintro ⟨g', cur, rfl, hb, hh, hn, hv⟩
  exact ⟨g', cur, rfl, hb, Blk.kept (t := 5) hh hk (hS g' rfl), hn, hv⟩
theorem RowN.at {w : World} {base : Nat} {u : Value} {n j : Nat} (h : RowN w base u n) (hj : j < n) : ∃ g c z, u = .slice (some ⟨g, 0, none⟩) n c ∧ base ≤ g ∧ w.cell? ⟨g, j, none⟩ = some (.int .u8 z) ∧ w.frozen? ⟨g, j, none⟩ = false ∧ BT w g 5 := by
  obtain ⟨A, c, rfl, h0 | ⟨g, cur, rfl, hb, hh, hn, hv⟩⟩ := h
  · omega
  · obtain ⟨z, hz⟩ := hv j cur[j] hj (Array.getElem?_eq_getElem (by omega))
    refine ⟨g, c, z, rfl, hb, ?_, Blk.frozen (t := 5) hh j, ⟨cur, (0, 0), hh⟩⟩
    rw [Blk.cell (t := 5) hh, Array.getElem?_eq_getElem (by omega), hz]

/-- A list of byte rows of the caller's own, whatever the bytes. -/
def ListN (w : World) (base : Nat) (v : Value) (vs : List Value) (n : Nat) : Prop := w.ownsRow base 30 1 v n vs ∧ ∀ (i : Nat) (u : Value), vs[i]? = some u → ∃ m, RowN w base u m ∧ m ≤ 20000000
theorem ListN.of_ls {w : World} {base : Nat} {v : Value} {vs : List Value} {ls : List (List UInt8)} (h : Ls w base v vs ls) (hm : ∀ b ∈ ls, b.length ≤ 20000000) : ListN w base v vs ls.length := by
  refine ⟨h.1, fun i u hu => ?_⟩
  have hl := h.len
  have hlt : i < vs.length := (List.getElem?_eq_some_iff.1 hu).1
  have hx := List.getElem?_eq_getElem (show i < ls.length by omega)
  exact ⟨_, RowN.of_own (h.2 i u _ hu hx), hm _ (List.getElem_mem _)⟩
theorem ListN.set {w : World} {base : Nat} {v : Value} {vs : List Value} {n : Nat} (h : ListN w base v vs n) {g : Nat} (hg : BT w g 5) (j : Nat) (z : Int) : ListN (w.setCell ⟨g, j, none⟩ (.int .u8 z)) base v vs n := by
  refine ⟨own_kept (S := Kone g) h.1 (Kept.setIn (S := Kone g) (Kept.refl _ _) (p := ⟨g, j, none⟩) (Eq.refl g) _) (fun k e e' => ?_), fun i u hu => ?_⟩
  · unfold Kone at e'; subst e'
    exact absurd (hg.one (own_bt h.1 e)) (by decide)
  · obtain ⟨m, h1, h2⟩ := h.2 i u hu
    exact ⟨m, h1.set g j z, h2⟩

theorem ListN.at {w : World} {base : Nat} {v : Value} {vs : List Value} {n q : Nat} (h : ListN w base v vs n) (hq : q < n) : ∃ g cap u m, v = .slice (some ⟨g, 0, none⟩) n cap ∧ w.cell? ⟨g, q, none⟩ = some u ∧ vs[q]? = some u ∧ RowN w base u m ∧ m ≤ 20000000 := by
  obtain ⟨h1, h2⟩ := h
  obtain ⟨h3, h4 | ⟨g, cap, cur, rfl, hb, hh, hnc, hcm, hs, ht⟩⟩ := h1
  · omega
  · have hl : q < vs.length := by omega
    obtain ⟨u, hu⟩ : ∃ u, vs[q]? = some u := ⟨_, List.getElem?_eq_getElem hl⟩
    obtain ⟨m, h5, h6⟩ := h2 q _ hu
    refine ⟨g, cap, u, m, rfl, ?_, hu, h5, h6⟩
    rw [cell_of_row w g q cur _ (0, 0) hh]
    rw [← ht, List.getElem?_take] at hu
    split at hu
    · simpa using hu
    · cases hu
theorem take_next2 {α : Type} {R : List α} {i : Nat} (h : R.length ≤ i) : R.take (i + 1) = R.take i := by
  rw [List.take_of_length_le (by omega), List.take_of_length_le h]

def ApState (W : World) (B J1 J2 : Nat) (rs1 rs2 : List (List UInt8)) (wr : World) : Prop :=
  ∃ fs rv1 ev1 us1 rv2 ev2 us2 a, Two W wr B J1 J2 3 4 fs rv1 ev1 us1 rv2 ev2 us2 a rs1 rs2 ∧ Pair a 3 4 rs1 rs2
def ApRel (W : World) (B J1 J2 mx : Nat) (RA RB : List (List UInt8)) (i : Value) (wr : World) : Prop :=
  ∃ k : Nat, k ≤ mx ∧ i = .int .i64 (k : Nat) ∧ ApState W B J1 J2 (RA.take k) (RB.take k) wr

theorem max_natw (n b : Nat) : (if (n : Int) < (b : Int) then (b : Int) else (n : Int)) = ((max n b : Nat) : Int) := by
  by_cases h : (n : Int) < (b : Int)
  · rw [if_pos h]; omega
  · rw [if_neg h]; omega

set_option maxRecDepth 100000 in
set_option maxHeartbeats 6000000 in
theorem apart_walk (v : Value) (p : List Value × List (List UInt8)) (v' : Value) (p' : List Value × List (List UInt8)) (w : World) (hr : LsR w v p.1 p.2 ∧ p.2.length ≤ maxLen ∧ ∀ b ∈ p.2, b.length ≤ maxLen) (hr' : LsR w v' p'.1 p'.2 ∧ p'.2.length ≤ maxLen ∧ ∀ b ∈ p'.2, b.length ≤ maxLen) :
    Calls Try.prog 4 #[v, v'] w (RetNew (.bool true) w) := by
  obtain ⟨i0, hi0, hz0, hz1, hz2⟩ := info_parts info_byte
  have hf3 : ∀ (v0 v1 v2 v3 v4 : Value) (w : World), (Instr.field 47 (.agg #[v0, v1, v2, v3, v4]) 3).run Try.prog w = .ok v3 w := fun _ _ _ _ _ _ => by kernel_rfl
  obtain ⟨us, rs⟩ := p
  obtain ⟨us', rs'⟩ := p'
  simp only at hr hr'
  have HR := Lib.hid hr
  have HR' := Lib.hid hr'
  obtain ⟨Ar, cr, rfl, hrc⟩ := hr.1.form
  obtain ⟨Ar', cr', rfl, hrc'⟩ := hr'.1.form
  clear hr hr'
  go_enter Try.func4, Try.ntmps4
  go_wp2_with fail
  refine (cut_any 0 0 (.slice none 0 0) _ [] us rs none 0 0 w (nil_bs w) HR.out.1 (by simp) HR.out.2.1 HR.out.2.2).mono ?_
  rintro e w1 ⟨A1, n1, c1, A2, c2, vs, rfl, -, hown1, hel1, hk1⟩
  have HLA1 : Hid (LsR w1 (.slice A2 (cutR rs).length c2) vs (cutR rs)) := Lib.hid ⟨Rd.of_own hown1, hel1⟩
  have HR1 := Lib.hid (HR'.out.1.kept0 hk1)
  have HK1 := Lib.hid hk1
  have hAl := cutR_len rs
  have hAm := fun (b : List UInt8) (hb : b ∈ cutR rs) => cutR_mem hb
  have hAf := cutR_frames rs
  have hAs := cutR_short rs
  have HAM := Lib.hid hAm
  have HAS := Lib.hid hAs
  have hAc : (cutR rs).length ≤ c2 := by
    obtain ⟨A3, cap3, e3, hc3⟩ := HLA1.out.form
    injection e3 with _ _ e3
    omega
  generalize cutR rs = RA at hAl hAf HLA1 HAM HAS hAc ⊢
  clear hown1 hel1 hAm hAs hk1 HR hrc
  go_wp2_with fail
  refine (cut_any 0 0 (.slice none 0 0) _ [] us' rs' none 0 0 w1 (nil_bs w1) HR1.out (by simp) HR'.out.2.1 HR'.out.2.2).mono ?_
  rintro e w2 ⟨A1', n1', c1', A2', c2', vs', rfl, -, hown2, hel2, hk2⟩
  have HLB : Hid (LsR w2 (.slice A2' (cutR rs').length c2') vs' (cutR rs')) := Lib.hid ⟨Rd.of_own hown2, hel2⟩
  have HLA := Lib.hid (HLA1.out.kept0 hk2)
  have HK2 := Lib.hid (HK1.out.then0 hk2)
  have hBl := cutR_len rs'
  have hBm := fun (b : List UInt8) (hb : b ∈ cutR rs') => cutR_mem hb
  have hBf := cutR_frames rs'
  have hBs := cutR_short rs'
  have HBM := Lib.hid hBm
  have HBS := Lib.hid hBs
  have hBc : (cutR rs').length ≤ c2' := by
    obtain ⟨A3, cap3, e3, hc3⟩ := HLB.out.form
    injection e3 with _ _ e3
    omega
  generalize cutR rs' = RB at hBl hBf HLB HBM HBS hBc ⊢
  clear hown2 hel2 hBm hBs hk2 HR' hrc' HLA1 HR1 HK1
  go_wp2_with fail
  refine (new_ok 16777216 _ (by omega) (by omega)).mono ?_
  rintro e w5 ⟨rfl, hw5⟩
  have hk5 : Kept Kno w2 w5 := by rw [hw5]; exact (Kept.refl _ _).alloc _
  have hn5 : Is w5 w2.heap.size w2.heap.size (List.replicate 8 noFile) (ab0 16777216) := by rw [hw5]; exact is_new w2 _ 16777216 (Nat.le_refl _) (by omega) (by omega)
  have HN5 := Lib.hid hn5
  clear hw5 hn5 hf3
  go_wp2_with fail
  have hop := open_any w2.heap.size w2.heap.size 3 _ (ab0 16777216) w5 HN5.out (by decide)
  rw [jopen_empty (ab0 16777216) 3 (by decide)] at hop
  refine hop.mono ?_
  rintro e w6 ⟨fs6, hi6, hkk6, hd6, J1, rv6, ev6, us6, rfl, hj6, ha6⟩
  have hk6 : Kept Kno w2 w6 := HN5.out.kept hk5 (Nat.le_refl _) hkk6
  have HI6 := Lib.hid hi6
  have HJ6 := Lib.hid (hj6.rebase hk5.size)
  have HA6 := Lib.hid ha6
  clear hi6 hj6 ha6 hkk6 hd6 HN5 hop
  go_wp2_with fail
  have hop := open_any w2.heap.size w2.heap.size 4 _ (ab0 16777216) w6 HI6.out (by decide)
  rw [jopen_empty (ab0 16777216) 4 (by decide)] at hop
  refine hop.mono ?_
  rintro e w7 ⟨fs7, hi7, hkk7, hd7, J2, rv7, ev7, us7, rfl, hj7, ha7⟩
  have hk7 : Kept Kno w2 w7 := HI6.out.kept hk6 (Nat.le_refl _) hkk7
  have hj17 := HJ6.out.kept hkk7 (fun k e => HA6.out k e)
  have ha17 : JApart J1 w2.heap.size fs7 rv6 ev6 us6 := fun k e e' => by
    rcases hd7 k e' with h | h
    · exact HA6.out k e h
    · have := (HJ6.out.own_low e).2; omega
  have HT7 : Hid (ApState w2 w2.heap.size J1 J2 [] [] w7) := Lib.hid ⟨fs7, rv6, ev6, us6, rv7, ev7, us7, ab0 16777216, ⟨hi7, hj17, hj7.rebase hk6.size, ha17, ha7, fun k e e' => by have := (HJ6.out.own_low e).2; have := (hj7.own_low e').1; omega, hk7⟩, ⟨calm0 _, rfl, by rw [file0]; rfl, by rw [file0]; rfl, by rw [used0]; rfl⟩⟩
  clear hi7 hj7 ha7 hkk7 hd7 hop HI6 HJ6 HA6 hj17 ha17 hk5 hk6 hk7
  have hmax : (if (RA.length : Int) < (RB.length : Int) then (RB.length : Int) else (RA.length : Int)) = ((max RA.length RB.length : Nat) : Int) := max_natw _ _
  have hmax2 : (if RA.length < RB.length then (RB.length : Int) else (RA.length : Int)) = ((max RA.length RB.length : Nat) : Int) := by split <;> omega
  have hmA : RA.length ≤ max RA.length RB.length := Nat.le_max_left _ _
  have hmB : RB.length ≤ max RA.length RB.length := Nat.le_max_right _ _
  generalize max RA.length RB.length = mx at hmax hmax2 hmA hmB
  go_wp2_with fail
  go_loopw [11] (fun i wr => ApRel w2 w2.heap.size J1 J2 mx RA RB i wr) (fun i _ => mx - (intOf i).toNat)
  case atStart => exact ⟨0, by omega, rfl, HT7.out⟩
  case round =>
    obtain ⟨i, hi, rfl, hst⟩ := hrel
    have HST := Lib.hid hst
    clear hst
    by_cases hlt : i < mx
    · have hlt2 : (i : Int) < (mx : Int) := by omega
      have hi0' : (0 : Int) ≤ (i : Int) := by omega
      go_upto_if 73 with fail
      go_cut [12, 13] (fun x y wx => ApState w2 w2.heap.size J1 J2 (RA.take (i + 1)) (RB.take i) wx)
      case first =>
        by_cases hA : i < RA.length
        · obtain ⟨fs, rv1, ev1, us1, rv2, ev2, us2, a, hTwo, hPair⟩ := HST.out
          have HTW := Lib.hid hTwo
          have HPR := Lib.hid hPair
          have hR := HLA.out.kept0 hTwo.k
          obtain ⟨g, o, c9, x, hv, hx, hcell⟩ := hR.at hA
          injection hv with e1 e2 e3
          subst e1 e3
          have hbk : RA[i]? = some RA[i] := List.getElem?_eq_getElem hA
          have hml := HAM.out RA[i] (List.getElem_mem hA)
          generalize RA[i] = b at hbk hml
          have hbs := hR.2 i x b hx hbk
          have HB := Lib.hid hbs
          obtain ⟨Ax, cx, rfl, -⟩ := hbs
          have HBK := Lib.hid hbk
          have hA2 : (i : Int) < (RA.length : Int) := by omega
          have m1 : 0 + b.length ≤ maxLen := by simp only [maxLen]; omega
          clear hR hx hbk e2 hTwo hPair
          go_wp2_with (at_builtin; (refine wpList_append_rd _ rfl _ _ 30 rfl wr.heap.size 5 i0 _ 1 1 Try.underlying30 hi0 hz0 hz1 hz2 rfl (by decide) (.slice none 0 0) 0 [] rfl (World.ownsRow_nil _ _ _ _) _ b.length (b.map bv) rfl HB.out (bvs_one b) m1 (by omega) (Nat.le_refl _) ?_); intro A6 cap6 w6 hown6 hg6 hat6)
          have hk6 : Kept Kno wr w6 := (Kept.refl _ _).grown hg6 (fun k _ e => by cases e)
          have HO6 : Hid (OwnB w6 wr.heap.size 5 (.slice A6 b.length cap6) b) := Lib.hid (by have h9 := hown6; simp only [Nat.zero_add, List.nil_append] at h9; exact h9)
          have HT6 := Lib.hid (HTW.out.kept0 hk6)
          obtain ⟨a', he', hp'⟩ := HPR.out.append (by omega) (by omega) b hml (Nat.le_trans (frames_take_le RA i) hAf) (Nat.le_trans (frames_take_le RB i) hBf)
          have HFAR : Hid (∀ w', Kept (fun k => JOwn J1 rv1 ev1 us1 k ∨ DK w2.heap.size fs k) w6 w' → OwnB w' wr.heap.size 5 (.slice A6 b.length cap6) b) := Lib.hid (fun w' hk => own_kept HO6.out hk (fun q e e' => by
            have h1 := (own_base HO6.out e).1
            rcases e' with e' | e'
            · have := HTW.out.low (.inl e'); omega
            · have := HTW.out.low (.inr (.inr e')); omega))
          have hfl : (frames (RA.take i ++ [b])).length ≤ 20000000 := by
            have h1 := frames_take_le RA i
            have h2 : (frame b).length ≤ 311 := by have h9 := (leb_length b.length).2; rw [frame_length]; omega
            rw [frames_snoc, List.length_append]; omega
          have hap := jappend_any (⟨a, RA.take i, false⟩ : JA) (.slice A6 b.length cap6) b HT6.out.j1 HT6.out.is HT6.out.a1 (OwnB.bs HO6.out) (fun w' hk => OwnB.bs (HFAR.out w' hk)) (fun _ _ _ => hfl) HT6.out.k.size
          rw [show (⟨a, RA.take i, false⟩ : JA).append 3 b = _ from he'] at hap
          try rw [Nat.zero_add]
          refine hap.mono ?_
          rintro e w7 ⟨rfl, ht⟩
          obtain ⟨fs7, rv7, ev7, us7, hT7, ho7, hd7, hk67⟩ := HT6.out.turn1 ht rfl
          rw [← take_snocr HBK.out] at hp'
          simp only [← take_snocr HBK.out] at hT7
          have HT7 := Lib.hid hT7
          have HP7 := Lib.hid hp'
          have HRN := Lib.hid (RowN.of_own (HFAR.out w7 hk67))
          have HSEP : Hid (∀ k, Kown (.slice A6 b.length cap6) k → ¬ JOwn J1 rv7 ev7 us7 k ∧ ¬ JOwn J2 rv2 ev2 us2 k ∧ ¬ DK w2.heap.size fs7 k ∧ w2.heap.size ≤ k) := Lib.hid (fun k e => by
            have h1 := own_base HO6.out e
            refine ⟨fun e' => ?_, fun e' => ?_, fun e' => ?_, Nat.le_trans HTW.out.k.size h1.1⟩
            · rcases ho7 k e' with h | h
              · have := HTW.out.low (.inl h); omega
              · omega
            · have := HTW.out.low (.inr (.inl e')); omega
            · rcases hd7 k e' with h | h
              · have := HTW.out.low (.inr (.inr h)); omega
              · omega)
          clear hown6 hg6 hat6 he' hp' hfl hap ht hT7 ho7 hd7 hk67 hk6 HO6 HT6 HFAR HTW HPR
          go_wp2_with fail
          go_loopw [85] (fun j wx => ∃ q : Nat, q ≤ b.length ∧ j = .int .i64 (q : Nat) ∧ RowN wx wr.heap.size (.slice A6 b.length cap6) b.length ∧ Kept (Kown (.slice A6 b.length cap6)) w7 wx) (fun j _ => b.length - (intOf j).toNat)
          case atStart => exact ⟨0, by omega, rfl, HRN.out, Kept.refl _ _⟩
          case round =>
            rename_i wx
            obtain ⟨q, hq, rfl, hrn, hkx⟩ := hrel
            have HRX := Lib.hid hrn
            have HKX := Lib.hid hkx
            by_cases hql : q < b.length
            · obtain ⟨g2, c2x, z, hv, hgb, hc, hf, hbt⟩ := hrn.at hql
              injection hv with e1 e2 e3
              subst e1 e3
              have hq0 : (0 : Int) ≤ (q : Int) := by omega
              have hq2 : (q : Int) < (b.length : Int) := by omega
              clear hrn hkx hbt e2
              go_wp2
              go_roundw
              case rel => exact ⟨q + 1, by omega, by go_num, HRX.out.set _ _ _, HKX.out.setIn (p := ⟨g2, q, none⟩) (Eq.refl (some g2)) _⟩
              case measure => simp [intOf]; omega
            · have hq2 : ¬ (q : Int) < (b.length : Int) := by omega
              clear hrn
              go_wp2_with fail
              go_meet
              exact ⟨fs7, rv7, ev7, us7, rv2, ev2, us2, a', HT7.out.kept hkx (fun k e => (HSEP.out k e).1) (fun k e => (HSEP.out k e).2.1) (fun k e => (HSEP.out k e).2.2.1) (fun k e => (HSEP.out k e).2.2.2), HP7.out⟩
        · have hA2 : ¬ (i : Int) < (RA.length : Int) := by omega
          have HTK := Lib.hid (take_next2 (R := RA) (i := i) (by omega))
          go_wp2_with fail
          go_meet
          rw [HTK.out]
          exact HST.out
      case rest =>
        obtain ⟨fs, rv1, ev1, us1, rv2, ev2, us2, a, hTwo, hPair⟩ := hcut
        have HTW := Lib.hid hTwo
        have HPR := Lib.hid hPair
        clear hTwo hPair HST
        by_cases hB : i < RB.length
        · have hR := HLB.out.kept0 HTW.out.k
          obtain ⟨g, o, c9, x, hv, hx, hcell⟩ := hR.at hB
          injection hv with e1 e2 e3
          subst e1 e3
          have hbk : RB[i]? = some RB[i] := List.getElem?_eq_getElem hB
          have hml := HBM.out RB[i] (List.getElem_mem hB)
          generalize RB[i] = b at hbk hml
          have hbs := hR.2 i x b hx hbk
          have HB := Lib.hid hbs
          have HB2 := Lib.hid (HLB.out.2 i x b hx hbk)
          obtain ⟨Ax, cx, rfl, -⟩ := hbs
          have HBK := Lib.hid hbk
          have hB2 : (i : Int) < (RB.length : Int) := by omega
          clear hR hx hbk e2
          go_wp2_with fail
          obtain ⟨a', he', hp'⟩ := HPR.out.swap.append (by omega) (by omega) b hml (Nat.le_trans (frames_take_le RB i) hBf) (Nat.le_trans (frames_take_le RA (i + 1)) hAf)
          have hfl : (frames (RB.take i ++ [b])).length ≤ 20000000 := by
            have h1 := frames_take_le RB i
            have h2 : (frame b).length ≤ 311 := by have h9 := (leb_length b.length).2; rw [frame_length]; omega
            rw [frames_snoc, List.length_append]; omega
          have hap := jappend_any (⟨a, RB.take i, false⟩ : JA) (.slice Ax b.length cx) b HTW.out.j2 HTW.out.is HTW.out.a2 HB.out (fun w' hk => Rd.kept0 HB2.out (jkept HTW.out.k (Nat.le_refl _) HTW.out.j2 HTW.out.is hk)) (fun _ _ _ => hfl) HTW.out.k.size
          rw [show (⟨a, RB.take i, false⟩ : JA).append 4 b = _ from he'] at hap
          refine hap.mono ?_
          rintro e w9 ⟨rfl, ht⟩
          obtain ⟨fs9, rv9, ev9, us9, hT9, -, -, -⟩ := HTW.out.swap.turn1 ht rfl
          rw [← take_snocr HBK.out] at hp'
          simp only [← take_snocr HBK.out] at hT9
          have hT9' := hT9.swap
          have hP9 := hp'.swap
          clear he' hp' hfl hap ht hT9 HTW HPR HB HB2 HBK
          obtain ⟨TA, hTA⟩ : ∃ TA, TA = RA.take (i + 1) := ⟨_, rfl⟩
          obtain ⟨TB, hTB⟩ : ∃ TB, TB = RB.take (i + 1) := ⟨_, rfl⟩
          rw [← hTA, ← hTB] at hT9' hP9
          have HT9 := Lib.hid hT9'
          have HP9 := Lib.hid hP9
          have HTA := Lib.hid hTA
          have HTB := Lib.hid hTB
          have hTl : TA.length ≤ 8 := by rw [hTA, List.length_take]; omega
          have HTM : Hid (∀ b ∈ TA, b.length ≤ 20000000) := Lib.hid (fun b hb => by rw [hTA] at hb; have := HAM.out b (List.mem_of_mem_take hb); omega)
          clear hTA hTB hT9' hP9
          go_wp2_with fail
          refine (records_any HT9.out.j1).mono ?_
          rintro e w10 ⟨A10, cap10, vs10, rfl, hls10, hk10⟩
          have HLN := Lib.hid (ListN.of_ls hls10 HTM.out)
          have HK10 := Lib.hid hk10
          clear hls10 hk10
          go_wp2_with fail
          go_loopw [111] (fun j wx => ∃ q : Nat, q ≤ TA.length ∧ j = .int .i64 (q : Nat) ∧ ListN wx w9.heap.size (.slice A10 TA.length cap10) vs10 TA.length ∧ Kept Kno w9 wx) (fun j _ => TA.length - (intOf j).toNat)
          case atStart => exact ⟨0, by omega, rfl, HLN.out, HK10.out⟩
          case round =>
            rename_i wx
            obtain ⟨q, hq, rfl, hln, hkx⟩ := hrel
            have HLX := Lib.hid hln
            have HKX := Lib.hid hkx
            by_cases hql : q < TA.length
            · obtain ⟨g, c3, u, m, hv, hc, -, hrn, hm⟩ := hln.at hql
              injection hv with e1 e2 e3
              subst e1 e3
              have HRN := Lib.hid hrn
              obtain ⟨Au, cu, rfl, -⟩ := hrn
              have hq0 : (0 : Int) ≤ (q : Int) := by omega
              have hq2 : (q : Int) < (TA.length : Int) := by omega
              clear hln hkx e2
              go_wp2_with fail
              go_loopw [117] (fun j wy => ∃ q2 : Nat, q2 ≤ m ∧ j = .int .i64 (q2 : Nat) ∧ ListN wy w9.heap.size (.slice (some ⟨g, 0, none⟩) TA.length cap10) vs10 TA.length ∧ RowN wy w9.heap.size (.slice Au m cu) m ∧ Kept Kno w9 wy) (fun j _ => m - (intOf j).toNat)
              case atStart => exact ⟨0, by omega, rfl, HLX.out, HRN.out, HKX.out⟩
              case round =>
                rename_i wy
                obtain ⟨q2, hq2l, rfl, hln2, hrn2, hky⟩ := hrel
                have HLY := Lib.hid hln2
                have HRY := Lib.hid hrn2
                have HKY := Lib.hid hky
                by_cases hql2 : q2 < m
                · obtain ⟨g2, c2x, z, hv, hgb, hc2, hf2, hbt⟩ := hrn2.at hql2
                  injection hv with e1 e2 e3
                  subst e1 e3
                  have HBT := Lib.hid hbt
                  have hp0 : (0 : Int) ≤ (q2 : Int) := by omega
                  have hp2 : (q2 : Int) < (m : Int) := by omega
                  clear hln2 hrn2 hky hbt e2 hc
                  go_wp2
                  go_roundw
                  case rel => exact ⟨q2 + 1, by omega, by go_num, HLY.out.set HBT.out _ _, HRY.out.set _ _ _, HKY.out.setNew (p := ⟨g2, q2, none⟩) hgb _⟩
                  case measure => simp [intOf]; omega
                · have hp2 : ¬ (q2 : Int) < (m : Int) := by omega
                  clear hln2 hrn2 hky hc
                  go_wp2
                  go_roundw
                  case rel => exact ⟨q + 1, by omega, by go_num, HLY.out, HKY.out⟩
                  case measure => simp [intOf]; omega
            · have hq2 : ¬ (q : Int) < (TA.length : Int) := by omega
              clear hln
              go_wp2
              go_roundw
              case rel =>
                refine ⟨i + 1, by omega, by go_num, ?_⟩
                rw [← HTA.out, ← HTB.out]
                exact ⟨_, _, _, _, _, _, _, _, HT9.out.kept0 hkx, HP9.out⟩
              case measure => simp [intOf]; omega
        · have hB2 : ¬ (i : Int) < (RB.length : Int) := by omega
          have htk := take_next2 (R := RB) (i := i) (by omega)
          have hT9' := HTW.out
          have hP9 := HPR.out
          rw [← htk] at hT9' hP9
          obtain ⟨w9, rfl⟩ : ∃ w9 : World, w9 = wc := ⟨_, rfl⟩
          clear htk HTW HPR
          obtain ⟨TA, hTA⟩ : ∃ TA, TA = RA.take (i + 1) := ⟨_, rfl⟩
          obtain ⟨TB, hTB⟩ : ∃ TB, TB = RB.take (i + 1) := ⟨_, rfl⟩
          rw [← hTA, ← hTB] at hT9' hP9
          have HT9 := Lib.hid hT9'
          have HP9 := Lib.hid hP9
          have HTA := Lib.hid hTA
          have HTB := Lib.hid hTB
          have hTl : TA.length ≤ 8 := by rw [hTA, List.length_take]; omega
          have HTM : Hid (∀ b ∈ TA, b.length ≤ 20000000) := Lib.hid (fun b hb => by rw [hTA] at hb; have := HAM.out b (List.mem_of_mem_take hb); omega)
          clear hTA hTB hT9' hP9
          go_wp2_with fail
          refine (records_any HT9.out.j1).mono ?_
          rintro e w10 ⟨A10, cap10, vs10, rfl, hls10, hk10⟩
          have HLN := Lib.hid (ListN.of_ls hls10 HTM.out)
          have HK10 := Lib.hid hk10
          clear hls10 hk10
          go_wp2_with fail
          go_loopw [111] (fun j wx => ∃ q : Nat, q ≤ TA.length ∧ j = .int .i64 (q : Nat) ∧ ListN wx w9.heap.size (.slice A10 TA.length cap10) vs10 TA.length ∧ Kept Kno w9 wx) (fun j _ => TA.length - (intOf j).toNat)
          case atStart => exact ⟨0, by omega, rfl, HLN.out, HK10.out⟩
          case round =>
            rename_i wx
            obtain ⟨q, hq, rfl, hln, hkx⟩ := hrel
            have HLX := Lib.hid hln
            have HKX := Lib.hid hkx
            by_cases hql : q < TA.length
            · obtain ⟨g, c3, u, m, hv, hc, -, hrn, hm⟩ := hln.at hql
              injection hv with e1 e2 e3
              subst e1 e3
              have HRN := Lib.hid hrn
              obtain ⟨Au, cu, rfl, -⟩ := hrn
              have hq0 : (0 : Int) ≤ (q : Int) := by omega
              have hq2 : (q : Int) < (TA.length : Int) := by omega
              clear hln hkx e2
              go_wp2_with fail
              go_loopw [117] (fun j wy => ∃ q2 : Nat, q2 ≤ m ∧ j = .int .i64 (q2 : Nat) ∧ ListN wy w9.heap.size (.slice (some ⟨g, 0, none⟩) TA.length cap10) vs10 TA.length ∧ RowN wy w9.heap.size (.slice Au m cu) m ∧ Kept Kno w9 wy) (fun j _ => m - (intOf j).toNat)
              case atStart => exact ⟨0, by omega, rfl, HLX.out, HRN.out, HKX.out⟩
              case round =>
                rename_i wy
                obtain ⟨q2, hq2l, rfl, hln2, hrn2, hky⟩ := hrel
                have HLY := Lib.hid hln2
                have HRY := Lib.hid hrn2
                have HKY := Lib.hid hky
                by_cases hql2 : q2 < m
                · obtain ⟨g2, c2x, z, hv, hgb, hc2, hf2, hbt⟩ := hrn2.at hql2
                  injection hv with e1 e2 e3
                  subst e1 e3
                  have HBT := Lib.hid hbt
                  have hp0 : (0 : Int) ≤ (q2 : Int) := by omega
                  have hp2 : (q2 : Int) < (m : Int) := by omega
                  clear hln2 hrn2 hky hbt e2 hc
                  go_wp2
                  go_roundw
                  case rel => exact ⟨q2 + 1, by omega, by go_num, HLY.out.set HBT.out _ _, HRY.out.set _ _ _, HKY.out.setNew (p := ⟨g2, q2, none⟩) hgb _⟩
                  case measure => simp [intOf]; omega
                · have hp2 : ¬ (q2 : Int) < (m : Int) := by omega
                  clear hln2 hrn2 hky hc
                  go_wp2
                  go_roundw
                  case rel => exact ⟨q + 1, by omega, by go_num, HLY.out, HKY.out⟩
                  case measure => simp [intOf]; omega
            · have hq2 : ¬ (q : Int) < (TA.length : Int) := by omega
              clear hln
              go_wp2
              go_roundw
              case rel =>
                refine ⟨i + 1, by omega, by go_num, ?_⟩
                rw [← HTA.out, ← HTB.out]
                exact ⟨_, _, _, _, _, _, _, _, HT9.out.kept0 hkx, HP9.out⟩
              case measure => simp [intOf]; omega
    · have hlt2 : ¬ (i : Int) < (mx : Int) := by omega
      obtain ⟨fs, rv1, ev1, us1, rv2, ev2, us2, a, hTwo, hPair⟩ := HST.out
      rw [List.take_of_length_le (show RA.length ≤ i by omega), List.take_of_length_le (show RB.length ≤ i by omega)] at hTwo hPair
      have HTW := Lib.hid hTwo
      have HPR := Lib.hid hPair
      clear hTwo hPair HST
      have hrd : a.read 3 = (frames RA, 0) := by have h9 := HPR.out.calm.read (f := 3) (by omega); rw [HPR.out.file1] at h9; exact h9
      have HRD := Lib.hid hrd
      clear hrd
      go_wp2_with fail
      have hop := open_any w2.heap.size w2.heap.size 3 fs a wr HTW.out.is (by rw [HRD.out]; show (frames RA).length ≤ 1000000; omega)
      rw [show jopen a 3 = (a, 0, some RA) from jopen_whole (f := 3) HPR.out.calm (by omega) HAS.out HPR.out.file1] at hop
      refine hop.mono ?_
      rintro e w8 ⟨fs8, hi8, hkk8, hd8, J3, rv8, ev8, us8, rfl, hj8, ha8⟩
      have HJ1 := Lib.hid (HTW.out.j1.kept hkk8 (fun k e => HTW.out.a1 k e))
      have HJ2 := Lib.hid (HTW.out.j2.kept hkk8 (fun k e => HTW.out.a2 k e))
      have HJ3 := Lib.hid hj8
      have HK8 := Lib.hid (HTW.out.is.kept HTW.out.k (Nat.le_refl _) hkk8)
      clear hop hi8 hkk8 hd8 hj8 ha8 HTW HPR HRD
      go_wp2_with fail
      refine (records_any HJ1.out).mono ?_
      rintro e w9 ⟨A9, cap9, vs9, rfl, hls9, hk9⟩
      have HL9 := Lib.hid hls9.r
      have hl9 := hk9
      clear hls9
      go_wp2_with fail
      refine (same_j _ _ vs9 _ RA RA w9 HL9.out ((HLA.out.kept0 HK8.out).kept0 hk9) (by omega) (by omega)).mono ?_
      rw [decide_eq_true (Eq.refl RA)]
      rintro e w10 ⟨rfl, hk10⟩
      have h10 := hk9.then0 hk10
      have HJ2b := Lib.hid (HJ2.out.kept0 h10)
      go_wp2_with fail
      refine (records_any HJ2b.out).mono ?_
      rintro e w11 ⟨A11, cap11, vs11, rfl, hls11, hk11⟩
      have HL11 := Lib.hid hls11.r
      have h11 := h10.then0 hk11
      clear hls11
      go_wp2_with fail
      refine (same_j _ _ vs11 _ RB RB w11 HL11.out ((HLB.out.kept0 HK8.out).kept0 h11) (by omega) (by omega)).mono ?_
      rw [decide_eq_true (Eq.refl RB)]
      rintro e w12 ⟨rfl, hk12⟩
      have h12 := h11.then0 hk12
      have HJ3b := Lib.hid (HJ3.out.kept0 h12)
      go_wp2_with fail
      refine (records_any HJ3b.out).mono ?_
      rintro e w13 ⟨A13, cap13, vs13, rfl, hls13, hk13⟩
      have HL13 := Lib.hid hls13.r
      have h13 := h12.then0 hk13
      clear hls13
      go_wp2_with fail
      refine (same_j _ _ vs13 _ RA RA w13 HL13.out ((HLA.out.kept0 HK8.out).kept0 h13) (by omega) (by omega)).mono ?_
      rw [decide_eq_true (Eq.refl RA)]
      rintro e w14 ⟨rfl, hk14⟩
      go_wp2_with fail
      refine (begun_j _).mono ?_
      rintro e w15 ⟨rfl, hk15⟩
      go_wp2
      go_ret
      exact ⟨rfl, (((HK2.out.then0 HK8.out).then0 h13).then0 hk14).then0 hk15⟩

end Go.Proofs.Yteoodgcpkgfomaa
