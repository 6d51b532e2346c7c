/-
  Disk: contracts of the four changes (closures).
-/
import Derived.Test.YteoodgcpkgfomaaDiskB
namespace Go.Proofs.Yteoodgcpkgfomaa
open Go.RowKit
set_option linter.unusedVariables false

theorem close_append {base B i : Nat} {room plan : Int} {fs : List File} {off : Bool} {f : File} {A A1 : Option Addr} {cap cap1 : Nat} {lb : List UInt8} {w w1 : World} (h : Dsk w base B room fs off plan) (hf : fs[i]? = some f)
    (hv : f.v = .slice A f.l.length cap) (hfit : (used fs : Int) + lb.length ≤ room) (hk : Kept (fun k => (Value.slice A f.l.length cap).ownBlock = some k) w w1)
    (ho : w1.ownsRow base 5 1 (.slice A1 (f.l.length + lb.length) cap1) (f.l.length + lb.length) (f.l.map bv ++ lb.map bv))
    (hat : (Value.slice A1 (f.l.length + lb.length) cap1).ownBlock = (Value.slice A f.l.length cap).ownBlock ∨ (Value.slice A1 (f.l.length + lb.length) cap1).ownBlock = some w.heap.size) :
    Turn base B fs ⟨room, (fs.map File.ab).set i (f.l ++ lb, f.s), off, plan⟩ w (w1.setCell ⟨B, 1 + i * 2, none⟩ (.slice A1 (f.l.length + lb.length) cap1)) := by
  rw [← hv] at hk hat
  have hm := List.mem_of_getElem? hf
  have hB := h.own_B hm
  have hs := (h.files f hm).2
  have hb1 := h.blk.kept hk hB
  have ho2 : OwnB w1 base 5 (.slice A1 (f.l.length + lb.length) cap1) (f.l ++ lb) := by
    unfold OwnB
    rw [List.length_append, List.map_append]
    exact ho
  have hne : (Value.slice A1 (f.l.length + lb.length) cap1).ownBlock ≠ some B := own_blk_ne ho hb1 (by decide)
  refine turn_set (f' := ⟨.slice A1 (f.l.length + lb.length) cap1, f.l ++ lb, f.s⟩) h hf (blk_v hb1 hf _ _) ((hk.mono (fun k _ e => .inr e)).setIn (.inl rfl) _) ⟨own_far ho2 hne _, ?_⟩ ?_ ?_
  · simp only [List.length_append]; omega
  · intro k he
    rcases hat with e | e
    · exact .inl (e ▸ he)
    · rw [e] at he; injection he with he; exact .inr (by omega)
  · simp only [List.length_append]; omega

set_option maxHeartbeats 800000 in
theorem appendK (base B F X i : Nat) (room plan : Int) (fs : List File) (off : Bool) (f : File) (b : Value) (lb : List UInt8) (w : World) (h : Dsk w base B room fs off plan) (hf : fs[i]? = some f)
    (hF : w.cell? ⟨F, 0, none⟩ = some (.pointer (some ⟨B, 1 + i * 2, none⟩))) (hX : w.cell? ⟨X, 0, none⟩ = some b) (hb : Bs w b lb) (hfit : (used fs : Int) + lb.length ≤ room) (hFB : F ≠ B) (hXB : X ≠ B) (hFo : f.v.ownBlock ≠ some F) (hFl : F < w.heap.size) :
    Calls Try.prog 69 #[.pointer (some ⟨F, 0, none⟩), .pointer (some ⟨X, 0, none⟩)] w fun e w' => e = .returned (.tuple #[]) ∧ Turn base B fs ⟨room, (fs.map File.ab).set i (f.l ++ lb, f.s), off, plan⟩ w w' := by
  obtain ⟨i0, hi0, hz0, hz1, hz2⟩ := info_parts info_byte
  have HD := Lib.hid h
  have HF := Lib.hid hf
  obtain ⟨c1, -⟩ := h.c_file hf
  have c0 := h.blk.frozen (1 + i * 2)
  have hown := (h.files f (List.mem_of_getElem? hf)).1
  have hle := used_le (List.mem_of_getElem? hf)
  obtain ⟨A, cap, hv⟩ := own_form hown
  have HV := Lib.hid hv
  have HB := Lib.hid hb
  obtain ⟨Ab, capb, rfl, -⟩ := hb
  have h63 : f.l.length + lb.length ≤ maxLen := by have := h.room1; simp only [maxLen]; omega
  have hby : (f.l.length + lb.length) * 1 ≤ 140737488355328 := by have := h.room1; omega
  have hbase : base ≤ w.heap.size := Nat.le_trans h.low (Nat.le_of_lt h.blk.lt)
  have HO := Lib.hid hown
  rw [hv] at c1
  have HO2 : Hid (w.ownsRow base 5 1 (.slice A f.l.length cap) f.l.length (f.l.map bv)) := Lib.hid (by rw [← hv]; exact hown)
  have hFo2 : (Value.slice A f.l.length cap).ownBlock ≠ some F := by rw [← hv]; exact hFo
  have hne : (Value.slice A f.l.length cap).ownBlock ≠ some B := by rw [← hv]; exact h.own_B (List.mem_of_getElem? hf)
  have lB := h.blk.lt
  clear h hf hown hv hle hFo
  go_enter Try.func69, Try.ntmps69
  go_region_law ((refine step_append_rd _ (by rfl) _ _ 30 (by rfl) base 5 i0 _ 1 1 Try.underlying30 hi0 hz0 hz1 hz2 (by rfl) (by decide) (.slice A f.l.length cap) f.l.length (f.l.map bv) (by rfl) HO2.out (.slice Ab lb.length capb) lb.length (lb.map bv) (by rfl) HB.out (bvs_one lb) h63 hby hbase ?_
                  intro A1 cap1 w1 hown1 hg1 hat1
                  have q0 : w1.frozen? ⟨B, 1 + i * 2, none⟩ = false := (World.frozen?_of_block (hg1.block B lB (fun e => hne e.symm))).trans c0
                  have q1 : w1.cell? ⟨B, 1 + i * 2, none⟩ = some (.slice A f.l.length cap) := hg1.cell c1 (fun e => hne e.symm)
                  have q2 : w1.cell? ⟨F, 0, none⟩ = some (.pointer (some ⟨B, 1 + i * 2, none⟩)) := hg1.cell hF (fun e => hFo2 e.symm)))
  all_goals
    go_wp2
    go_end0
    exact ⟨rfl, close_append HD.out HF.out HV.out hfit (Kept.grown (Kept.drewN (Kept.refl _ w) _) hg1 (fun k _ e => e)) hown1 hat1⟩

theorem close_s {base B i s : Nat} {room plan : Int} {fs : List File} {off : Bool} {f : File} {w w1 : World} (h : Dsk w base B room fs off plan) (hf : fs[i]? = some f) (hs : s ≤ f.l.length) (hk : Kept Kno w w1) :
    Turn base B fs ⟨room, (fs.map File.ab).set i (f.l, s), off, plan⟩ w (w1.setCell ⟨B, 1 + i * 2 + 1, none⟩ (.int .i64 s)) := by
  have hm := List.mem_of_getElem? hf
  have h1 := h.kept0 hk
  have ho := (h1.files f hm).1
  have hfit := h.fits
  refine turn_set (f' := ⟨f.v, f.l, s⟩) h hf (blk_s h1.blk hf s f.l) ((hk.mono (fun k _ e => e.elim)).setIn (.inl rfl) _) ⟨own_far ho (h.own_B hm) _, hs⟩ (fun k he => .inl he) (by dsimp only; omega)

set_option maxHeartbeats 800000 in
theorem syncK (base B F i : Nat) (room plan : Int) (fs : List File) (off : Bool) (f : File) (w : World) (h : Dsk w base B room fs off plan) (hf : fs[i]? = some f)
    (hF : w.cell? ⟨F, 0, none⟩ = some (.pointer (some ⟨B, 1 + i * 2, none⟩))) (hFB : F ≠ B) :
    Calls Try.prog 77 #[.pointer (some ⟨F, 0, none⟩)] w fun e w' => e = .returned (.tuple #[]) ∧ Turn base B fs ⟨room, (fs.map File.ab).set i (f.l, f.l.length), off, plan⟩ w w' := by
  have HD := Lib.hid h
  have HF := Lib.hid hf
  obtain ⟨c1, c2⟩ := h.c_file hf
  have c0 := h.blk.frozen (1 + i * 2 + 1)
  have hown := (h.files f (List.mem_of_getElem? hf)).1
  obtain ⟨A, cap, hv⟩ := own_form hown
  rw [hv] at c1
  clear h hf hown hv
  go_enter Try.func77, Try.ntmps77
  go_region_law (fail)
  all_goals
    go_wp2
    go_end0
    exact ⟨rfl, close_s HD.out HF.out (Nat.le_refl _) (Kept.drewN (Kept.refl _ w) _)⟩

theorem own_cut {base m : Nat} {A : Option Addr} {cap : Nat} {l : List UInt8} {w : World} {t : TypeId} (h : OwnB w base t (.slice A l.length cap) l) (hm : m ≤ l.length) : OwnB w base t (.slice A m cap) (l.take m) := by
  have e : (l.take m).length = m := by rw [List.length_take]; omega
  unfold OwnB at h ⊢
  rw [e]
  rcases h with ⟨h1, h2⟩
  refine ⟨by rw [List.length_map, e]; omega, ?_⟩
  rcases h2 with ⟨h3, h4⟩ | ⟨g, cap', cur, h3, hb, hh, hnc, hcm, hs, ht⟩
  · injection h3 with hA hn hc
    subst hA hc
    exact .inl ⟨by rw [show m = 0 from by omega], by omega⟩
  · injection h3 with hA hn hc
    subst hA hc
    refine .inr ⟨g, cap, cur, rfl, hb, hh, by omega, hcm, hs, ?_⟩
    rw [List.map_take, ← ht, List.take_take]
    congr 1
    omega

theorem close_vs {base B i s : Nat} {room plan : Int} {fs : List File} {off : Bool} {f : File} {w w1 : World} {v : Value} {l : List UInt8} (h : Dsk w base B room fs off plan) (hf : fs[i]? = some f) (hs : s ≤ l.length) (hk : Kept Kno w w1)
    (ho : OwnB w1 base 5 v l) (hat : ∀ k, v.ownBlock = some k → f.v.ownBlock = some k ∨ w.heap.size ≤ k) (hfit : (used fs : Int) + l.length - f.l.length ≤ room) :
    Turn base B fs ⟨room, (fs.map File.ab).set i (l, s), off, plan⟩ w ((w1.setCell ⟨B, 1 + i * 2, none⟩ v).setCell ⟨B, 1 + i * 2 + 1, none⟩ (.int .i64 s)) := by
  have hm := List.mem_of_getElem? hf
  have h1 := h.kept0 hk
  have hne : v.ownBlock ≠ some B := own_blk_ne ho h1.blk (by decide)
  exact turn_set (f' := ⟨v, l, s⟩) h hf (blk_vs h1.blk hf v s l) (((hk.mono (fun k _ e => e.elim)).setIn (.inl rfl) _).setIn (.inl rfl) _) ⟨own_far (own_far ho hne _) hne _, hs⟩ hat hfit

theorem own_cap {base : Nat} {v : Value} {A : Option Addr} {cap : Nat} {l : List UInt8} {w : World} {t : TypeId} (h : OwnB w base t v l) (hv : v = .slice A l.length cap) : l.length ≤ cap ∧ cap ≤ maxLen := by
  subst hv
  rcases h.2 with ⟨h3, h4⟩ | ⟨g, cap', cur, h3, hb, hh, hnc, hcm, hs, ht⟩
  · injection h3 with hA hn hc
    subst hc
    omega
  · injection h3 with hA hn hc
    subst hc
    exact ⟨hnc, hcm⟩

end Go.Proofs.Yteoodgcpkgfomaa
