/-
  Disk: contracts of gate and its closures.
-/
import Derived.Test.YteoodgcpkgfomaaDiskA
import Derived.BigRegion
namespace Go.Proofs.Yteoodgcpkgfomaa
open Go.RowKit
set_option linter.unusedVariables false

/-- Function K is entered by a call. -/
def Ent (K : Nat) : Prop := ∀ (args : Array Value) (w : World), (callFunc K args).run Try.prog w = .ok (.enter K args) w

set_option maxHeartbeats 400000 in
theorem gate_free (B K : Nat) (caps : Array Value) (torn : Bool) (w : World) (Q : World → Prop) (hK : Ent K) (h : w.cell? ⟨B, 18, none⟩ = some (.int .i64 0)) 
    (hk : Calls Try.prog K caps w fun e w' => e = .returned (.tuple #[]) ∧ Q w') :
    Calls Try.prog 68 #[.pointer (some ⟨B, 0, none⟩), .bool torn, .func (.func K) #[] caps] w fun e w' => e = .returned (.int .i64 0) ∧ Q w' := by
  have H := Lib.hid hk
  have e1 : ∀ (args : Array Value) (w : World), (callFunc K args).run Try.prog w = .ok (.enter K args) w := hK
  clear hk hK
  go_enter Try.func68, Try.ntmps68
  go_wp2_with fail
  refine H.out.mono ?_
  rintro e w1 ⟨rfl, hq⟩
  go_wp2
  go_ret
  exact ⟨rfl, hq⟩

set_option maxHeartbeats 400000 in
theorem gate_more (B K : Nat) (caps : Array Value) (torn : Bool) (p : Int) (w : World) (Q : World → Prop) (hK : Ent K) (h : w.cell? ⟨B, 18, none⟩ = some (.int .i64 p)) (hf : w.frozen? ⟨B, 18, none⟩ = false) (hp : 1 < p) (hp2 : p ≤ 9223372036854775807)
    (hk : Calls Try.prog K caps (w.setCell ⟨B, 18, none⟩ (.int .i64 (p - 1))) fun e w' => e = .returned (.tuple #[]) ∧ Q w') :
    Calls Try.prog 68 #[.pointer (some ⟨B, 0, none⟩), .bool torn, .func (.func K) #[] caps] w fun e w' => e = .returned (.int .i64 0) ∧ Q w' := by
  have H := Lib.hid hk
  have e1 : ∀ (args : Array Value) (w : World), (callFunc K args).run Try.prog w = .ok (.enter K args) w := hK
  clear hk hK
  have hs : (w.setCell ⟨B, 18, none⟩ (.int .i64 (p - 1))).cell? ⟨B, 18, none⟩ = some (.int .i64 (p - 1)) := World.cell?_setCell_same w _ _ h
  go_enter Try.func68, Try.ntmps68
  go_wp2_with fail
  refine H.out.mono ?_
  rintro e w1 ⟨rfl, hq⟩
  go_wp2
  go_ret
  exact ⟨rfl, hq⟩

set_option maxHeartbeats 400000 in
theorem gate_torn (B K : Nat) (caps : Array Value) (w : World) (Q : World → Prop) (hK : Ent K) (h : w.cell? ⟨B, 18, none⟩ = some (.int .i64 1)) (hf : w.frozen? ⟨B, 18, none⟩ = false) (h2 : w.cell? ⟨B, 17, none⟩ = some (.bool false)) (hf2 : w.frozen? ⟨B, 17, none⟩ = false)
    (hk : Calls Try.prog K caps ((w.setCell ⟨B, 18, none⟩ (.int .i64 0)).setCell ⟨B, 17, none⟩ (.bool true)) fun e w' => e = .returned (.tuple #[]) ∧ Q w') :
    Calls Try.prog 68 #[.pointer (some ⟨B, 0, none⟩), .bool true, .func (.func K) #[] caps] w fun e w' => e = .returned (.int .i64 220) ∧ Q w' := by
  have H := Lib.hid hk
  have e1 : ∀ (args : Array Value) (w : World), (callFunc K args).run Try.prog w = .ok (.enter K args) w := hK
  clear hk hK
  have hs : (w.setCell ⟨B, 18, none⟩ (.int .i64 0)).cell? ⟨B, 18, none⟩ = some (.int .i64 0) := World.cell?_setCell_same w _ _ h
  go_enter Try.func68, Try.ntmps68
  go_wp2_with fail
  refine H.out.mono ?_
  rintro e w1 ⟨rfl, hq⟩
  go_wp2
  go_ret
  exact ⟨rfl, hq⟩

set_option maxHeartbeats 400000 in
theorem gate_down (B K : Nat) (caps : Array Value) (w : World) (h : w.cell? ⟨B, 18, none⟩ = some (.int .i64 1)) (hf : w.frozen? ⟨B, 18, none⟩ = false) (h2 : w.cell? ⟨B, 17, none⟩ = some (.bool false)) (hf2 : w.frozen? ⟨B, 17, none⟩ = false) :
    Calls Try.prog 68 #[.pointer (some ⟨B, 0, none⟩), .bool false, .func (.func K) #[] caps] w fun e w' => e = .returned (.int .i64 220) ∧ w' = ((w.setCell ⟨B, 18, none⟩ (.int .i64 0)).setCell ⟨B, 17, none⟩ (.bool true)) := by
  have hs : (w.setCell ⟨B, 18, none⟩ (.int .i64 0)).cell? ⟨B, 18, none⟩ = some (.int .i64 0) := World.cell?_setCell_same w _ _ h
  go_enter Try.func68, Try.ntmps68
  go_wp2
  go_ret
  exact ⟨rfl, rfl⟩

/-- A disk as its document knows it. -/
structure Ab where
  room : Int
  fs : List (List UInt8 × Nat)
  off : Bool
  plan : Int

def File.ab (f : File) : List UInt8 × Nat := (f.l, f.s)

theorem fCells_set_v (fs : List File) (i : Nat) (f : File) (v : Value) (l : List UInt8) (h : fs[i]? = some f) : (fCells fs).set (i * 2) v = fCells (fs.set i ⟨v, l, f.s⟩) := by
  induction fs generalizing i with
  | nil => simp at h
  | cons q fs ih =>
    cases i with
    | zero => simp at h; subst h; simp [fCells]
    | succ i =>
      have h2 := ih i (by simpa using h)
      have e1 : (i + 1) * 2 = i * 2 + 1 + 1 := by omega
      rw [e1]
      simpa [fCells] using h2
theorem fCells_set_s (fs : List File) (i : Nat) (f : File) (s : Nat) (l : List UInt8) (h : fs[i]? = some f) : (fCells fs).set (i * 2 + 1) (.int .i64 s) = fCells (fs.set i ⟨f.v, l, s⟩) := by
  induction fs generalizing i with
  | nil => simp at h
  | cons q fs ih =>
    cases i with
    | zero => simp at h; subst h; simp [fCells]
    | succ i =>
      have h2 := ih i (by simpa using h)
      have e1 : (i + 1) * 2 + 1 = i * 2 + 1 + 1 + 1 := by omega
      rw [e1]
      simpa [fCells] using h2

section
variable {w w' : World} {base B : Nat} {room plan : Int} {fs : List File} {off : Bool} {i : Nat} {f : File}
theorem blk_v (h : Blk w B 87 (dCells room fs off plan).toArray) (hf : fs[i]? = some f) (v : Value) (l : List UInt8) :
    Blk (w.setCell ⟨B, 1 + i * 2, none⟩ v) B 87 (dCells room (fs.set i ⟨v, l, f.s⟩) off plan).toArray := by
  have hi : i < fs.length := (List.getElem?_eq_some_iff.1 hf).1
  have hl := fCells_length fs
  have h2 := h.set_ (1 + i * 2) v
  have e : (dCells room fs off plan).toArray.setIfInBounds (1 + i * 2) v = (dCells room (fs.set i ⟨v, l, f.s⟩) off plan).toArray := by
    rw [List.setIfInBounds_toArray, show 1 + i * 2 = i * 2 + 1 from by omega]
    simp only [dCells, List.set_cons_succ]
    rw [List.set_append_left _ _ (by omega), fCells_set_v fs i f v l hf]
  rw [e] at h2
  exact h2
theorem blk_s (h : Blk w B 87 (dCells room fs off plan).toArray) (hf : fs[i]? = some f) (s : Nat) (l : List UInt8) :
    Blk (w.setCell ⟨B, 1 + i * 2 + 1, none⟩ (.int .i64 s)) B 87 (dCells room (fs.set i ⟨f.v, l, s⟩) off plan).toArray := by
  have hi : i < fs.length := (List.getElem?_eq_some_iff.1 hf).1
  have hl := fCells_length fs
  have h2 := h.set_ (1 + i * 2 + 1) (.int .i64 s)
  have e : (dCells room fs off plan).toArray.setIfInBounds (1 + i * 2 + 1) (.int .i64 s) = (dCells room (fs.set i ⟨f.v, l, s⟩) off plan).toArray := by
    rw [List.setIfInBounds_toArray, show 1 + i * 2 + 1 = i * 2 + 1 + 1 from by omega]
    simp only [dCells, List.set_cons_succ]
    rw [List.set_append_left _ _ (by omega), fCells_set_s fs i f s l hf]
  rw [e] at h2
  exact h2
theorem blk_vs (h : Blk w B 87 (dCells room fs off plan).toArray) (hf : fs[i]? = some f) (v : Value) (s : Nat) (l : List UInt8) :
    Blk ((w.setCell ⟨B, 1 + i * 2, none⟩ v).setCell ⟨B, 1 + i * 2 + 1, none⟩ (.int .i64 s)) B 87 (dCells room (fs.set i ⟨v, l, s⟩) off plan).toArray := by
  have hi : i < fs.length := (List.getElem?_eq_some_iff.1 hf).1
  have h2 := blk_s (blk_v h hf v l) (i := i) (f := ⟨v, l, f.s⟩) (by rw [List.getElem?_set_self hi]) s l
  rw [List.set_set] at h2
  exact h2
theorem blk_off (h : Blk w B 87 (dCells room fs off plan).toArray) (hn : fs.length = 8) (b : Bool) : Blk (w.setCell ⟨B, 17, none⟩ (.bool b)) B 87 (dCells room fs b plan).toArray := by
  have hl := fCells_length fs
  rw [hn] at hl
  have h2 := h.set_ 17 (.bool b)
  have e : (dCells room fs off plan).toArray.setIfInBounds 17 (.bool b) = (dCells room fs b plan).toArray := by
    rw [List.setIfInBounds_toArray]
    simp only [dCells, List.set_cons_succ]
    rw [List.set_append_right _ _ (by omega), hl]
    rfl
  rw [e] at h2
  exact h2
theorem blk_plan (h : Blk w B 87 (dCells room fs off plan).toArray) (hn : fs.length = 8) (b : Int) : Blk (w.setCell ⟨B, 18, none⟩ (.int .i64 b)) B 87 (dCells room fs off b).toArray := by
  have hl := fCells_length fs
  rw [hn] at hl
  have h2 := h.set_ 18 (.int .i64 b)
  have e : (dCells room fs off plan).toArray.setIfInBounds 18 (.int .i64 b) = (dCells room fs off b).toArray := by
    rw [List.setIfInBounds_toArray]
    simp only [dCells, List.set_cons_succ]
    rw [List.set_append_right _ _ (by omega), hl]
    rfl
  rw [e] at h2
  exact h2

theorem Dsk.own_B (h : Dsk w base B room fs off plan) {g : File} (hg : g ∈ fs) : g.v.ownBlock ≠ some B := own_blk_ne (h.files g hg).1 h.blk (by decide)
/-- Only the disk's own words change. -/
theorem Dsk.words (h : Dsk w base B room fs off plan) {off' : Bool} {plan' : Int} (hb : Blk w' B 87 (dCells room fs off' plan').toArray) (hk : Kept (Kone B) w w') (hp : 0 ≤ plan') (hp1 : plan' ≤ 9223372036854775807) : Dsk w' base B room fs off' plan' :=
  ⟨h.low, hb, h.len, fun g hg => ⟨own_kept (h.files g hg).1 hk (fun k hk hS => h.own_B hg (by unfold Kone at hS; rw [hk, hS])), (h.files g hg).2⟩, h.apart, h.fits, h.room0, h.room1, hp, hp1⟩
theorem Dsk.set_plan (h : Dsk w base B room fs off plan) {p : Int} (hp : 0 ≤ p) (hp1 : p ≤ 9223372036854775807) : Dsk (w.setCell ⟨B, 18, none⟩ (.int .i64 p)) base B room fs off p :=
  h.words (blk_plan h.blk h.len p) (Kept.setIn (S := Kone B) (Kept.refl _ _) (p := ⟨B, 18, none⟩) (Eq.refl B) _) hp hp1
theorem Dsk.set_off (h : Dsk w base B room fs off plan) (b : Bool) : Dsk (w.setCell ⟨B, 17, none⟩ (.bool b)) base B room fs b plan :=
  h.words (blk_off h.blk h.len b) (Kept.setIn (S := Kone B) (Kept.refl _ _) (p := ⟨B, 17, none⟩) (Eq.refl B) _) h.plan0 h.plan1

theorem used_set (fs : List File) (i : Nat) (f f' : File) (h : fs[i]? = some f) : used (fs.set i f') + f.l.length = used fs + f'.l.length := by
  induction fs generalizing i with
  | nil => simp at h
  | cons q fs ih =>
    cases i with
    | zero => simp at h; subst h; simp [used]; omega
    | succ i =>
      have h2 := ih i (by simpa using h)
      simp only [used, List.set_cons_succ, List.map_cons, List.sum_cons] at h2 ⊢
      omega

/-- File i becomes f'. -/
theorem Dsk.turn (h : Dsk w base B room fs off plan) (hf : fs[i]? = some f) {f' : File} (hb : Blk w' B 87 (dCells room (fs.set i f') off plan).toArray)
    (hk : Kept (fun k => k = B ∨ f.v.ownBlock = some k) w w') (hn : FileIn w' base f') (ha : ∀ k, f'.v.ownBlock = some k → f.v.ownBlock = some k ∨ w.heap.size ≤ k) (hfit : (used fs : Int) + f'.l.length - f.l.length ≤ room) :
    Dsk w' base B room (fs.set i f') off plan := by
  have hi : i < fs.length := (List.getElem?_eq_some_iff.1 hf).1
  have hfi : fs[i] = f := (List.getElem?_eq_some_iff.1 hf).2
  have hp := List.pairwise_iff_getElem.1 h.apart
  have hlt : ∀ g ∈ fs, ∀ k, g.v.ownBlock = some k → k < w.heap.size := fun g hg k hk => (own_base (h.files g hg).1 hk).2
  have hne : ∀ j (hj : j < fs.length), j ≠ i → ∀ k, fs[j].v.ownBlock = some k → f.v.ownBlock ≠ some k := by
    intro j hj hji k hk he
    rcases Nat.lt_or_gt_of_ne hji with hl | hl
    · have := hp j i hj hi hl k hk; rw [hfi] at this; exact this he
    · have := hp i j hi hj hl k (by rw [hfi]; exact he); exact this hk
  refine ⟨h.low, hb, by rw [List.length_set]; exact h.len, ?_, ?_, ?_, h.room0, h.room1, h.plan0, h.plan1⟩
  · intro g hg
    obtain ⟨j, hj, rfl⟩ := List.getElem_of_mem hg
    rw [List.length_set] at hj
    rw [List.getElem_set]
    split
    · exact hn
    · rename_i hij
      refine ⟨own_kept (h.files _ (List.getElem_mem hj)).1 hk ?_, (h.files _ (List.getElem_mem hj)).2⟩
      rintro k hq (rfl | he)
      · exact h.own_B (List.getElem_mem hj) hq
      · exact hne j hj (fun e => hij e.symm) k hq he
  · rw [List.pairwise_iff_getElem]
    intro a b ha1 hb1 hab k hk1
    rw [List.length_set] at ha1 hb1
    rw [List.getElem_set] at hk1 ⊢
    split at hk1
    · rename_i e; subst e
      rw [if_neg (by omega)]
      intro hk2
      rcases ha k hk1 with h3 | h3
      · exact hne b hb1 (by omega) k hk2 h3
      · exact absurd (hlt _ (List.getElem_mem hb1) k hk2) (by omega)
    · split
      · rename_i e; subst e
        intro hk2
        rcases ha k hk2 with h3 | h3
        · exact hne a ha1 (by omega) k hk1 h3
        · exact absurd (hlt _ (List.getElem_mem ha1) k hk1) (by omega)
      · exact hp a b ha1 hb1 hab k hk1
  · have := used_set fs i f f' hf
    omega
end

/-- What a call of a disk leaves: a disk again, which has changed only what it owned. -/
def Turn (base B : Nat) (fs : List File) (ab : Ab) (w w' : World) : Prop :=
  ∃ fs', Dsk w' base B ab.room fs' ab.off ab.plan ∧ fs'.map File.ab = ab.fs ∧ Kept (DK B fs) w w' ∧ ∀ k, DK B fs' k → DK B fs k ∨ w.heap.size ≤ k

theorem turn_set {w w' : World} {base B : Nat} {room plan : Int} {fs : List File} {off : Bool} {i : Nat} {f f' : File} (h : Dsk w base B room fs off plan) (hf : fs[i]? = some f)
    (hb : Blk w' B 87 (dCells room (fs.set i f') off plan).toArray)
    (hk : Kept (fun k => k = B ∨ f.v.ownBlock = some k) w w') (hn : FileIn w' base f') (ha : ∀ k, f'.v.ownBlock = some k → f.v.ownBlock = some k ∨ w.heap.size ≤ k) (hfit : (used fs : Int) + f'.l.length - f.l.length ≤ room) :
    Turn base B fs ⟨room, (fs.map File.ab).set i f'.ab, off, plan⟩ w w' := by
  refine ⟨fs.set i f', h.turn hf hb hk hn ha hfit, by rw [List.map_set], hk.mono ?_, ?_⟩
  · rintro k _ (rfl | he)
    · exact .inl rfl
    · exact .inr ⟨f, List.mem_of_getElem? hf, he⟩
  · rintro k (rfl | ⟨g, hg, he⟩)
    · exact .inl (.inl rfl)
    · rcases List.mem_or_eq_of_mem_set hg with hg | rfl
      · exact .inl (.inr ⟨g, hg, he⟩)
      · rcases ha k he with h3 | h3
        · exact .inl (.inr ⟨f, List.mem_of_getElem? hf, h3⟩)
        · exact .inr h3

end Go.Proofs.Yteoodgcpkgfomaa
