/-
  PacketOwns: words for the law: a case of 400 numbers, keys that are written.
-/
import Derived.Test.YtffdaohmalmkfaaGreatW49
import Derived.Test.YtffdaohmalmkfaaGreatW50
import Derived.Test.YtffdaohmalmkfaaGreatW51
set_option linter.unusedSimpArgs false
set_option linter.unusedVariables false
namespace Go.Proofs.YtffdaohmalmkfaaGreat
open Go.RowKit
set_option linter.unusedVariables false

set_option maxHeartbeats 1000000 in
theorem newCase4_any (v : Value) (l : List UInt8) (w : World) (h : Bs w v l) (hl : l.length ≤ maxLen) :
    Calls Tryz.prog 7 #[v, .int .i64 400] w (NewOk w) := by
  obtain ⟨i0, hi, hz0, hz1, hz2⟩ := info_parts info_byte
  have H := Lib.hid h
  obtain ⟨A, cap, rfl, hlc, -⟩ := h
  have hmin : (if (400 : Int) < (l.length : Int) then (400 : Int) else (l.length : Int)) = ((min l.length 400 : Nat) : Int) := min_natw l.length 400
  have q1 : min l.length 400 ≤ l.length := Nat.min_le_left _ _
  have q2 : min l.length 400 ≤ 400 := Nat.min_le_right _ _
  have hcut := Bs.cut H.out q1
  generalize min l.length 400 = m at hmin q1 q2 hcut
  have hlm : (l.take m).length = m := by rw [List.length_take]; omega
  generalize l.take m = L at hcut hlm
  subst hlm
  have HCUT := Lib.hid hcut
  have q3 : L.length ≤ cap := by omega
  have q4 : (L.length : Int) ≤ (cap : Int) := by omega
  have q5 : (0 : Int) ≤ (L.length : Int) := by omega
  have n60 : l.length ≤ 9223372036854775807 := by simp only [maxLen] at hl; omega
  have r2 : 0 + L.length ≤ maxLen := by simp only [maxLen]; omega
  clear hcut
  go_enter Tryz.func7, Tryz.ntmps7
  go_wp2_with (at_builtin; go_must (refine wpList_append_rd _ rfl _ _ 22 rfl w.heap.size 5 i0 _ 1 1 Tryz.underlying22 hi hz0 hz1 hz2 rfl (by decide) (.slice none 0 0) 0 [] rfl (World.ownsRow_nil _ _ _ _) _ L.length (L.map bv) rfl HCUT.out (bvs_one L) r2 (by omega) (Nat.le_refl _) ?_); intro A1 cap1 w1 hown hg hat)
  simp only [Nat.zero_add, List.nil_append] at hown hat ⊢
  have hk1 : Kept Kno w w1 := (Kept.refl _ _).grown hg (fun k hk e => by cases e)
  go_ret
  refine ⟨w1.heap.size, .slice A1 L.length cap1, L, rfl, ⟨Blk.new _ _ _, Rd.alloc (OwnB.bs hown) _, by omega⟩, hk1.size, hk1.alloc _⟩

/-- An edit's cells: its key lies in a block of its own from lo on, and begins with a value. -/
def KeyAt (w : World) (lo : Nat) (cs : List Value) : Prop :=
  ∃ (k0 k1 k3 k4 : Value) (g m c : Nat) (cur : Array Value) (z : Int), cs = [k0, k1, .slice (some ⟨g, 0, none⟩) m c, k3, k4] ∧ 1 ≤ m ∧ m ≤ c ∧ c ≤ maxLen ∧ lo ≤ g ∧ Blk w g 49 cur ∧ cur[1]? = some (.int .i64 z)
theorem KeyAt.kept {S : Nat → Prop} {w w' : World} {lo : Nat} {cs : List Value} (h : KeyAt w lo cs) (hk : Kept S w w') (hS : ∀ g cur, Blk w g 49 cur → lo ≤ g → ¬ S g) : KeyAt w' lo cs := by
  obtain ⟨k0, k1, k3, k4, g, m, c, cur, z, h1, h2, h3, h4, h5, h6, h7⟩ := h
  exact ⟨k0, k1, k3, k4, g, m, c, cur, z, h1, h2, h3, h4, h5, h6.kept hk (hS g cur h6 h5), h7⟩
/-- A key is written. -/
theorem KeyAt.set {w : World} {lo g : Nat} {cs : List Value} {y : Int} (h : KeyAt w lo cs) : KeyAt (w.setCell ⟨g, 1, none⟩ (.int .i64 y)) lo cs := by
  obtain ⟨k0, k1, k3, k4, g', m, c, cur, z, h1, h2, h3, h4, h5, h6, h7⟩ := h
  by_cases hg : g' = g
  · subst hg
    refine ⟨k0, k1, k3, k4, g', m, c, cur.setIfInBounds 1 (.int .i64 y), y, h1, h2, h3, h4, h5, h6.set_ 1 _, ?_⟩
    obtain ⟨hlt, -⟩ := Array.getElem?_eq_some_iff.1 h7
    simp [Array.getElem?_setIfInBounds, hlt]
  · exact ⟨k0, k1, k3, k4, g', m, c, cur, z, h1, h2, h3, h4, h5, h6.far (p := ⟨g, 1, none⟩) hg _, h7⟩
/-- A row of one's own that has an element, as a block. -/
theorem own_key {w : World} {base cap : Nat} {A : Option Addr} {x : Val} (h : w.ownsRow base 49 3 (.slice A 1 cap) 1 (vCells x)) :
    ∃ g cur, A = some ⟨g, 0, none⟩ ∧ base ≤ g ∧ Blk w g 49 cur ∧ cur[1]? = some (.int .i64 x.n) ∧ 1 ≤ cap ∧ cap ≤ maxLen := by
  rcases h.2 with ⟨-, h0⟩ | ⟨g, cap', cur, he, hbg, hblk, hle, hmax, hsz, htake⟩
  · omega
  · simp only [Value.slice.injEq] at he
    obtain ⟨rfl, -, rfl⟩ := he
    refine ⟨g, cur, rfl, hbg, hblk, ?_, hle, hmax⟩
    have : (vCells x)[1]? = some (.int .i64 x.n) := rfl
    rw [← htake, List.getElem?_take] at this
    split at this
    · simpa using this
    · cases this
theorem DlOk.part_ {x : Dl} (h : DlOk x) (hp : x.part = 0) {n i : Nat} (hi : i < n) (hn : n ≤ 512) : DlOk (partOf x n i) :=
  ⟨h.dev, h.round, h.to_, h.from_, h.dec, ⟨by show (1 : Int) ≤ (n : Int); omega, by show (n : Int) ≤ 512; omega⟩, ⟨by show (0 : Int) ≤ (i : Int); omega, by show (i : Int) ≤ (n : Int) - 1; omega⟩, h.kept, fun y hy => h.eds y (List.mem_of_mem_drop (List.mem_of_mem_take hy))⟩

end Go.Proofs.YtffdaohmalmkfaaGreat
