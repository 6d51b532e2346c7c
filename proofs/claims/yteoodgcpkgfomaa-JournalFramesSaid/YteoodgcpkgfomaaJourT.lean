/-
  Journal: what the laws over a calm disk share. No program in sight.
-/
import Derived.Test.YteoodgcpkgfomaaJourR
import Derived.BigFrame
namespace Go.Proofs.Yteoodgcpkgfomaa
open Go.RowKit
set_option linter.unusedVariables false

theorem sum_set (l : List (List UInt8 × Nat)) (f : Nat) (x : List UInt8 × Nat) (hf : f < l.length) : ((l.set f x).map fun p => p.1.length).sum + (l.getD f ([], 0)).1.length = (l.map fun p => p.1.length).sum + x.1.length := by
  induction l generalizing f with
  | nil => simp at hf
  | cons p l ih =>
    cases f with
    | zero => simp [List.getD]; omega
    | succ f =>
      have := ih f (by simpa using hf)
      simp only [List.set_cons_succ, List.map_cons, List.sum_cons, List.getD_cons_succ] at this ⊢
      omega
section
variable {a : Ab} {f : Nat}
theorem Calm.used_put (h : Calm a) (hf : f < 8) (x : List UInt8 × Nat) : (a.put f x).used + (a.file f).1.length = a.used + x.1.length :=
  sum_set a.fs f x (by have := h.len; omega)
theorem file0 (room : Int) (f : Nat) : (ab0 room).file f = ([], 0) := by
  simp only [Ab.file, ab0, List.getD]
  rw [List.getElem?_replicate]
  split <;> rfl
theorem JA.append_calm (h : Calm a) (hf : f < 8) (rs : List (List UInt8)) (b : List UInt8) (hb : b.length ≤ 1048576) (hr : (a.used : Int) + (frame b).length ≤ a.room) :
    (⟨a, rs, false⟩ : JA).append f b = (⟨a.put f ((a.file f).1 ++ frame b, (a.file f).2), rs ++ [b], false⟩, 0) := by
  simp only [JA.append, Bool.false_eq_true, if_false, if_neg (show ¬ 1048576 < b.length by omega)]
  rw [h.append hf _ hr]
  rfl
theorem any_short {rs : List (List UInt8)} (h : Short rs) : (rs.any fun b => decide (1048576 < b.length)) = false := by
  rw [List.any_eq_false]
  intro b hb
  have := h b hb
  simp; omega
theorem JA.rewrite_calm (h : Calm a) (hf : f < 8) (rs bs : List (List UInt8)) (hb : Short bs) (hr : (a.used : Int) + (frames bs).length ≤ a.room) :
    (⟨a, rs, false⟩ : JA).rewrite f bs = (⟨a.put f (frames bs, (frames bs).length), bs, false⟩, 0) := by
  simp only [JA.rewrite, Bool.false_eq_true, if_false, any_short hb]
  rw [h.replace hf _ hr]
  rfl
theorem JA.trunc_calm (h : Calm a) (hf : f < 8) (rs : List (List UInt8)) (m : Nat) (hm : m ≤ rs.length) (hr : (a.file f).1 = frames rs) :
    (⟨a, rs, false⟩ : JA).trunc f m = (⟨a.put f (frames (rs.take m), (frames (rs.take m)).length), rs.take m, false⟩, 0) := by
  have h1 : ¬ ((m : Int) < 0 ∨ (rs.length : Int) < m) := by omega
  simp only [JA.trunc, Bool.false_eq_true, if_false, if_neg h1, Int.toNat_natCast]
  rw [h.trunc hf _ (by rw [hr]; exact frames_take_le rs m), hr, frames_take]
  rfl
theorem JA.sync_calm (h : Calm a) (hf : f < 8) (rs : List (List UInt8)) : (⟨a, rs, false⟩ : JA).sync f = (⟨a.put f ((a.file f).1, (a.file f).1.length), rs, false⟩, 0) := by
  simp only [JA.sync, Bool.false_eq_true, if_false]
  rw [h.sync hf]
  rfl
theorem cut_whole (L : List (List UInt8)) (h : Short L) : Cut L (frames L) L.length := by
  refine ⟨Nat.le_refl _, ?_, ?_, ?_, ?_, fun h => absurd h (by omega)⟩
  · rw [scan_frames L h, List.take_length]
  · rw [scan_frames L h, List.take_length]
  · rw [scan_frames L h]; exact .inl ⟨rfl, rfl⟩
  · rw [List.take_length]; exact Nat.le_refl _
theorem jopen_whole (h : Calm a) (hf : f < 8) {L : List (List UInt8)} (hL : Short L) (hr : (a.file f).1 = frames L) : jopen a f = (a, 0, some L) := by
  unfold jopen
  rw [h.read hf, hr, scan_frames L hL]
  simp
end

section
variable {P : Program} (w : World)
/-- 'append' behind a guard that says yes. -/
theorem wpList_append_rdW {ops : Array Oper} {rest : List Oper} {o : Oper} {a : Act} {Q : Exit → Act → World → Prop} (hgd : Region.wanted o (yielded ops a.tmps) = true) (s x : Operand) (t : TypeId)
    (ho : o.op = .call { callee := .builtin .append, args := #[s, x], argTypes := #[t, t] })
    (base : Nat) (e : TypeId) (i : TypeInfo) (z : Value) (size bytes : Nat) (ht : P.underlying t = some (.slice e)) (hi : P.info? e = some i) (hz : i.zero = some z)
    (hsize : i.size = size) (hby : i.bytes = bytes) (hzs : z.cells.size = size) (hsz : 0 < size)
    (v : Value) (n : Nat) (xs : List Value) (hs : a.eval s = v) (hown : w.ownsRow base e size v n xs)
    (xv : Value) (m : Nat) (news : List Value) (hx : a.eval x = xv) (hr : Rd w size xv m news) (h1 : ∀ u ∈ news, u.oneCell' = true)
    (h63 : n + m ≤ maxLen) (hbytes : (n + m) * bytes ≤ 140737488355328) (hbase : base ≤ w.heap.size)
    (h : ∀ A cap w', w'.ownsRow base e size (.slice A (n + m) cap) (n + m) (xs ++ news) → w.grownBy w' v.ownBlock → ((Value.slice A (n + m) cap).ownBlock = v.ownBlock ∨ (Value.slice A (n + m) cap).ownBlock = some w.heap.size) → wpList P ops Q rest (a.put o.dst (.slice A (n + m) cap)) w') : wpList P ops Q (o :: rest) a w :=
  BigFrame.wpList_want hgd fun _ hK => wp_append_rd w s x t ho base e i z size bytes ht hi hz hsize hby hzs hsz v n xs hs hown xv m news hx hr h1 h63 hbytes hbase fun A cap w' h2 h3 h4 => hK _ _ (h A cap w' h2 h3 h4)
end

/-- The records with one more. -/
theorem LsR.snoc {w w' : World} {base : Nat} {v v' x : Value} {us : List Value} {rs : List (List UInt8)} {b : List UInt8} (h : LsR w v us rs) (hk : Kept Kno w w') (hx : Bs w' x b) (hown : w'.ownsRow base 30 1 v' (rs.length + 1) (us ++ [x])) : LsR w' v' (us ++ [x]) (rs ++ [b]) := by
  have hl := h.len
  refine ⟨by rw [List.length_append]; exact Rd.of_own hown, fun i y c hy hc => ?_⟩
  rcases Nat.lt_or_ge i us.length with hi | hi
  · rw [List.getElem?_append_left hi] at hy
    rw [List.getElem?_append_left (by omega)] at hc
    exact Rd.kept0 (h.2 i y c hy hc) hk
  · rw [List.getElem?_append_right hi] at hy
    rw [List.getElem?_append_right (by omega)] at hc
    have h0 : i - us.length = 0 := by
      rcases Nat.eq_zero_or_pos (i - us.length) with h0 | h0
      · exact h0
      · rw [List.getElem?_eq_none (by simp; omega)] at hy; cases hy
    rw [h0] at hy
    rw [show i - rs.length = 0 by omega] at hc
    simp at hy hc
    subst hy hc
    exact hx
theorem LsR.one {w : World} {v : Value} {us : List Value} {rs : List (List UInt8)} (h : LsR w v us rs) : ∀ u ∈ us, u.oneCell' = true := by
  intro u hu
  have hl := h.len
  obtain ⟨i, hi⟩ := List.mem_iff_getElem?.1 hu
  have hlt : i < us.length := (List.getElem?_eq_some_iff.1 hi).1
  obtain ⟨A, cap, rfl, -⟩ := h.2 i u _ hi (List.getElem?_eq_getElem (by omega))
  rfl
theorem LsR.cut2 {w : World} {A : Option Addr} {cap m : Nat} {us : List Value} {rs : List (List UInt8)} (h : LsR w (.slice A rs.length cap) us rs) (hm : m ≤ rs.length) : LsR w (.slice A m cap) (us.take m) (rs.take m) := by
  have hl := h.len
  obtain ⟨A', cap', hv, h1, h2, h3, h4⟩ := h.1
  injection hv with e1 e2 e3
  subst e1 e3
  have e : (rs.take m).length = m := by rw [List.length_take]; omega
  refine ⟨⟨A, cap, by rw [e], by rw [e]; omega, by rw [e, List.length_take]; omega, fun hA => by have := h3 hA; rw [e]; omega, fun ad hA j u hj => ?_⟩, fun i x b hx hb => ?_⟩
  · rw [List.getElem?_take] at hj
    split at hj
    · exact h4 ad hA j u hj
    · cases hj
  · rw [List.getElem?_take] at hx hb
    split at hx
    · rw [if_pos ‹_›] at hb
      exact h.2 i x b hx hb
    · cases hx


end Go.Proofs.Yteoodgcpkgfomaa
