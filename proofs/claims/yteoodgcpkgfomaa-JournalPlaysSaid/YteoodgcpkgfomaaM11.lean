/-
  Contracts and plain laws that the claim's theorem rests on, some texts in one file.
-/
import Derived.Test.YteoodgcpkgfomaaM10
import Derived.BigFrame
/-
  Journal: what the laws over a calm disk share. No program in sight.
-/
namespace Go.Proofs.Yteoodgcpkgfomaa
open Go.RowKit
set_option linter.unusedVariables false

theorem sum_set (l : List (List UInt8 × Nat)) (f : Nat) (x : List UInt8 × Nat) (hf : f < l.length) : ((l.set f x).map fun p => p.1.length).sum + (l.getD f ([], 0)).1.length = (l.map fun p => p.1.length).sum + x.1.length := by
  induction l generalizing f with
  | nil => simp at hf
  | cons p l ih =>
    cases f with
    | zero => simp [List.getD]; omega
    | succ f =>
      have := ih f (by simpa using hf)
      simp only [List.set_cons_succ, List.map_cons, List.sum_cons, List.getD_cons_succ] at this ⊢
      omega
section
variable {a : Ab} {f : Nat}
theorem Calm.used_put (h : Calm a) (hf : f < 8) (x : List UInt8 × Nat) : (a.put f x).used + (a.file f).1.length = a.used + x.1.length :=
  sum_set a.fs f x (by have := h.len; omega)
theorem file0 (room : Int) (f : Nat) : (ab0 room).file f = ([], 0) := by
  simp only [Ab.file, ab0, List.getD]
  rw [List.getElem?_replicate]
  split <;> rfl
theorem JA.append_calm (h : Calm a) (hf : f < 8) (rs : List (List UInt8)) (b : List UInt8) (hb : b.length ≤ 1048576) (hr : (a.used : Int) + (frame b).length ≤ a.room) :
    (⟨a, rs, false⟩ : JA).append f b = (⟨a.put f ((a.file f).1 ++ frame b, (a.file f).2), rs ++ [b], false⟩, 0) := by
  simp only [JA.append, Bool.false_eq_true, if_false, if_neg (show ¬ 1048576 < b.length by omega)]
  rw [h.append hf _ hr]
  rfl
theorem any_short {rs : List (List UInt8)} (h : Short rs) : (rs.any fun b => decide (1048576 < b.length)) = false := by
  rw [List.any_eq_false]
  intro b hb
  have := h b hb
  simp; omega
theorem JA.rewrite_calm (h : Calm a) (hf : f < 8) (rs bs : List (List UInt8)) (hb : Short bs) (hr : (a.used : Int) + (frames bs).length ≤ a.room) :
    (⟨a, rs, false⟩ : JA).rewrite f bs = (⟨a.put f (frames bs, (frames bs).length), bs, false⟩, 0) := by
  simp only [JA.rewrite, Bool.false_eq_true, if_false, any_short hb]
  rw [h.replace hf _ hr]
  rfl
theorem JA.trunc_calm (h : Calm a) (hf : f < 8) (rs : List (List UInt8)) (m : Nat) (hm : m ≤ rs.length) (hr : (a.file f).1 = frames rs) :
    (⟨a, rs, false⟩ : JA).trunc f m = (⟨a.put f (frames (rs.take m), (frames (rs.take m)).length), rs.take m, false⟩, 0) := by
  have h1 : ¬ ((m : Int) < 0 ∨ (rs.length : Int) < m) := by omega
  simp only [JA.trunc, Bool.false_eq_true, if_false, if_neg h1, Int.toNat_natCast]
  rw [h.trunc hf _ (by rw [hr]; exact frames_take_le rs m), hr, frames_take]
  rfl
theorem JA.sync_calm (h : Calm a) (hf : f < 8) (rs : List (List UInt8)) : (⟨a, rs, false⟩ : JA).sync f = (⟨a.put f ((a.file f).1, (a.file f).1.length), rs, false⟩, 0) := by
  simp only [JA.sync, Bool.false_eq_true, if_false]
  rw [h.sync hf]
  rfl
theorem cut_whole (L : List (List UInt8)) (h : Short L) : Cut L (frames L) L.length := by
  refine ⟨Nat.le_refl _, ?_, ?_, ?_, ?_, fun h => absurd h (by omega)⟩
  · rw [scan_frames L h, List.take_length]
  · rw [scan_frames L h, List.take_length]
  · rw [scan_frames L h]; exact .inl ⟨rfl, rfl⟩
  · rw [List.take_length]; exact Nat.le_refl _
theorem jopen_whole (h : Calm a) (hf : f < 8) {L : List (List UInt8)} (hL : Short L) (hr : (a.file f).1 = frames L) : jopen a f = (a, 0, some L) := by
  unfold jopen
  rw [h.read hf, hr, scan_frames L hL]
  simp
end

section
variable {P : Program} (w : World)
/-- 'append' behind a guard that says yes. -/
theorem wpList_append_rdW {ops : Array Oper} {rest : List Oper} {o : Oper} {a : Act} {Q : Exit → Act → World → Prop} (hgd : Region.wanted o (yielded ops a.tmps) = true) (s x : Operand) (t : TypeId)
    (ho : o.op = .call { callee := .builtin .append, args := #[s, x], argTypes := #[t, t] })
    (base : Nat) (e : TypeId) (i : TypeInfo) (z : Value) (size bytes : Nat) (ht : P.underlying t = some (.slice e)) (hi : P.info? e = some i) (hz : i.zero = some z)
    (hsize : i.size = size) (hby : i.bytes = bytes) (hzs : z.cells.size = size) (hsz : 0 < size)
    (v : Value) (n : Nat) (xs : List Value) (hs : a.eval s = v) (hown : w.ownsRow base e size v n xs)
    (xv : Value) (m : Nat) (news : List Value) (hx : a.eval x = xv) (hr : Rd w size xv m news) (h1 : ∀ u ∈ news, u.oneCell' = true)
    (h63 : n + m ≤ maxLen) (hbytes : (n + m) * bytes ≤ 140737488355328) (hbase : base ≤ w.heap.size)
    (h : ∀ A cap w', w'.ownsRow base e size (.slice A (n + m) cap) (n + m) (xs ++ news) → w.grownBy w' v.ownBlock → ((Value.slice A (n + m) cap).ownBlock = v.ownBlock ∨ (Value.slice A (n + m) cap).ownBlock = some w.heap.size) → wpList P ops Q rest (a.put o.dst (.slice A (n + m) cap)) w') : wpList P ops Q (o :: rest) a w :=
  BigFrame.wpList_want hgd fun _ hK => wp_append_rd w s x t ho base e i z size bytes ht hi hz hsize hby hzs hsz v n xs hs hown xv m news hx hr h1 h63 hbytes hbase fun A cap w' h2 h3 h4 => hK _ _ (h A cap w' h2 h3 h4)
end

/-- The records with one more. -/
theorem LsR.snoc {w w' : World} {base : Nat} {v v' x : Value} {us : List Value} {rs : List (List UInt8)} {b : List UInt8} (h : LsR w v us rs) (hk : Kept Kno w w') (hx : Bs w' x b) (hown : w'.ownsRow base 30 1 v' (rs.length + 1) (us ++ [x])) : LsR w' v' (us ++ [x]) (rs ++ [b]) := by
  have hl := h.len
  refine ⟨by rw [List.length_append]; exact Rd.of_own hown, fun i y c hy hc => ?_⟩
  rcases Nat.lt_or_ge i us.length with hi | hi
  · rw [List.getElem?_append_left hi] at hy
    rw [List.getElem?_append_left (by omega)] at hc
    exact Rd.kept0 (h.2 i y c hy hc) hk
  · rw [List.getElem?_append_right hi] at hy
    rw [List.getElem?_append_right (by omega)] at hc
    have h0 : i - us.length = 0 := by
      rcases Nat.eq_zero_or_pos (i - us.length) with h0 | h0
      · exact h0
      · rw [List.getElem?_eq_none (by simp; omega)] at hy; cases hy
    rw [h0] at hy
    rw [show i - rs.length = 0 by omega] at hc
    simp at hy hc
    subst hy hc
    exact hx
theorem LsR.one {w : World} {v : Value} {us : List Value} {rs : List (List UInt8)} (h : LsR w v us rs) : ∀ u ∈ us, u.oneCell' = true := by
  intro u hu
  have hl := h.len
  obtain ⟨i, hi⟩ := List.mem_iff_getElem?.1 hu
  have hlt : i < us.length := (List.getElem?_eq_some_iff.1 hi).1
  obtain ⟨A, cap, rfl, -⟩ := h.2 i u _ hi (List.getElem?_eq_getElem (by omega))
  rfl
theorem LsR.cut2 {w : World} {A : Option Addr} {cap m : Nat} {us : List Value} {rs : List (List UInt8)} (h : LsR w (.slice A rs.length cap) us rs) (hm : m ≤ rs.length) : LsR w (.slice A m cap) (us.take m) (rs.take m) := by
  have hl := h.len
  obtain ⟨A', cap', hv, h1, h2, h3, h4⟩ := h.1
  injection hv with e1 e2 e3
  subst e1 e3
  have e : (rs.take m).length = m := by rw [List.length_take]; omega
  refine ⟨⟨A, cap, by rw [e], by rw [e]; omega, by rw [e, List.length_take]; omega, fun hA => by have := h3 hA; rw [e]; omega, fun ad hA j u hj => ?_⟩, fun i x b hx hb => ?_⟩
  · rw [List.getElem?_take] at hj
    split at hj
    · exact h4 ad hA j u hj
    · cases hj
  · rw [List.getElem?_take] at hx hb
    split at hx
    · rw [if_pos ‹_›] at hb
      exact h.2 i x b hx hb
    · cases hx


end Go.Proofs.Yteoodgcpkgfomaa
/-
  Journal: how the argument 'calls []Call' reads: plain facts on the cells.
-/
namespace Go.Proofs.Yteoodgcpkgfomaa
open Go.RowKit Go.ChangeShapes Go.WideShapes Go.ChangeAt Go.Deep
set_option linter.unusedVariables false

theorem keepJ_of_trod {H : Type} {enc : TypeId × Value → H} {w : World} {base : Nat} {spare : Nat → Bool} {held : Bool} {fuel : Nat} {v : Value} {x : DataW H × List MemPlace}
    (h : DataW.trod enc Try.prog w base spare held fuel 31 [v] = some x) : ∃ ks : List Int, KeepIn w v ks := by
  rcases open_ints Try.underlying31 Try.underlying3 (by kernel_rfl) h with ⟨hcs, _⟩ | ⟨a, len, cap, zs, hcs, _, hl, hm, hz, _, hcell, hwz⟩
  · injection hcs with hcs _
    subst hcs
    exact ⟨[], none, 0, rfl, by simp, by simp, fun h => by simp at h⟩
  · injection hcs with hcs _
    subst hcs
    have hlen : len ≤ zs.length := by rw [hz]; split <;> omega
    have hl' : (zs.take len).length = len := by rw [List.length_take]; omega
    refine ⟨zs.take len, some a, cap, by rw [hl'], by rw [hl']; exact hl, hm, fun h0 => ?_⟩
    rw [hl'] at h0
    have hs : a.spot = none := by
      have := spot_none (hcell 0 (by omega))
      simpa [Addr.add] using this
    obtain ⟨g, o, spot⟩ := a
    simp only at hs
    subst hs
    refine ⟨g, o, rfl, fun i z hi => ?_⟩
    rw [List.getElem?_take] at hi
    split at hi
    · have hiz : i < zs.length := (List.getElem?_eq_some_iff.1 hi).1
      have hc := hcell i hiz
      rw [add_lit0] at hc
      rw [hc]
      simp [List.getD, hi]
    · cases hi

/-- A call of the argument 'calls'. -/
structure CallJ where
  kind : Int
  n : Int
  b : Value
  l : List UInt8
  rv : Value
  us : List Value
  rs : List (List UInt8)
  keep : Value
  ks : List Int

def CallJ.val (c : CallJ) : Value := .agg #[.int .i64 c.kind, .int .i64 c.n, c.b, c.rv, c.keep]
structure CallJOk (w : World) (c : CallJ) : Prop where
  b : Bs w c.b c.l
  bl : c.l.length ≤ maxLen
  r : LsR w c.rv c.us c.rs
  rl : c.rs.length ≤ maxLen
  rm : ∀ b ∈ c.rs, b.length ≤ maxLen
  k : KeepIn w c.keep c.ks
  n : c.n ≤ 9223372036854775807
structure CallJAt (w : World) (g o : Nat) (c : CallJ) : Prop where
  c0 : w.cell? ⟨g, o, none⟩ = some (.int .i64 c.kind)
  c1 : w.cell? ⟨g, o + 1, none⟩ = some (.int .i64 c.n)
  c2 : w.cell? ⟨g, o + 1 + 1, none⟩ = some c.b
  c3 : w.cell? ⟨g, o + 1 + 1 + 1, none⟩ = some c.rv
  c4 : w.cell? ⟨g, o + 1 + 1 + 1 + 1, none⟩ = some c.keep
  ok : CallJOk w c

def CallsJ (w : World) (v : Value) (cs : List CallJ) : Prop :=
  ∃ A cap, v = .slice A cs.length cap ∧ cs.length ≤ cap ∧ cap ≤ maxLen ∧ (A = none → cs.length = 0 ∧ cap = 0) ∧ (0 < cs.length → ∃ g o, A = some ⟨g, o, none⟩ ∧ ∀ i c, cs[i]? = some c → CallJAt w g (o + i * 5) c)

theorem CallJOk.kept0 {w w' : World} {c : CallJ} (h : CallJOk w c) (hk : Kept Kno w w') : CallJOk w' c := ⟨Rd.kept0 h.b hk, h.bl, h.r.kept0 hk, h.rl, h.rm, h.k.kept0 hk, h.n⟩
theorem CallJAt.kept {w w' : World} {g o : Nat} {c : CallJ} (h : CallJAt w g o c) (hk : Kept Kno w w') : CallJAt w' g o c :=
  ⟨hk.cell_some h.c0 (fun h => h), hk.cell_some h.c1 (fun h => h), hk.cell_some h.c2 (fun h => h), hk.cell_some h.c3 (fun h => h), hk.cell_some h.c4 (fun h => h), h.ok.kept0 hk⟩

theorem callsJ_of_trod {H : Type} {enc : TypeId × Value → H} {w : World} {base : Nat} {spare : Nat → Bool} {held : Bool} {fuel : Nat} {v : Value} {x : DataW H × List MemPlace}
    (h : DataW.trod enc Try.prog w base spare held fuel 72 [v] = some x) : ∃ cs : List CallJ, CallsJ w v cs := by
  rcases open_slice_fields Try.underlying72 Try.underlying47 (by kernel_rfl) (by kernel_rfl) h with ⟨hcs, _⟩ | ⟨a, len, cap, m, D, Pl, hcs, _, hl, hm, hmm, _, hi⟩
  · injection hcs with hcs _
    subst hcs
    exact ⟨[], none, 0, rfl, by simp, by simp, fun _ => ⟨rfl, rfl⟩, fun h => by simp at h⟩
  · injection hcs with hcs _
    subst hcs
    have hlm : len ≤ m := by rw [hmm]; split <;> omega
    have hall : ∀ i, i < len → ∃ c : CallJ, ∀ g o, a = ⟨g, o, none⟩ → CallJAt w g (o + i * 5) c := by
      intro i hil
      obtain ⟨ys, n, _, _, hyl, hf⟩ := hi i (by omega)
      obtain ⟨v0, y0, c0, _, t0⟩ := hf 0 _ rfl
      obtain ⟨v1, y1, c1, _, t1⟩ := hf 1 _ rfl
      obtain ⟨v2, y2, c2, _, t2⟩ := hf 2 _ rfl
      obtain ⟨v3, y3, c3, _, t3⟩ := hf 3 _ rfl
      obtain ⟨v4, y4, c4, _, t4⟩ := hf 4 _ rfl
      obtain ⟨k0, e0, _, _⟩ := DataW.trod_int Try.underlying3 t0
      obtain ⟨k1, e1, _, w1⟩ := DataW.trod_int Try.underlying3 t1
      have hk1 : k1 ≤ 9223372036854775807 := by
        have : -9223372036854775808 ≤ k1 ∧ k1 ≤ 9223372036854775807 := by simpa [Lit.wf, IntKind.min, IntKind.max, IntKind.signed, IntKind.bits] using w1
        exact this.2
      simp at e0 e1
      subst e0 e1
      obtain ⟨l, hbs, hll⟩ := bs_of_trod Try.underlying30 Try.underlying5 (by kernel_rfl) t2
      obtain ⟨⟨us, rs⟩, hr, hrl, hrm⟩ := recs_of_trod t3
      obtain ⟨ks, hks⟩ := keepJ_of_trod t4
      refine ⟨⟨k0, k1, v2, l, v3, us, rs, v4, ks⟩, fun g o ha => ?_⟩
      subst ha
      simp only [add_lit0] at c0 c1 c2 c3 c4
      exact ⟨c0, c1, c2, c3, c4, hbs, hll, hr, hrl, hrm, hks, hk1⟩
    obtain ⟨cs, hcl, hcs⟩ := list_choose len _ hall
    refine ⟨cs, some a, cap, by rw [hcl], by omega, hm, (fun h => by cases h), fun h0 => ?_⟩
    obtain ⟨ys, n, _, _, hyl, hf⟩ := hi 0 (by omega)
    obtain ⟨g, o, spot⟩ := a
    have hs : spot = none := by
      obtain ⟨v0, y0, c0, _, t0⟩ := hf 0 _ rfl
      have := spot_none c0
      simpa [Addr.add] using this
    subst hs
    exact ⟨g, o, rfl, fun i c hc => hcs i c hc g o rfl⟩
end Go.Proofs.Yteoodgcpkgfomaa
/-
  Journal: Truncate.
-/
namespace Go.Proofs.Yteoodgcpkgfomaa
open Go.RowKit
set_option linter.unusedVariables false

theorem Rd.cut {w : World} {A : Option Addr} {cap n m : Nat} {xs : List Value} (h : Rd w 1 (.slice A n cap) n xs) (hm : m ≤ n) : Rd w 1 (.slice A m cap) m (xs.take m) := by
  obtain ⟨A', cap', hv, h1, h2, h3, h4⟩ := h
  injection hv with hA hn hc
  subst hA hc
  refine ⟨A, cap, rfl, by omega, by rw [List.length_take]; omega, fun hA => ?_, fun ad hA j u hj => h4 ad hA j u ?_⟩
  · have := h3 hA; omega
  · rw [List.getElem?_take] at hj
    split at hj
    · exact hj
    · cases hj
theorem eVal_take (rs : List (List UInt8)) (n : Nat) : (eVal rs).take n = eVal (rs.take n) := by
  unfold eVal
  rw [← ends_take, List.map_take]

section
variable {w w' w2 : World} {base J B : Nat} {file : Int} {rv ev : Value} {us : List Value} {fs : List File} {rs es : List (List UInt8)} {off : Bool} {a : Ab}
/-- The records are cut into a row of their own. -/
theorem JE.cut_recs (h : JE w base J B file rv ev us rs es off) {wB : World} {rv' : Value} {n : Nat} (hA : Kept Kno w wB) (hn : n ≤ rs.length) (hown : wB.ownsRow w.heap.size 30 1 rv' n (us.take n)) :
    JE (wB.setCell ⟨J, 2, none⟩ rv') base J B file rv' ev (us.take n) (rs.take n) es off ∧ JStep J rv ev rv' ev us (us.take n) w (wB.setCell ⟨J, 2, none⟩ rv') := by
  have hA' := h.kept0 hA
  have hk2 : Kept (Kone J) wB (wB.setCell ⟨J, 2, none⟩ rv') := Kept.setIn (S := Kone J) (Kept.refl _ _) (p := ⟨J, 2, none⟩) (Eq.refl J) _
  have hJl := h.blk.lt
  have hlo := h.low
  have hrv : ∀ k, rv'.ownBlock = some k → w.heap.size ≤ k := fun k e => (own_base hown e).1
  have hJ : rv'.ownBlock ≠ some J := fun e => by have := hrv J e; omega
  have htl : (rs.take n).length = n := by rw [List.length_take]; omega
  have hrr : RR wB base rv' (us.take n) (rs.take n) := ⟨by rw [htl]; exact own_rebase hown (fun k e => by have := hrv k e; omega), fun i x b hx hb => by
    rw [List.getElem?_take] at hx hb
    split at hx
    · rw [if_pos ‹_›] at hb
      exact hA'.rr.recs i x b hx hb
    · cases hx⟩
  have hmem : ∀ u ∈ us.take n, u ∈ us := fun u hu => List.mem_of_mem_take hu
  refine ⟨⟨h.low, hA'.blk.set_ 2 rv', ?_, ?_⟩, ?_, ?_, ?_⟩
  · exact hrr.kept hk2 (fun k e e' => by unfold Kone at e'; subst e'; exact hJ e) (fun u hu k e e' => by unfold Kone at e'; subst e'; exact hA'.J_u (hmem u hu) e)
  · exact hA'.er.kept hk2 (fun k e e' => by unfold Kone at e'; subst e'; exact hA'.J_ev e)
  · exact (hA.mono (T := fun k => k = J ∨ rv.ownBlock = some k ∨ ev.ownBlock = some k) (fun _ _ h => h.elim)).trans hk2 (fun k _ e => .inl e)
  · rintro k (e | e | e | ⟨u, hu, e⟩)
    · exact .inl (.inl e)
    · exact .inr (hrv k e)
    · exact .inl (.inr (.inr (.inl e)))
    · exact .inl (.inr (.inr (.inr ⟨u, hmem u hu, e⟩)))
  · rintro k (e | e)
    · exact .inr (hrv k e)
    · exact .inl (.inr e)
/-- The ends are cut into a row of their own. -/
theorem JE.cut_ends (h : JE w base J B file rv ev us rs es off) {wB : World} {ev' : Value} {n : Nat} (hA : Kept Kno w wB) (hn : n ≤ es.length) (hown : wB.ownsRow w.heap.size 3 1 ev' n (eVal (es.take n))) :
    JE (wB.setCell ⟨J, 3, none⟩ ev') base J B file rv ev' us rs (es.take n) off ∧ JStep J rv ev rv ev' us us w (wB.setCell ⟨J, 3, none⟩ ev') := by
  have hA' := h.kept0 hA
  have hk2 : Kept (Kone J) wB (wB.setCell ⟨J, 3, none⟩ ev') := Kept.setIn (S := Kone J) (Kept.refl _ _) (p := ⟨J, 3, none⟩) (Eq.refl J) _
  have hJl := h.blk.lt
  have hlo := h.low
  have hev : ∀ k, ev'.ownBlock = some k → w.heap.size ≤ k := fun k e => (own_base hown e).1
  have hJ : ev'.ownBlock ≠ some J := fun e => by have := hev J e; omega
  have htl : (es.take n).length = n := by rw [List.length_take]; omega
  have her : ER wB base ev' (es.take n) := by
    unfold ER
    rw [htl]
    exact own_rebase hown (fun k e => by have := hev k e; omega)
  refine ⟨⟨h.low, hA'.blk.set_ 3 ev', ?_, ?_⟩, ?_, ?_, ?_⟩
  · exact hA'.rr.kept hk2 (fun k e e' => by unfold Kone at e'; subst e'; exact hA'.J_rv e) (fun u hu k e e' => by unfold Kone at e'; subst e'; exact hA'.J_u hu e)
  · exact her.kept hk2 (fun k e e' => by unfold Kone at e'; subst e'; exact hJ e)
  · exact (hA.mono (T := fun k => k = J ∨ rv.ownBlock = some k ∨ ev.ownBlock = some k) (fun _ _ h => h.elim)).trans hk2 (fun k _ e => .inl e)
  · rintro k (e | e | e | ⟨u, hu, e⟩)
    · exact .inl (.inl e)
    · exact .inl (.inr (.inl e))
    · exact .inr (hev k e)
    · exact .inl (.inr (.inr (.inr ⟨u, hu, e⟩)))
  · rintro k (e | e)
    · exact .inl (.inl e)
    · exact .inr (hev k e)
end

set_option maxRecDepth 100000 in
set_option maxHeartbeats 4000000 in
theorem jtrunc_any {w : World} {base J B : Nat} {file : Int} {rv ev : Value} {us : List Value} {fs : List File} (s : JA) (n : Int) (hj : Jr w base J B file rv ev us s.rs s.off) (hi : Is w base B fs s.a) (ha : JApart J B fs rv ev us) :
    Calls Try.prog 41 #[.pointer (some ⟨J, 0, none⟩), .int .i64 n] w (JRet base J B file fs rv ev us (s.trunc file n) w) := by
  obtain ⟨j0, hj0, hy0, hy1, hy2⟩ := info_parts info_recs
  obtain ⟨k0, hk0, hx0, hx1, hx2⟩ := info_parts info_ends
  obtain ⟨a, rs, off⟩ := s
  simp only at hj hi
  have c4 := hj.c_off
  have HJ := Lib.hid hj
  have HI := Lib.hid hi
  have HA := Lib.hid ha
  have HT := Lib.hid (jturn0 hj hi ha (Kept.refl Kno w))
  unfold JA.trunc
  cases off with
  | true =>
    simp only [if_true]
    clear hj hi ha
    go_enter Try.func41, Try.ntmps41
    go_wp2
    go_ret
    exact ⟨rfl, HT.out⟩
  | false =>
    simp only [Bool.false_eq_true, if_false]
    have c0 := hj.c_disk
    have c1 := hj.c_file
    have c2 := hj.c_recs
    have c3 := hj.c_ends
    have hcn := hj.cnt
    have HRV := Lib.hid (Rd.of_own hj.rr.row)
    have HEV := Lib.hid (Rd.of_own hj.er)
    obtain ⟨Ar, cr, hrv⟩ := own_form hj.rr.row
    obtain ⟨Ae, ce, hev⟩ := own_form hj.er
    subst hrv hev
    clear hj hi ha
    by_cases hn : n < 0 ∨ (rs.length : Int) < n
    · rw [if_pos hn]
      rcases (show n < 0 ∨ 0 ≤ n by omega) with h1 | h1
      · clear hn
        go_enter Try.func41, Try.ntmps41
        go_wp2
        go_ret
        exact ⟨rfl, HT.out⟩
      · have h2 : (rs.length : Int) < n := by omega
        have h3 : ¬ n < 0 := by omega
        clear hn
        go_enter Try.func41, Try.ntmps41
        go_wp2
        go_ret
        exact ⟨rfl, HT.out⟩
    · rw [if_neg hn]
      obtain ⟨m, rfl⟩ : ∃ m : Nat, n = m := ⟨n.toNat, by omega⟩
      rw [Int.toNat_natCast]
      have hm : m ≤ rs.length := by omega
      have h1 : ¬ (m : Int) < 0 := by omega
      have h1' : (0 : Int) ≤ (m : Int) := by omega
      have h2 : ¬ (rs.length : Int) < (m : Int) := by omega
      have hcr : rs.length ≤ cr := by obtain ⟨A', c', e, h9, -⟩ := HRV.out; injection e with _ _ e; omega
      have hce : rs.length ≤ ce := by obtain ⟨A', c', e, h9, -⟩ := HEV.out; injection e with _ _ e; omega
      have p1 : m ≤ cr := by omega
      have p2 : (m : Int) ≤ (cr : Int) := by omega
      have p3 : m ≤ ce := by omega
      have p4 : (m : Int) ≤ (ce : Int) := by omega
      clear hn
      obtain ⟨⟨a', c⟩, hp⟩ : ∃ p, p = a.trunc file ((frames (rs.take m)).length : Nat) := ⟨_, rfl⟩
      have HJd := Lib.hid (HJ.out.kept0 (Kept.drew (Kept.refl Kno w)))
      have HId := Lib.hid (HI.out.kept0 (Kept.drew (Kept.refl Kno w)))
      have htr := trunc_any file ((frames (rs.take m)).length : Nat) HId.out
      rw [← hp] at htr ⊢
      clear hp
      have HM := Lib.hid hm
      have HTZ : Hid (m = 0 → (frames (rs.take m)).length = 0) := Lib.hid (fun h => by rw [h]; rfl)
      have HTP : Hid (0 < m → ∃ g o, Ae = some ⟨g, o, none⟩ ∧ w.cell? ⟨g, o + (m - 1), none⟩ = some (.int .i64 ((frames (rs.take m)).length : Nat))) := Lib.hid (fun h0 => by
        obtain ⟨A', cap', hv, e1, e2, e3, e4⟩ := HEV.out
        injection hv with q1 q2 q3
        subst q1 q3
        rcases Ae with _ | ad
        · have := (e3 rfl).1; omega
        · have hlast : (eVal rs)[m - 1]? = some (.int .i64 ((frames (rs.take m)).length : Nat)) := by
            unfold eVal
            rw [List.getElem?_map, ends_at 0 _ rs (by omega), show m - 1 + 1 = m by omega, Nat.zero_add]
            rfl
          have hc := e4 ad rfl _ _ hlast
          have hfirst := e4 ad rfl 0 _ (List.getElem?_eq_getElem (by unfold eVal; rw [List.length_map, ends_length]; omega))
          have hs := World.cell?_spot hfirst
          obtain ⟨g, o, spot⟩ := ad
          have hs' : spot = none := by simpa [Addr.add] using hs
          subst hs'
          rw [add_lit0] at hc
          exact ⟨g, o, rfl, hc⟩)
      have HFT : Hid ((frames (rs.take m)).length ≤ 20000000) := Lib.hid (Nat.le_trans (frames_take_le rs m) HJ.out.fit)
      generalize hF : (frames (rs.take m)).length = F at htr HTZ HTP HFT
      have HFE := Lib.hid hF
      clear hF
      have HTR := Lib.hid htr
      clear htr hm hcr hce
      rcases Nat.eq_zero_or_pos m with h0 | h0
      · obtain rfl := HTZ.out h0
        have HTR' := Lib.hid HTR.out
        rw [Int.natCast_zero] at HTR'
        clear HTR
        have HTR := HTR'
        have h4 : ¬ (0 : Int) < (m : Int) := by omega
        clear HTR' HTP HTZ h0
        go_enter Try.func41, Try.ntmps41
        go_wp2_with fail
        clear c4 c2 c3
        have HKd : Hid (Kept Kno w w.drew) := Lib.hid (Kept.drew (Kept.refl Kno w))
        go_region_with (first
          | (go_at_call 52
             refine HTR.out.mono ?_
             rintro e w2 ⟨rfl, ht⟩
             have HTN := Lib.hid (jturn_note c HJd.out HId.out HA.out ht)
             have d4 := (jr_turn HJd.out HA.out ht).c_off
             have g4 := (jr_turn HJd.out HA.out ht).blk.frozen 4
             clear ht)
          | (go_at_call 63
             refine (note_any J _ false w2 d4 g4).mono ?_
             rintro e w3 ⟨rfl, hw3⟩
             rw [← hw3] at HTN
             clear hw3))
        all_goals
          clear c0 c1 d4 g4
          by_cases hc0 : c = 0
          · subst hc0
            obtain ⟨fsq, hiq, hjq, haq, hkq, hdkq⟩ := HTN.out.2
            rw [decide_eq_false (show ¬ (0 : Int) = 220 by decide)] at hjq
            have hkq' : Kept (fun k => JOwn J (.slice Ar rs.length cr) (.slice Ae rs.length ce) us k ∨ DK B fs k) w w3 := (HKd.out.mono (T := fun k => JOwn J (.slice Ar rs.length cr) (.slice Ae rs.length ce) us k ∨ DK B fs k) (fun _ _ h => h.elim)).trans hkq (fun _ _ h => h)
            have HIQ := Lib.hid hiq
            have HJQ := Lib.hid hjq
            have HAQ := Lib.hid haq
            have HKQ := Lib.hid hkq'
            have HDQ : Hid (∀ k, DK B fsq k → DK B fs k ∨ w.heap.size ≤ k) := Lib.hid hdkq
            have HRV3 := Lib.hid ((Rd.of_own hjq.rr.row).cut HM.out)
            have HEV3 : Hid (Rd w3 1 (.slice Ae m ce) m (eVal (rs.take m))) := Lib.hid (by rw [← eVal_take]; exact (Rd.of_own hjq.er).cut HM.out)
            have HONE : Hid (∀ u ∈ us.take m, u.oneCell' = true) := Lib.hid (fun u hu => hjq.rr.r.one u (List.mem_of_mem_take hu))
            have HETWO : Hid (∀ u ∈ eVal (rs.take m), u.oneCell' = true) := Lib.hid (fun u hu => by unfold eVal at hu; obtain ⟨x, _, rfl⟩ := List.mem_map.1 hu; rfl)
            have d2 := hjq.c_recs
            have d3 := hjq.c_ends
            have g2 := hjq.blk.frozen 2
            have g3 := hjq.blk.frozen 3
            have lJ := hjq.blk.lt
            have hmM := HM.out
            have m1 : 0 + m ≤ maxLen := by simp only [maxLen]; omega
            have m24 : (0 + m) * 24 ≤ 140737488355328 := by omega
            have m8 : (0 + m) * 8 ≤ 140737488355328 := by omega
            clear hiq hjq haq hkq hkq' hdkq HTN HJd HId hmM
            go_wp2_with (at_builtin; first
              | (refine wpList_append_rd _ rfl _ _ 45 rfl w3.heap.size 30 j0 _ 1 24 Try.underlying45 hj0 hy0 hy1 hy2 rfl (by decide) (.slice none 0 0) 0 [] rfl (World.ownsRow_nil _ _ _ _) _ m (us.take m) rfl HRV3.out HONE.out m1 m24 (Nat.le_refl _) ?_
                 intro A4 cap4 w4 hown4 hg4 hat4
                 have hk4 : Kept Kno w3 w4 := (Kept.refl _ _).grown hg4 (fun k _ e => by cases e)
                 have HE4 := Lib.hid (HEV3.out.kept0 hk4)
                 rw [Nat.zero_add, List.nil_append] at hown4
                 have HG4 := Lib.hid (HJQ.out.je.cut_recs hk4 HM.out hown4)
                 have p2 := hk4.cell_some d2 (fun h => h)
                 have p3 := hk4.cell_some d3 (fun h => h)
                 have r2 := hk4.frozen_no g2 lJ (fun h => h)
                 have r3 := hk4.frozen_no g3 lJ (fun h => h)
                 have hs4 := hk4.size
                 rw [Nat.zero_add]
                 clear hown4 hg4 hat4 d2 d3 g2 g3)
              | (refine wpList_append_rd _ rfl _ _ 31 rfl (w4.setCell ⟨J, 2, none⟩ (.slice A4 m cap4)).heap.size 3 k0 _ 1 8 Try.underlying31 hk0 hx0 hx1 hx2 rfl (by decide) (.slice none 0 0) 0 [] rfl (World.ownsRow_nil _ _ _ _) _ m (eVal (rs.take m)) rfl (HE4.out.kept (S := Kone J) (Kept.setIn (S := Kone J) (Kept.refl _ _) (p := ⟨J, 2, none⟩) (Eq.refl J) _) (fun k e e' => by unfold Kone at e'; subst e'; exact HJQ.out.je.J_ev (by cases Ae <;> exact e))) HETWO.out m1 m8 (Nat.le_refl _) ?_
                 intro A6 cap6 w6 hown6 hg6 hat6
                 have hk6 : Kept Kno (w4.setCell ⟨J, 2, none⟩ (.slice A4 m cap4)) w6 := (Kept.refl _ _).grown hg6 (fun k _ e => by cases e)
                 rw [Nat.zero_add, List.nil_append] at hown6
                 have s3 := hk6.cell_some (HG4.out.1.blk.cell 3) (fun h => h)
                 have t3 := hk6.frozen_no (HG4.out.1.blk.frozen 3) HG4.out.1.blk.lt (fun h => h)
                 have HG6 := Lib.hid (HG4.out.1.cut_ends hk6 HM.out hown6)
                 rw [Nat.zero_add]
                 clear hown6 hg6 hat6))
            go_ret
            refine ⟨rfl, ?_⟩
            have hjf := HG6.out.1.jr (Nat.le_trans (Nat.le_of_eq HFE.out) HFT.out)
            have h9 := jturn_after HKQ.out HDQ.out ((HG4.out.2.trans HG6.out.2).turn HIQ.out HAQ.out hjf)
            simpa [JA.done] using h9
          · go_wp2
            go_ret
            refine ⟨rfl, ?_⟩
            have h9 := HTN.out.1.before HKd.out
            simpa [JA.done, hc0] using h9
      · obtain ⟨g, o, e, hc⟩ := HTP.out h0
        subst e
        obtain ⟨m, rfl⟩ : ∃ q, m = q + 1 := ⟨m - 1, by omega⟩
        rw [show m + 1 - 1 = m by omega] at hc
        have hw : wrap64 (((m + 1 : Nat) : Int) - 1) = (m : Int) := by unfold wrap64; omega
        have h4 : (0 : Int) < ((m + 1 : Nat) : Int) := by omega
        have hm0 : (0 : Int) ≤ (m : Int) := by omega
        have hm1 : (m : Int) < (rs.length : Int) := by omega
        clear HTP HTZ h0
        go_enter Try.func41, Try.ntmps41
        go_wp2_with fail
        clear c4 c2 c3
        have HKd : Hid (Kept Kno w w.drew) := Lib.hid (Kept.drew (Kept.refl Kno w))
        go_region_with (first
          | (go_at_call 52
             refine HTR.out.mono ?_
             rintro e w2 ⟨rfl, ht⟩
             have HTN := Lib.hid (jturn_note c HJd.out HId.out HA.out ht)
             have d4 := (jr_turn HJd.out HA.out ht).c_off
             have g4 := (jr_turn HJd.out HA.out ht).blk.frozen 4
             clear ht)
          | (go_at_call 63
             refine (note_any J _ false w2 d4 g4).mono ?_
             rintro e w3 ⟨rfl, hw3⟩
             rw [← hw3] at HTN
             clear hw3))
        all_goals
          clear c0 c1 d4 g4
          by_cases hc0 : c = 0
          · subst hc0
            obtain ⟨fsq, hiq, hjq, haq, hkq, hdkq⟩ := HTN.out.2
            rw [decide_eq_false (show ¬ (0 : Int) = 220 by decide)] at hjq
            have hkq' : Kept (fun k => JOwn J (.slice Ar rs.length cr) (.slice (some ⟨g, o, none⟩) rs.length ce) us k ∨ DK B fs k) w w3 := (HKd.out.mono (T := fun k => JOwn J (.slice Ar rs.length cr) (.slice (some ⟨g, o, none⟩) rs.length ce) us k ∨ DK B fs k) (fun _ _ h => h.elim)).trans hkq (fun _ _ h => h)
            have HIQ := Lib.hid hiq
            have HJQ := Lib.hid hjq
            have HAQ := Lib.hid haq
            have HKQ := Lib.hid hkq'
            have HDQ : Hid (∀ k, DK B fsq k → DK B fs k ∨ w.heap.size ≤ k) := Lib.hid hdkq
            have HRV3 := Lib.hid ((Rd.of_own hjq.rr.row).cut HM.out)
            have HEV3 : Hid (Rd w3 1 (.slice (some ⟨g, o, none⟩) (m + 1) ce) (m + 1) (eVal (rs.take (m + 1)))) := Lib.hid (by rw [← eVal_take]; exact (Rd.of_own hjq.er).cut HM.out)
            have HONE : Hid (∀ u ∈ us.take (m + 1), u.oneCell' = true) := Lib.hid (fun u hu => hjq.rr.r.one u (List.mem_of_mem_take hu))
            have HETWO : Hid (∀ u ∈ eVal (rs.take (m + 1)), u.oneCell' = true) := Lib.hid (fun u hu => by unfold eVal at hu; obtain ⟨x, _, rfl⟩ := List.mem_map.1 hu; rfl)
            have d2 := hjq.c_recs
            have d3 := hjq.c_ends
            have g2 := hjq.blk.frozen 2
            have g3 := hjq.blk.frozen 3
            have lJ := hjq.blk.lt
            have hmM := HM.out
            have m1 : 0 + (m + 1) ≤ maxLen := by simp only [maxLen]; omega
            have m24 : (0 + (m + 1)) * 24 ≤ 140737488355328 := by omega
            have m8 : (0 + (m + 1)) * 8 ≤ 140737488355328 := by omega
            clear hiq hjq haq hkq hkq' hdkq HTN HJd HId hmM
            go_wp2_with (at_builtin; first
              | (refine wpList_append_rd _ rfl _ _ 45 rfl w3.heap.size 30 j0 _ 1 24 Try.underlying45 hj0 hy0 hy1 hy2 rfl (by decide) (.slice none 0 0) 0 [] rfl (World.ownsRow_nil _ _ _ _) _ (m + 1) (us.take (m + 1)) rfl HRV3.out HONE.out m1 m24 (Nat.le_refl _) ?_
                 intro A4 cap4 w4 hown4 hg4 hat4
                 have hk4 : Kept Kno w3 w4 := (Kept.refl _ _).grown hg4 (fun k _ e => by cases e)
                 have HE4 := Lib.hid (HEV3.out.kept0 hk4)
                 rw [Nat.zero_add, List.nil_append] at hown4
                 have HG4 := Lib.hid (HJQ.out.je.cut_recs hk4 HM.out hown4)
                 have p2 := hk4.cell_some d2 (fun h => h)
                 have p3 := hk4.cell_some d3 (fun h => h)
                 have r2 := hk4.frozen_no g2 lJ (fun h => h)
                 have r3 := hk4.frozen_no g3 lJ (fun h => h)
                 have hs4 := hk4.size
                 rw [Nat.zero_add]
                 clear hown4 hg4 hat4 d2 d3 g2 g3)
              | (refine wpList_append_rd _ rfl _ _ 31 rfl (w4.setCell ⟨J, 2, none⟩ (.slice A4 (m + 1) cap4)).heap.size 3 k0 _ 1 8 Try.underlying31 hk0 hx0 hx1 hx2 rfl (by decide) (.slice none 0 0) 0 [] rfl (World.ownsRow_nil _ _ _ _) _ (m + 1) (eVal (rs.take (m + 1))) rfl (HE4.out.kept (S := Kone J) (Kept.setIn (S := Kone J) (Kept.refl _ _) (p := ⟨J, 2, none⟩) (Eq.refl J) _) (fun k e e' => by unfold Kone at e'; subst e'; exact HJQ.out.je.J_ev (by exact e))) HETWO.out m1 m8 (Nat.le_refl _) ?_
                 intro A6 cap6 w6 hown6 hg6 hat6
                 have hk6 : Kept Kno (w4.setCell ⟨J, 2, none⟩ (.slice A4 (m + 1) cap4)) w6 := (Kept.refl _ _).grown hg6 (fun k _ e => by cases e)
                 rw [Nat.zero_add, List.nil_append] at hown6
                 have s3 := hk6.cell_some (HG4.out.1.blk.cell 3) (fun h => h)
                 have t3 := hk6.frozen_no (HG4.out.1.blk.frozen 3) HG4.out.1.blk.lt (fun h => h)
                 have HG6 := Lib.hid (HG4.out.1.cut_ends hk6 HM.out hown6)
                 rw [Nat.zero_add]
                 clear hown6 hg6 hat6))
            go_ret
            refine ⟨rfl, ?_⟩
            have hjf := HG6.out.1.jr (Nat.le_trans (Nat.le_of_eq HFE.out) HFT.out)
            have h9 := jturn_after HKQ.out HDQ.out ((HG4.out.2.trans HG6.out.2).turn HIQ.out HAQ.out hjf)
            simpa [JA.done] using h9
          · go_wp2
            go_ret
            refine ⟨rfl, ?_⟩
            have h9 := HTN.out.1.before HKd.out
            simpa [JA.done, hc0] using h9

end Go.Proofs.Yteoodgcpkgfomaa
/-
  Journal: play, begins.
-/
namespace Go.Proofs.Yteoodgcpkgfomaa
open Go.RowKit
set_option linter.unusedVariables false

def JA.play (s : JA) (f kind n : Int) (l : List UInt8) (bs : List (List UInt8)) : JA × Int :=
  if kind = 1 then s.append f l else if kind = 2 then s.sync f else if kind = 3 then s.trunc f n else if kind = 4 then s.rewrite f bs else (s, 0)

set_option maxRecDepth 100000 in
set_option maxHeartbeats 4000000 in
theorem jplay_any {w : World} {base J B : Nat} {file : Int} {rv ev : Value} {us : List Value} {fs : List File} (s : JA) (kind n : Int) (Ab : Option Addr) (cb : Nat) (l : List UInt8) (Av : Option Addr) (cv : Nat) (ws : List Value) (bs : List (List UInt8)) (Ak : Option Addr) (nk ck : Nat)
    (hj : Jr w base J B file rv ev us s.rs s.off) (hi : Is w base B fs s.a) (ha : JApart J B fs rv ev us)
    (hb : ∀ w1, Kept (fun k => JOwn J rv ev us k ∨ DK B fs k) w w1 → Bs w1 (.slice Ab l.length cb) l)
    (hr : ∀ w1, Kept (fun k => JOwn J rv ev us k ∨ DK B fs k) w w1 → LsR w1 (.slice Av bs.length cv) ws bs)
    (hfit1 : s.off = false → l.length ≤ 1048576 → (s.a.append file (frame l)).2 = 0 → (frames (s.rs ++ [l])).length ≤ 20000000)
    (hcnt : bs.length ≤ 1000000) (hfit2 : (bs.any fun b => decide (1048576 < b.length)) = false → (frames bs).length ≤ 20000000) (hbase : base ≤ w.heap.size) (hlen : ∀ b ∈ bs, b.length ≤ maxLen) :
    Calls Try.prog 42 #[.pointer (some ⟨J, 0, none⟩), .agg #[.int .i64 kind, .int .i64 n, .slice Ab l.length cb, .slice Av bs.length cv, .slice Ak nk ck]] w (JRet base J B file fs rv ev us (s.play file kind n l bs) w) := by
  have HJ := Lib.hid hj
  have HI := Lib.hid hi
  have HA := Lib.hid ha
  have HK1 : Hid (∀ o, Kept Kno w (w.alloc o)) := Lib.hid (fun o => (Kept.refl _ _).alloc o)
  have HB : Hid (∀ o w1, Kept (fun k => JOwn J rv ev us k ∨ DK B fs k) (w.alloc o) w1 → Bs w1 (.slice Ab l.length cb) l) := Lib.hid (fun o w1 hk => hb w1 (((HK1.out o).mono (T := fun k => JOwn J rv ev us k ∨ DK B fs k) (fun _ _ h => h.elim)).trans hk (fun _ _ h => h)))
  have HR : Hid (∀ o w1, Kept (fun k => JOwn J rv ev us k ∨ DK B fs k) (w.alloc o) w1 → LsR w1 (.slice Av bs.length cv) ws bs) := Lib.hid (fun o w1 hk => hr w1 (((HK1.out o).mono (T := fun k => JOwn J rv ev us k ∨ DK B fs k) (fun _ _ h => h.elim)).trans hk (fun _ _ h => h)))
  have HS : Hid (∀ o, base ≤ (w.alloc o).heap.size) := Lib.hid (fun o => Nat.le_trans hbase (HK1.out o).size)
  have HF1 := Lib.hid hfit1
  have HF2 := Lib.hid hfit2
  have HL := Lib.hid hlen
  have HT := Lib.hid (fun o => jturn0 hj hi ha (HK1.out o))
  clear hj hi ha hb hr hfit1 hfit2 hlen hbase
  unfold JA.play
  by_cases k1 : kind = 1
  · subst k1
    rw [if_pos rfl]
    go_enter Try.func42, Try.ntmps42
    go_wp2_with fail
    refine (jappend_any s _ l (HJ.out.kept0 (HK1.out _)) (HI.out.kept0 (HK1.out _)) HA.out (HB.out _ _ (Kept.refl _ _)) (HB.out _) HF1.out (HS.out _)).mono ?_
    rintro e w1 ⟨rfl, ht⟩
    have HT1 := Lib.hid (ht.before (HK1.out _))
    clear ht
    go_wp2
    go_ret
    exact ⟨rfl, HT1.out⟩
  · rw [if_neg k1]
    by_cases k2 : kind = 2
    · subst k2
      rw [if_pos rfl]
      go_enter Try.func42, Try.ntmps42
      go_wp2_with fail
      refine (jsync_any s (HJ.out.kept0 (HK1.out _)) (HI.out.kept0 (HK1.out _)) HA.out).mono ?_
      rintro e w1 ⟨rfl, ht⟩
      have HT1 := Lib.hid (ht.before (HK1.out _))
      clear ht
      go_wp2
      go_ret
      exact ⟨rfl, HT1.out⟩
    · rw [if_neg k2]
      by_cases k3 : kind = 3
      · subst k3
        rw [if_pos rfl]
        go_enter Try.func42, Try.ntmps42
        go_wp2_with fail
        refine (jtrunc_any s n (HJ.out.kept0 (HK1.out _)) (HI.out.kept0 (HK1.out _)) HA.out).mono ?_
        rintro e w1 ⟨rfl, ht⟩
        have HT1 := Lib.hid (ht.before (HK1.out _))
        clear ht
        go_wp2
        go_ret
        exact ⟨rfl, HT1.out⟩
      · rw [if_neg k3]
        by_cases k4 : kind = 4
        · subst k4
          rw [if_pos rfl]
          go_enter Try.func42, Try.ntmps42
          go_wp2_with fail
          refine (jrewrite_any s _ ws bs (HJ.out.kept0 (HK1.out _)) (HI.out.kept0 (HK1.out _)) HA.out (HR.out _ _ (Kept.refl _ _)) (HR.out _) hcnt HF2.out (HS.out _) HL.out).mono ?_
          rintro e w1 ⟨rfl, ht⟩
          have HT1 := Lib.hid (ht.before (HK1.out _))
          clear ht
          go_wp2
          go_ret
          exact ⟨rfl, HT1.out⟩
        · rw [if_neg k4]
          go_enter Try.func42, Try.ntmps42
          go_wp2
          go_ret
          exact ⟨rfl, HT.out _⟩

set_option maxHeartbeats 2000000 in
theorem begins_any (va vb : Value) (xs ys : List Value) (la lb : List (List UInt8)) (w : World) (ha : LsR w va xs la) (hb : LsR w vb ys lb) (hn : la.length ≤ 100000000) (hm : lb.length ≤ 100000000) (hp : la = lb.take la.length) :
    Calls Try.prog 51 #[va, vb] w fun e w' => e = .returned (.bool true) ∧ Kept Kno w w' := by
  have hll : la.length ≤ lb.length := by have h9 := congrArg List.length hp; rw [List.length_take] at h9; omega
  have HA := Lib.hid ha
  have HB := Lib.hid hb
  have HP := Lib.hid hp
  obtain ⟨Aa, capa, rfl, hca⟩ := ha.form
  obtain ⟨Ab, capb, rfl, hcb⟩ := hb.form
  have h1 : (la.length : Int) ≤ (lb.length : Int) := by omega
  have p1 : la.length ≤ capb := by omega
  have p2 : (la.length : Int) ≤ (capb : Int) := by omega
  have p3 : (0 : Int) ≤ (la.length : Int) := by omega
  clear ha hb hp
  go_enter Try.func51, Try.ntmps51
  go_wp2_with fail
  refine (same_j _ _ xs _ la (lb.take la.length) w HA.out (HB.out.cut2 hll) hn (by rw [List.length_take]; omega)).mono ?_
  rw [decide_eq_true HP.out]
  rintro e w1 ⟨rfl, hk⟩
  go_wp2
  go_ret
  exact ⟨rfl, hk⟩

end Go.Proofs.Yteoodgcpkgfomaa
/-
  Journal: the plain law of what survives a crash. No program in sight.
-/
namespace Go.Proofs.Yteoodgcpkgfomaa
open Go.RowKit
set_option linter.unusedVariables false

/-- The journal is alive: its file holds its records; the first m of them are synced. -/
structure Alive (s : JA) (m : Nat) : Prop where
  off : s.off = false
  aoff : s.a.off = false
  len : s.a.fs.length = 8
  file : (s.a.file 0).1 = frames s.rs
  short : Short s.rs
  le : m ≤ s.rs.length
  sync : (frames (s.rs.take m)).length ≤ (s.a.file 0).2
/-- What a crash finds: the file holds a beginning of the records 'there', of which those of 'safe' are synced. -/
structure Left (a : Ab) (safe there : List (List UInt8)) : Prop where
  len : a.fs.length = 8
  short : Short there
  ex : ∃ j m, m ≤ j ∧ j ≤ there.length ∧ (a.file 0).1 = frames (there.take j) ∧ safe = there.take m ∧ (frames safe).length ≤ (a.file 0).2

theorem Alive.left {s : JA} {m : Nat} (h : Alive s m) : Left s.a (s.rs.take m) s.rs := ⟨h.len, h.short, s.rs.length, m, h.le, Nat.le_refl _, by rw [List.take_length]; exact h.file, rfl, h.sync⟩

theorem gate_cases (a : Ab) (t : Bool) (x : List UInt8 × Nat) (hl : a.fs.length = 8) :
    (∃ p, gateOf a t 0 x = (⟨a.room, a.fs.set 0 x, a.off, p⟩, 0)) ∨ gateOf a t 0 x = (⟨a.room, if t then a.fs.set 0 x else a.fs, true, 0⟩, 220) := by
  unfold gateOf
  split
  · exact .inl ⟨_, rfl⟩
  · split
    · exact .inr rfl
    · exact .inl ⟨_, rfl⟩
theorem file_set (r : Int) (fs : List (List UInt8 × Nat)) (x : List UInt8 × Nat) (o : Bool) (p : Int) (hl : fs.length = 8) : (⟨r, fs.set 0 x, o, p⟩ : Ab).file 0 = x := by
  simp only [Ab.file, List.getD]
  rw [List.getElem?_set_self (by omega)]
  rfl
theorem take_append_le {α : Type} (l t : List α) {m : Nat} (h : m ≤ l.length) : (l ++ t).take m = l.take m := List.take_append_of_le_length h

theorem done0 (s : JA) (a : Ab) (rs : List (List UInt8)) : s.done (a, 0) rs = (⟨a, rs, false⟩, 0) := rfl
theorem done220 (s : JA) (a : Ab) (rs : List (List UInt8)) : s.done (a, 220) rs = (⟨a, s.rs, true⟩, 220) := rfl

theorem alive_step {s : JA} {m : Nat} (h : Alive s m) (kind n : Int) (l : List UInt8) (bs : List (List UInt8)) (h1 : 1 ≤ kind) (h4 : kind ≤ 4) (hl : l.length ≤ 1048576) (hb : Short bs) :
    ((s.play 0 kind n l bs).2 = 220 → (s.play 0 kind n l bs).1.rs = s.rs ∧ Left (s.play 0 kind n l bs).1.a (s.rs.take m) (if kind = 1 then s.rs ++ [l] else s.rs)) ∧
    ((s.play 0 kind n l bs).2 ≠ 220 → ∃ m', Alive (s.play 0 kind n l bs).1 m' ∧ (s.play 0 kind n l bs).1.rs.take m' = if (s.play 0 kind n l bs).2 = 0 ∧ 1 < kind then (s.play 0 kind n l bs).1.rs else s.rs.take m) := by
  obtain ⟨⟨room, fs, aoff, plan⟩, rs, off⟩ := s
  obtain ⟨a1, a2, a3, a4, a5, a6, a7⟩ := h
  simp only at a1 a2 a3 a4 a5 a6 a7
  subst a1 a2
  have hck : ∀ o : Int, checkOf false 0 = 0 := fun _ => rfl
  have stay : ∀ (c : Int), c ≠ 220 → c ≠ 0 → ((c = 220 → rs = rs ∧ Left (⟨room, fs, false, plan⟩ : Ab) (rs.take m) (if kind = 1 then rs ++ [l] else rs)) ∧
      (c ≠ 220 → ∃ m', Alive ⟨⟨room, fs, false, plan⟩, rs, false⟩ m' ∧ rs.take m' = if c = 0 ∧ 1 < kind then rs else rs.take m)) := fun c c1 c2 =>
    ⟨fun e => absurd e c1, fun _ => ⟨m, ⟨rfl, rfl, a3, a4, a5, a6, a7⟩, by rw [if_neg (fun h => c2 h.1)]⟩⟩
  have hk : kind = 1 ∨ kind = 2 ∨ kind = 3 ∨ kind = 4 := by omega
  unfold JA.play
  rcases hk with rfl | rfl | rfl | rfl
  · rw [if_pos rfl]
    simp only [JA.append, Bool.false_eq_true, if_false, if_neg (show ¬ 1048576 < l.length by omega)]
    unfold Ab.append
    simp only [checkOf, Bool.false_eq_true, if_false, Int.reduceLE, Int.reduceLT, or_self, ne_eq, not_true_eq_false, Int.toNat_zero]
    split
    · exact stay 221 (by decide) (by decide)
    · rcases gate_cases ⟨room, fs, false, plan⟩ true (((⟨room, fs, false, plan⟩ : Ab).file 0).1 ++ frame l, ((⟨room, fs, false, plan⟩ : Ab).file 0).2) a3 with ⟨p, e⟩ | e
      · rw [e, a4, done0]
        refine ⟨fun h => absurd h (show ¬ (0 : Int) = 220 by decide), fun _ => ⟨m, ⟨rfl, rfl, by simp [a3], ?_, ?_, ?_, ?_⟩, ?_⟩⟩
        · rw [file_set _ _ _ _ _ a3, frames_snoc]
        · exact a5.append (Short.one hl)
        · simp; omega
        · rw [file_set _ _ _ _ _ a3, take_append_le _ _ a6]
          exact a7
        · rw [if_neg (fun h => absurd h.2 (by decide))]
          exact take_append_le _ _ a6
      · rw [e, a4, done220]
        refine ⟨fun _ => ⟨rfl, ?_⟩, fun h => absurd rfl h⟩
        simp only [if_true]
        refine ⟨by simp [a3], a5.append (Short.one hl), rs.length + 1, m, by omega, by simp, ?_, ?_, ?_⟩
        · rw [file_set _ _ _ _ _ a3, List.take_of_length_le (by simp), frames_snoc]
        · rw [take_append_le _ _ a6]
        · rw [file_set _ _ _ _ _ a3]
          exact a7
  · rw [if_neg (by decide), if_pos rfl]
    simp only [JA.sync, Bool.false_eq_true, if_false]
    unfold Ab.sync
    simp only [checkOf, Bool.false_eq_true, if_false, Int.reduceLE, Int.reduceLT, or_self, ne_eq, not_true_eq_false, Int.toNat_zero]
    rcases gate_cases ⟨room, fs, false, plan⟩ false (((⟨room, fs, false, plan⟩ : Ab).file 0).1, ((⟨room, fs, false, plan⟩ : Ab).file 0).1.length) a3 with ⟨p, e⟩ | e
    · rw [e, a4, done0]
      refine ⟨fun h => absurd h (show ¬ (0 : Int) = 220 by decide), fun _ => ⟨rs.length, ⟨rfl, rfl, by simp [a3], ?_, a5, Nat.le_refl _, ?_⟩, ?_⟩⟩
      · rw [file_set _ _ _ _ _ a3]
      · rw [file_set _ _ _ _ _ a3, List.take_length]
        exact Nat.le_refl _
      · rw [if_pos ⟨rfl, by decide⟩]
        exact List.take_length
    · rw [e, done220]
      refine ⟨fun _ => ⟨rfl, ?_⟩, fun h => absurd rfl h⟩
      rw [if_neg (show ¬ (2 : Int) = 1 by decide)]
      exact ⟨a3, a5, rs.length, m, a6, Nat.le_refl _, by rw [List.take_length]; exact a4, rfl, a7⟩
  · rw [if_neg (by decide), if_neg (by decide), if_pos rfl]
    simp only [JA.trunc, Bool.false_eq_true, if_false]
    split
    · exact stay 1 (by decide) (by decide)
    · rename_i hn
      obtain ⟨q, rfl⟩ : ∃ q : Nat, n = q := ⟨n.toNat, by omega⟩
      have hq : q ≤ rs.length := by omega
      rw [Int.toNat_natCast]
      unfold Ab.trunc
      have hle := frames_take_le rs q
      simp only [checkOf, Bool.false_eq_true, if_false, Int.reduceLE, Int.reduceLT, or_self, ne_eq, not_true_eq_false, Int.toNat_zero, Int.toNat_natCast]
      rw [a4, if_neg (by omega), frames_take]
      rcases gate_cases ⟨room, fs, false, plan⟩ false (frames (rs.take q), (frames (rs.take q)).length) a3 with ⟨p, e⟩ | e
      · rw [e, done0]
        refine ⟨fun h => absurd h (show ¬ (0 : Int) = 220 by decide), fun _ => ⟨(rs.take q).length, ⟨rfl, rfl, by simp [a3], ?_, a5.take q, Nat.le_refl _, ?_⟩, ?_⟩⟩
        · rw [file_set _ _ _ _ _ a3]
        · rw [file_set _ _ _ _ _ a3, List.take_length]
          exact Nat.le_refl _
        · rw [if_pos ⟨rfl, by decide⟩]
          exact List.take_length
      · rw [e, done220]
        refine ⟨fun _ => ⟨rfl, ?_⟩, fun h => absurd rfl h⟩
        rw [if_neg (show ¬ (3 : Int) = 1 by decide)]
        exact ⟨a3, a5, rs.length, m, a6, Nat.le_refl _, by rw [List.take_length]; exact a4, rfl, a7⟩
  · rw [if_neg (by decide), if_neg (by decide), if_neg (by decide), if_pos rfl]
    simp only [JA.rewrite, Bool.false_eq_true, if_false]
    rw [any_short hb, if_neg (by decide)]
    unfold Ab.replace
    simp only [checkOf, Bool.false_eq_true, if_false, Int.reduceLE, Int.reduceLT, or_self, ne_eq, not_true_eq_false, Int.toNat_zero]
    split
    · exact stay 221 (by decide) (by decide)
    · rcases gate_cases ⟨room, fs, false, plan⟩ false (frames bs, (frames bs).length) a3 with ⟨p, e⟩ | e
      · rw [e, done0]
        refine ⟨fun h => absurd h (show ¬ (0 : Int) = 220 by decide), fun _ => ⟨bs.length, ⟨rfl, rfl, by simp [a3], ?_, hb, Nat.le_refl _, ?_⟩, ?_⟩⟩
        · rw [file_set _ _ _ _ _ a3]
        · rw [file_set _ _ _ _ _ a3, List.take_length]
          exact Nat.le_refl _
        · rw [if_pos ⟨rfl, by decide⟩]
          exact List.take_length
      · rw [e, done220]
        refine ⟨fun _ => ⟨rfl, ?_⟩, fun h => absurd rfl h⟩
        rw [if_neg (show ¬ (4 : Int) = 1 by decide)]
        exact ⟨a3, a5, rs.length, m, a6, Nat.le_refl _, by rw [List.take_length]; exact a4, rfl, a7⟩

theorem left_opens {a : Ab} {safe there : List (List UInt8)} (h : Left a safe there) (hs : (a.file 0).2 ≤ (a.file 0).1.length) (ks : List Int) :
    ∃ a' L, jopen (a.crash ks) 0 = (a', 0, some L) ∧ safe = L.take safe.length ∧ L = there.take L.length := by
  obtain ⟨h1, h2, j, m, h3, h4, h5, h6, h7⟩ := h
  have hcalm : Calm (a.crash ks) := ⟨rfl, rfl, by show (crashTo 8 a.fs ks).length = 8; rw [crashTo_length, h1]⟩
  have hf : (a.crash ks).file 0 = crashF (a.file 0) ks[0]? := by
    simp only [Ab.file, Ab.crash, List.getD]
    rw [crashTo_at, List.getElem?_eq_getElem (l := a.fs) (i := 0) (by omega)]
    rfl
  obtain ⟨c, hc1, hc2, hc3⟩ : ∃ c, ((a.crash ks).file 0).1 = (frames (there.take j)).take c ∧ (a.file 0).2 ≤ c ∧ c ≤ (frames (there.take j)).length := by
    refine ⟨crashN (a.file 0) ks[0]?, by rw [hf]; show (a.file 0).1.take _ = _; rw [h5], ?_, ?_⟩
    · unfold crashN
      split
      · exact Nat.le_refl _
      · exact Nat.le_add_right _ _
    · rw [← h5]
      unfold crashN
      split
      · exact hs
      · rename_i x _
        have := Nat.min_le_right x.toNat ((a.file 0).1.length - (a.file 0).2)
        omega
  obtain ⟨k, hcut⟩ := scan_cut (there.take j) c (h2.take j) hc3
  rw [← hc1] at hcut
  obtain ⟨a', e1, -⟩ := jopen_calm (f := 0) hcalm (by omega) hcut
  obtain ⟨k1, k2, k3, k4, k5, k6⟩ := hcut
  have hlen : (there.take j).length = j := by rw [List.length_take]; omega
  rw [hlen] at k1 k6
  have hmk : m ≤ k := by
    rcases Nat.lt_or_ge k m with hlt | hge
    · have h8 := k6 (by omega)
      rw [hc1, List.length_take, Nat.min_eq_left hc3] at h8
      rw [h6] at h7
      have h9 : (frames ((there.take j).take (k + 1))).length ≤ (frames (there.take m)).length := by
        rw [List.take_take, Nat.min_eq_left (by omega)]
        have := frames_take_le (there.take m) (k + 1)
        rw [List.take_take, Nat.min_eq_left (by omega)] at this
        exact this
      omega
    · exact hge
  have eL : (there.take j).take k = there.take k := by rw [List.take_take, Nat.min_eq_left k1]
  rw [eL] at e1
  refine ⟨a', _, e1, ?_, ?_⟩
  · have hsl : safe.length = m := by rw [h6, List.length_take]; omega
    rw [hsl, List.take_take, Nat.min_eq_left hmk, h6]
  · rw [List.length_take, Nat.min_eq_left (by omega)]

end Go.Proofs.Yteoodgcpkgfomaa
/-
  The reference's journal: possible, frames, Scan.
-/
namespace Go.Proofs.Yteoodgcpkgfomaa
open Go.RowKit
set_option linter.unusedVariables false

theorem and_top (a : Nat) (h : a < 256) : a &&& 128 = if a < 128 then 0 else 128 := by
  have h1 : ∀ x : Fin 256, x.val &&& 128 = if x.val < 128 then 0 else 128 := by decide +kernel
  exact h1 ⟨a, h⟩
theorem poss_nat (a b c : Nat) (ha : a < 256) (hb : b < 256) (hc : c < 256) : ((a &&& b &&& c &&& 128) = 0) ↔ (a < 128 ∨ b < 128 ∨ c < 128) := by
  have e : a &&& b &&& c &&& 128 = (a &&& 128) &&& ((b &&& 128) &&& (c &&& 128)) := by
    apply Nat.eq_of_testBit_eq
    intro i
    simp only [Nat.testBit_and]
    cases a.testBit i <;> cases b.testBit i <;> cases c.testBit i <;> cases Nat.testBit 128 i <;> rfl
  rw [e, and_top a ha, and_top b hb, and_top c hc]
  by_cases h1 : a < 128 <;> by_cases h2 : b < 128 <;> by_cases h3 : c < 128 <;> simp [h1, h2, h3]

theorem bits_and_u8_nat (a b : Nat) (ha : a < 256) (hb : b < 256) : bits .and .u8 (a : Int) (b : Int) = ((a &&& b : Nat) : Int) := by
  have hx : a &&& b < 256 := Nat.lt_of_le_of_lt Nat.and_le_left ha
  have h1 : (BitVec.ofInt 8 (a : Int)).toNat = a := by
    rw [BitVec.ofInt_natCast, BitVec.toNat_ofNat]; exact Nat.mod_eq_of_lt (by omega)
  have h2 : (BitVec.ofInt 8 (b : Int)).toNat = b := by
    rw [BitVec.ofInt_natCast, BitVec.toNat_ofNat]; exact Nat.mod_eq_of_lt (by omega)
  show IntKind.u8.wrap ((BitVec.ofInt 8 (a : Int) &&& BitVec.ofInt 8 (b : Int)).toNat : Int) = _
  rw [BitVec.toNat_and, h1, h2, IntKind.wrap_u8]
  omega

set_option maxHeartbeats 1000000 in
theorem possible_any (v : Value) (s : List UInt8) (w : World) (hb : Bs w v s) (hl : s.length ≤ 1000000) :
    Calls Try.prog 82 #[v] w fun e w' => e = .returned (.bool (possB s)) ∧ Kept Kno w w' := by
  obtain ⟨A, cap, rfl, hlc, hx, hn, hc⟩ := hb
  by_cases h3 : s.length < 3
  · have hp : possB s = true := by
      match s, h3 with
      | [], _ => rfl
      | [a], _ => rfl
      | [a, b], _ => rfl
      | a :: b :: c :: r, h3 => simp at h3; omega
    rw [hp]
    have h3' : (s.length : Int) < 3 := by omega
    clear hx hn hc hp
    go_enter Try.func82, Try.ntmps82
    go_wp2_with fail
    go_quiet (fail)
    go_wp2
    go_ret
    exact ⟨rfl, Kept.drewN (Kept.refl _ _) _⟩
  · match s, h3 with
    | [], h3 => simp at h3
    | [a], h3 => simp at h3
    | [a, b], h3 => simp at h3
    | a :: b :: c :: r, h3 =>
      rcases A with _ | ad
      · have := (hn rfl).1; simp at this
      · have c0 := hc ad rfl 0 (bv a) rfl
        have c1 := hc ad rfl 1 (bv b) rfl
        have c2 := hc ad rfl 2 (bv c) rfl
        have hs := World.cell?_spot c0
        obtain ⟨g, o, spot⟩ := ad
        have hs' : spot = none := by simpa [Addr.add] using hs
        subst hs'
        rw [add_lit0] at c0 c1 c2
        rw [Nat.add_zero] at c0
        generalize hL : (a :: b :: c :: r).length = L at hlc hl h3
        have h3' : ¬ (L : Int) < 3 := by omega
        have g1 : (0 : Int) < (L : Int) := by omega
        have g2 : (1 : Int) < (L : Int) := by omega
        have g3 : (2 : Int) < (L : Int) := by omega
        have g1' : 0 < L := by omega
        have g2' : 1 < L := by omega
        have g3' : 2 < L := by omega
        have ha := a.toNat_lt
        have hb' := b.toNat_lt
        have hc' := c.toNat_lt
        simp only [bv] at c0 c1 c2
        have HP : Hid (possB (a :: b :: c :: r) = decide (a.toNat < 128 ∨ b.toNat < 128 ∨ c.toNat < 128)) := Lib.hid rfl
        generalize possB (a :: b :: c :: r) = pb at HP
        have HN := Lib.hid (poss_nat a.toNat b.toNat c.toNat ha hb' hc')
        clear hx hn hc hs hL
        generalize a.toNat = na at *
        generalize b.toNat = nb at *
        generalize c.toNat = nc at *
        go_enter Try.func82, Try.ntmps82
        go_wp2_with fail
        go_quiet (fail)
        go_wp2
        go_ret
        have q1 := bits_and_u8_nat na nb ha hb'
        have l1 : na &&& nb < 256 := Nat.lt_of_le_of_lt Nat.and_le_left ha
        have q2 := bits_and_u8_nat (na &&& nb) nc l1 hc'
        have l2 : na &&& nb &&& nc < 256 := Nat.lt_of_le_of_lt Nat.and_le_left l1
        have q3 := bits_and_u8_nat (na &&& nb &&& nc) 128 l2 (by decide)
        have q3' : bits .and .u8 ((na &&& nb &&& nc : Nat) : Int) 128 = ((na &&& nb &&& nc &&& 128 : Nat) : Int) := q3
        refine ⟨?_, Kept.drewN (Kept.refl _ _) _⟩
        show Ending.returned (.bool (decide ((L : Int) < 3) || bits .and .u8 (bits .and .u8 (bits .and .u8 (na : Int) nb) nc) 128 == 0)) = _
        rw [q1, q2, q3', HP.out, decide_eq_false (show ¬ (L : Int) < 3 by omega), Bool.false_or]
        congr 2
        rw [Bool.eq_iff_iff]
        simp only [beq_iff_eq, decide_eq_true_eq]
        rw [← HN.out]
        omega

def RFrRel (R : List (List UInt8)) (w1 : World) (all i : Value) (wr : World) : Prop :=
  ∃ (k : Nat) (A : Option Addr) (cap : Nat), k ≤ R.length ∧ i = .int .i64 (k : Nat) ∧ all = .slice A (frames (R.take k)).length cap ∧ OwnB wr w1.heap.size 5 (.slice A (frames (R.take k)).length cap) (frames (R.take k)) ∧ Kept Kno w1 wr

set_option maxHeartbeats 2000000 in
theorem rframes_any (v : Value) (us : List Value) (R : List (List UInt8)) (w : World) (h : LsR w v us R) (hf : (frames R).length ≤ 10000000) :
    Calls Try.prog 75 #[v] w (RetB (frames R) w) := by
  have HL := Lib.hid h
  have hRl : R.length ≤ 10000000 := Nat.le_trans (frames_ge R) hf
  obtain ⟨A0, c0, rfl, hc0⟩ := h.form
  clear h
  go_enter Try.func75, Try.ntmps75
  go_wp2_with fail
  go_loopw [3, 8] (fun all i wr => RFrRel R w all i wr) (fun _ i _ => R.length - (intOf i).toNat)
  case atStart => exact ⟨0, none, 0, by omega, rfl, rfl, World.ownsRow_nil _ _ _ _, Kept.refl _ _⟩
  case round =>
    obtain ⟨k, A, cap, hk, rfl, rfl, hall, hkk⟩ := hrel
    have HALL := Lib.hid hall
    have HKK := Lib.hid hkk
    clear hall
    by_cases hlt : k < R.length
    · have hR := HL.out.kept0 hkk
      obtain ⟨g, o, c9, x, hv, hx, hcell⟩ := hR.at hlt
      injection hv with e1 e2 e3
      subst e1 e3
      have hbk : R[k]? = some R[k] := List.getElem?_eq_getElem hlt
      have hml := mem_frames (List.getElem_mem hlt)
      generalize R[k] = b at hbk hml
      have hbs := hR.2 k x b hx hbk
      have t1 := run_string_bs (P := Try.prog) 30 9 5 hbs Try.underlying30 Try.underlying5 Try.underlying9
      obtain ⟨Ax, cx, rfl, -⟩ := hbs
      have HBK := Lib.hid hbk
      have hfl2 : (frames (R.take (k + 1))).length ≤ 10000000 := Nat.le_trans (frames_take_le R (k + 1)) hf
      rw [take_snocr hbk, frames_snoc, List.length_append, frame_length] at hfl2
      have hkz : (0 : Int) ≤ (k : Int) := by omega
      have hk1 : (k : Int) < (R.length : Int) := by omega
      have HFL := Lib.hid hfl2
      clear hR hx hbk hkk e2 hfl2
      go_wp2_with fail
      have hat := refAppendText_any (.slice A (frames (R.take k)).length cap) (frames (R.take k)) ⟨b.toArray⟩ wr (OwnB.bs HALL.out) (by have := HFL.out; show (frames (R.take k)).length + b.length ≤ 16000000; omega)
      have ef : frames (R.take k) ++ (leb (⟨b.toArray⟩ : ByteArray).size ++ sbytes ⟨b.toArray⟩) = frames (R.take (k + 1)) := by rw [take_snocr HBK.out, frames_snoc]; rfl
      rw [ef] at hat
      refine hat.mono ?_
      rintro e w9 ⟨A9, cap9, rfl, hown9, hk9⟩
      have HO9 := Lib.hid hown9
      clear hown9 hat ef t1
      go_wp2
      go_roundw
      case rel => exact ⟨k + 1, A9, cap9, by omega, by go_num, rfl, own_rebase HO9.out (fun q e => Nat.le_trans HKK.out.size (own_base HO9.out e).1), HKK.out.then0 hk9⟩
      case measure => simp [intOf]; omega
    · have hk1 : ¬ (k : Int) < (R.length : Int) := by omega
      obtain rfl : k = R.length := by omega
      have HALL2 : Hid (OwnB wr w.heap.size 5 (.slice A (frames R).length cap) (frames R)) := Lib.hid (by have h9 := HALL.out; rw [List.take_length] at h9; exact h9)
      rw [List.take_length]
      clear HALL
      go_wp2
      go_ret
      exact ⟨A, cap, rfl, HALL2.out, hkk⟩

/-- The reference's word for a whole file, or one that ends too early. -/
def scanOk (l : List UInt8) : Bool := decide ((scan l).2.2 = 0) || (decide ((scan l).2.2 = 20) && possB (l.drop (scan l).2.1))
def ScanOk (l : List UInt8) (w : World) (e : Ending) (w' : World) : Prop :=
  ∃ A cap us, e = .returned (.tuple #[.slice A (scan l).1.length cap, .int .i64 ((scan l).2.1 : Nat), .bool (scanOk l)]) ∧ RR w' w.heap.size (.slice A (scan l).1.length cap) us (scan l).1 ∧ Kept Kno w w'
def ScanRel (l : List UInt8) (w : World) (recs at_ : Value) (wr : World) : Prop :=
  ∃ (k : Nat) (rs : List (List UInt8)) (A : Option Addr) (cap : Nat) (us : List Value), at_ = .int .i64 (k : Nat) ∧ recs = .slice A rs.length cap ∧ k ≤ l.length ∧ k = (frames rs).length ∧ RR wr w.heap.size (.slice A rs.length cap) us rs ∧ Kept Kno w wr ∧ scan l = (rs ++ (scan (l.drop k)).1, k + (scan (l.drop k)).2.1, (scan (l.drop k)).2.2)

theorem Bs.drop {w : World} {A : Option Addr} {cap m : Nat} {l : List UInt8} (h : Bs w (.slice A l.length cap) l) (hm : m ≤ l.length) : Bs w (sliced A m l.length cap 1) (l.drop m) := by
  obtain ⟨A', cap', hv, h1, h2, h3, h4⟩ := h
  injection hv with hA hn hc
  subst hA hc
  unfold sliced
  have e : (l.drop m).length = l.length - m := List.length_drop
  refine ⟨_, _, by rw [e], by rw [e]; omega, by rw [List.length_map]; omega, fun hA => ?_, fun ad hA j u hj => ?_⟩
  · rw [e]
    split at hA
    · rename_i hcm
      have := h3 hA; omega
    · cases A with
      | none => have := h3 rfl; omega
      | some x => cases hA
  · have hjl : j < (l.drop m).length := by have := (List.getElem?_eq_some_iff.1 hj).1; simpa using this
    split at hA
    · omega
    · cases A with
      | none => cases hA
      | some x =>
        simp only [Option.map_some, Option.some.injEq, Nat.mul_one] at hA
        subst hA
        rw [add_of_add]
        refine h4 x rfl (m + j) u ?_
        rw [List.map_drop, List.getElem?_drop] at hj
        exact hj

end Go.Proofs.Yteoodgcpkgfomaa
