/-
  Contracts and plain laws that the claim's theorem rests on, some texts in one file.
-/
import Derived.Test.YtffdaohmalmkfaaGreatM21
import Derived.Deep.RegionHeld3
/-
  Packet's reference: the writers of numbers, counts, bools, values, rows, lists of numbers, operands.
-/
namespace Go.Proofs.YtffdaohmalmkfaaGreat
open Go.RowKit
set_option linter.unusedVariables false

/-- What a call that appends to the row b leaves: only b's row has changed, and the new row is that one or new. -/
structure BStep (b : Value) (w : World) (b' : Value) (w' : World) : Prop where
  k : Kept (Kown b) w w'
  at_ : ∀ k, b'.ownBlock = some k → b.ownBlock = some k ∨ w.heap.size ≤ k
theorem BStep.refl (b : Value) (w : World) : BStep b w b w := ⟨Kept.refl _ _, fun k h => .inl h⟩
theorem BStep.new {b : Value} {w w' : World} (hk : Kept Kno w w') : BStep b w b w' := ⟨hk.mono (fun _ _ h => h.elim), fun k h => .inl h⟩
theorem BStep.trans {b b1 b2 : Value} {w w1 w2 : World} (h : BStep b w b1 w1) (h2 : BStep b1 w1 b2 w2) : BStep b w b2 w2 := by
  have hs := h.k.size
  refine ⟨h.k.trans h2.k (fun i hi hk => ?_), fun k hk => ?_⟩
  · rcases h.at_ i hk with h | h
    · exact h
    · omega
  · rcases h2.at_ k hk with hk | hk
    · exact h.at_ k hk
    · exact .inr (by omega)
theorem BStep.then0 {b b1 : Value} {w w1 w2 : World} (h : BStep b w b1 w1) (hk : Kept Kno w1 w2) : BStep b w b1 w2 := h.trans (.new hk)
/-- The row b has become m. -/
def AppOk (base : Nat) (b : Value) (m : List UInt8) (w : World) (e : Ending) (w' : World) : Prop :=
  ∃ A cap, e = .returned (.slice A m.length cap) ∧ OwnB w' base 5 (.slice A m.length cap) m ∧ BStep b w (.slice A m.length cap) w'
theorem AppOk.after {base : Nat} {b b1 : Value} {m : List UInt8} {w w1 w2 : World} {e : Ending} (h : BStep b w b1 w1) (h2 : AppOk base b1 m w1 e w2) : AppOk base b m w e w2 := by
  obtain ⟨A, cap, a, c, d⟩ := h2
  exact ⟨A, cap, a, c, h.trans d⟩
/-- What lies below base is as it was. -/
theorem BStep.old {base : Nat} {b b' : Value} {w w' : World} {l : List UInt8} (h : BStep b w b' w') (hb : OwnB w base 5 b l) (hB : base ≤ w.heap.size) : Old base w w' :=
  h.k.old hB (fun k hk hs => by have := (own_base hb hs).1; omega)
/-- A block that the appending leaves alone. -/
structure GdB (w : World) (v : Value) (g : Nat) (t : TypeId) (cs : Array Value) : Prop where
  b : Blk w g t cs
  no : v.ownBlock ≠ some g
theorem GdB.step {w w' : World} {g : Nat} {b b' : Value} {t : TypeId} {cs : Array Value} (h : GdB w b g t cs) (hs : BStep b w b' w') : GdB w' b' g t cs := by
  have hlt := h.b.lt
  refine ⟨h.b.kept hs.k h.no, fun hk => ?_⟩
  rcases hs.at_ g hk with h2 | h2
  · exact h.no h2
  · omega
theorem GdB.new {w : World} {base : Nat} {b : Value} {l : List UInt8} (h : OwnB w base 5 b l) (cs : Array Value) (t : TypeId) : GdB (w.alloc (.cells cs t)) b w.heap.size t cs :=
  ⟨Blk.new _ _ _, fun hk => by have := (own_base h hk).2; omega⟩

theorem grow_app {base m : Nat} {A A2 : Option Addr} {cap cap2 : Nat} {l news : List UInt8} {w w1 w2 : World} (ho : OwnB w base 5 (.slice A l.length cap) l) (hk : Kept Kno w w1) (hm : news.length = m)
    (hown2 : w2.ownsRow base 5 1 (.slice A2 (l.length + m) cap2) (l.length + m) (l.map bv ++ news.map bv)) (hg2 : w1.grownBy w2 (Value.slice A l.length cap).ownBlock)
    (hat2 : (Value.slice A2 (l.length + m) cap2).ownBlock = (Value.slice A l.length cap).ownBlock ∨ (Value.slice A2 (l.length + m) cap2).ownBlock = some w1.heap.size) :
    AppOk base (.slice A l.length cap) (l ++ news) w (.returned (.slice A2 (l.length + m) cap2)) w2 := by
  have hs := hk.size
  have e : (l ++ news).length = l.length + m := by rw [List.length_append, hm]
  refine ⟨A2, cap2, by rw [e], ?_, ?_, fun k hk2 => ?_⟩
  · unfold OwnB
    rw [e, List.map_append]
    exact hown2
  · exact (hk.mono (T := Kown (.slice A l.length cap)) (fun _ _ h => h.elim)).grown hg2 (fun k _ h => h)
  · rw [e] at hk2
    rcases hat2 with h | h
    · rw [h] at hk2; exact .inl hk2
    · rw [h] at hk2; injection hk2 with hk2; exact .inr (by omega)

theorem xAppendInt_nil (n : Int) (w : World) (hn : I64 n) : Calls Tryz.prog 200 #[.slice none 0 0, .int .i64 n] w (RetB (inum n) w) := refAppendInt_any _ [] n w (bs_nil _) hn.1 hn.2 (by simp)
theorem xAppendUint_nil (n : Nat) (w : World) (hn : n < 18446744073709551616) : Calls Tryz.prog 206 #[.slice none 0 0, .int .u64 n] w (RetB (leb n) w) := refAppendUint_any _ [] n w (bs_nil _) hn (by simp)

set_option maxRecDepth 100000 in
set_option maxHeartbeats 1000000 in
theorem xnumber_any (base : Nat) (b : Value) (l : List UInt8) (n : Int) (w : World) (h : OwnB w base 5 b l) (hn : I64 n) (hl : l.length ≤ 1000000000000) (hb : base ≤ w.heap.size) :
    Calls Tryz.prog 102 #[b, .int .i64 n] w (AppOk base b (l ++ inum n) w) := by
  obtain ⟨i0, hi, hz0, hz1, hz2⟩ := info_parts info_byte
  have H := Lib.hid h
  have HN := Lib.hid hn
  have hlen := (inum_length n).2
  obtain ⟨A, cap, rfl⟩ := own_form h
  have m1 : l.length + (inum n).length ≤ maxLen := by simp only [maxLen]; omega
  have m2 : (l.length + (inum n).length) * 1 ≤ 140737488355328 := by omega
  clear h hn
  go_enter Tryz.func102, Tryz.ntmps102
  go_wp2_with fail
  refine (xAppendInt_nil n w HN.out).mono ?_
  rintro e w1 ⟨A1, cap1, rfl, hown, hk⟩
  have HO1 : Hid (OwnB w1 w.heap.size 5 (.slice A1 (inum n).length cap1) (inum n)) := Lib.hid hown
  clear hown
  go_wp2_with (at_builtin; go_must (refine wpList_append_rd _ rfl _ _ 22 rfl base 5 i0 _ 1 1 Tryz.underlying22 hi hz0 hz1 hz2 rfl (by decide) (.slice A l.length cap) l.length (l.map bv) rfl (own_kept H.out hk (fun _ _ h => h)) (.slice A1 (inum n).length cap1) (inum n).length ((inum n).map bv) rfl HO1.out.bs (bvs_one _) m1 m2 (by have := hk.size; omega) ?_); intro A2 cap2 w2 hown2 hg2 hat2)
  have HX := Lib.hid (grow_app H.out hk rfl hown2 hg2 hat2)
  clear hown2 hg2 hat2
  go_ret
  exact HX.out

set_option maxRecDepth 100000 in
set_option maxHeartbeats 1000000 in
theorem xcount_any (base : Nat) (b : Value) (l : List UInt8) (n : Nat) (w : World) (h : OwnB w base 5 b l) (hn : n ≤ 9223372036854775807) (hl : l.length ≤ 1000000000000) (hb : base ≤ w.heap.size) :
    Calls Tryz.prog 112 #[b, .int .i64 n] w (AppOk base b (l ++ leb n) w) := by
  obtain ⟨i0, hi, hz0, hz1, hz2⟩ := info_parts info_byte
  have H := Lib.hid h
  have hlen := (leb_length n).2
  obtain ⟨A, cap, rfl⟩ := own_form h
  have m1 : l.length + (leb n).length ≤ maxLen := by simp only [maxLen]; omega
  have m2 : (l.length + (leb n).length) * 1 ≤ 140737488355328 := by omega
  have hn0 : (0 : Int) ≤ (n : Int) := by omega
  have hn1 : (n : Int) ≤ 9223372036854775807 := by omega
  have hw0 : IntKind.u64.wrap (n : Int) = (n : Int) := by rw [IntKind.wrap_u64]; omega
  have HN : Hid (n < 18446744073709551616) := Lib.hid (by omega)
  clear h hn
  go_enter Tryz.func112, Tryz.ntmps112
  go_wp2_with fail
  refine (xAppendUint_nil n w HN.out).mono ?_
  rintro e w1 ⟨A1, cap1, rfl, hown, hk⟩
  have HO1 : Hid (OwnB w1 w.heap.size 5 (.slice A1 (leb n).length cap1) (leb n)) := Lib.hid hown
  clear hown
  go_wp2_with (at_builtin; go_must (refine wpList_append_rd _ rfl _ _ 22 rfl base 5 i0 _ 1 1 Tryz.underlying22 hi hz0 hz1 hz2 rfl (by decide) (.slice A l.length cap) l.length (l.map bv) rfl (own_kept H.out hk (fun _ _ h => h)) (.slice A1 (leb n).length cap1) (leb n).length ((leb n).map bv) rfl HO1.out.bs (bvs_one _) m1 m2 (by have := hk.size; omega) ?_); intro A2 cap2 w2 hown2 hg2 hat2)
  have HX := Lib.hid (grow_app H.out hk rfl hown2 hg2 hat2)
  clear hown2 hg2 hat2
  go_ret
  exact HX.out

set_option maxRecDepth 100000 in
set_option maxHeartbeats 1000000 in
theorem xtruth_any (base : Nat) (b : Value) (l : List UInt8) (x : Bool) (w : World) (h : OwnB w base 5 b l) (hl : l.length ≤ 1000000000000) (hb : base ≤ w.heap.size) :
    Calls Tryz.prog 106 #[b, .bool x] w (AppOk base b (l ++ ibool x) w) := by
  obtain ⟨i0, hi, hz0, hz1, hz2⟩ := info_parts info_byte
  have H := Lib.hid h
  obtain ⟨A, cap, rfl⟩ := own_form h
  have m1 : l.length + 1 ≤ maxLen := by simp only [maxLen]; omega
  have m2 : (l.length + 1) * 1 ≤ 140737488355328 := by omega
  clear h
  cases x with
  | true =>
    go_enter Tryz.func106, Tryz.ntmps106
    go_wp2_with (at_builtin; go_must (refine wpList_append_rd _ rfl _ _ 22 rfl base 5 i0 _ 1 1 Tryz.underlying22 hi hz0 hz1 hz2 rfl (by decide) (.slice A l.length cap) l.length (l.map bv) rfl (World.ownsRow.alloc H.out _) _ 1 [bv 1] rfl (Rd.one _ _ _ rfl) (by simp [Value.oneCell', bv]) m1 m2 (by simp; omega) ?_); intro A2 cap2 w2 hown2 hg2 hat2)
    have HX := Lib.hid (grow_app (news := [1]) H.out ((Kept.refl _ _).alloc _) rfl hown2 hg2 hat2)
    clear hown2 hg2 hat2
    go_ret
    exact HX.out
  | false =>
    go_enter Tryz.func106, Tryz.ntmps106
    go_wp2_with (at_builtin; go_must (refine wpList_append_rd _ rfl _ _ 22 rfl base 5 i0 _ 1 1 Tryz.underlying22 hi hz0 hz1 hz2 rfl (by decide) (.slice A l.length cap) l.length (l.map bv) rfl (World.ownsRow.alloc H.out _) _ 1 [bv 0] rfl (Rd.one _ _ _ rfl) (by simp [Value.oneCell', bv]) m1 m2 (by simp; omega) ?_); intro A2 cap2 w2 hown2 hg2 hat2)
    have HX := Lib.hid (grow_app (news := [0]) H.out ((Kept.refl _ _).alloc _) rfl hown2 hg2 hat2)
    clear hown2 hg2 hat2
    go_ret
    exact HX.out

theorem xAppendValue_nil (x : Val) (w : World) (hx : okVal x) (hv : validB x.kind x.n x.s = true) : Calls Tryz.prog 301 #[.slice none 0 0, x.v] w (RetE (venc x, 0) w) := by
  have h := refAppendValue_any _ [] x w (bs_nil _) hx (by simp)
  have e : valRes [] x = (venc x, 0) := by unfold valRes; rw [if_pos hv]; rfl
  rw [e] at h
  exact h

set_option maxRecDepth 100000 in
set_option maxHeartbeats 2000000 in
theorem xvalue_any (base : Nat) (b : Value) (l : List UInt8) (x : Val) (w : World) (h : OwnB w base 5 b l) (hx : okVal x) (hf : plainV x = true) (hl : l.length ≤ 1000000000000) (hb : base ≤ w.heap.size) :
    Calls Tryz.prog 280 #[b, x.v] w (AppOk base b (l ++ ival x) w) := by
  obtain ⟨i0, hi, hz0, hz1, hz2⟩ := info_parts info_byte
  have H := Lib.hid h
  obtain ⟨A, cap, rfl⟩ := own_form h
  obtain ⟨vk, vn, vs⟩ := x
  have HXO := Lib.hid hx
  simp only [Val.v]
  by_cases hz : valZ ⟨vk, vn, vs⟩ = true
  · have hv := valZ_is _ hz
    injection hv with e1 e2 e3
    subst e1 e2 e3
    have m1 : l.length + 1 ≤ maxLen := by simp only [maxLen]; omega
    have m2 : (l.length + 1) * 1 ≤ 140737488355328 := by omega
    have he : ival ⟨0, 0, ⟨#[]⟩⟩ = [0] := by kernel_rfl
    have HE := Lib.hid he
    clear h hf hz he hx
    go_enter Tryz.func280, Tryz.ntmps280
    go_wp2_with (at_builtin; go_must (refine wpList_append_rd _ rfl _ _ 22 rfl base 5 i0 _ 1 1 Tryz.underlying22 hi hz0 hz1 hz2 rfl (by decide) (.slice A l.length cap) l.length (l.map bv) rfl (World.ownsRow.alloc (World.ownsRow.alloc H.out _) _) _ 1 [bv 0] rfl (Rd.one' _ _ _ rfl (by simp)) (by simp [Value.oneCell', bv]) m1 m2 (by simp; omega) ?_); intro A2 cap2 w2 hown2 hg2 hat2)
    have HX := Lib.hid (grow_app (news := [0]) H.out (((Kept.refl _ _).alloc _).alloc _) rfl hown2 hg2 hat2)
    clear hown2 hg2 hat2
    go_ret
    rw [HE.out]
    exact HX.out
  · have hv : validB vk vn vs = true := by
      unfold plainV at hf
      simpa [hz] using hf
    have hk0 : (vk == 0) = false := by simpa using valid_kind ⟨vk, vn, vs⟩ hv
    have hle := venc_length ⟨vk, vn, vs⟩ hv
    have he : ival ⟨vk, vn, vs⟩ = venc ⟨vk, vn, vs⟩ := by unfold ival; rw [if_neg hz]
    have hcr : ∀ w', Calls Tryz.prog 301 #[.slice none 0 0, .agg #[.int .i64 vk, .int .i64 vn, .string vs]] w' (RetE (venc ⟨vk, vn, vs⟩, 0) w') := fun w' => xAppendValue_nil ⟨vk, vn, vs⟩ w' HXO.out hv
    obtain ⟨M, hM⟩ : ∃ M, M = venc ⟨vk, vn, vs⟩ := ⟨_, rfl⟩
    rw [← hM] at hcr hle he
    have HCR := Lib.hid hcr
    have HE := Lib.hid he
    have m1 : l.length + M.length ≤ maxLen := by simp only [maxLen]; omega
    have m2 : (l.length + M.length) * 1 ≤ 140737488355328 := by omega
    clear h hf hz he hx hv hcr hM
    go_enter Tryz.func280, Tryz.ntmps280
    go_wp2_with fail
    refine (HCR.out _).mono ?_
    rintro e w3 ⟨A1, cap1, rfl, hown, hk'⟩
    have hk : Kept Kno w w3 := ((Kept.refl Kno w).alloc _).then0 hk'
    have HO1 : Hid (Bs w3 (.slice A1 M.length cap1) M) := Lib.hid (OwnB.bs hown)
    clear hown hk'
    go_wp2_with (at_builtin; go_must (refine wpList_append_rd _ rfl _ _ 22 rfl base 5 i0 _ 1 1 Tryz.underlying22 hi hz0 hz1 hz2 rfl (by decide) (.slice A l.length cap) l.length (l.map bv) rfl (own_kept H.out hk (fun _ _ h => h)) (.slice A1 M.length cap1) M.length (M.map bv) rfl HO1.out (bvs_one _) m1 m2 (by have := hk.size; omega) ?_); intro A2 cap2 w4 hown2 hg2 hat2)
    have HX := Lib.hid (grow_app H.out hk rfl hown2 hg2 hat2)
    clear hown2 hg2 hat2
    go_ret
    rw [HE.out]
    exact HX.out

def XNumsRel (base : Nat) (b : Value) (l : List UInt8) (xs : List Int) (w : World) (b' i : Value) (wr : World) : Prop :=
  ∃ (k : Nat) (A : Option Addr) (cap : Nat) (m : List UInt8), k ≤ xs.length ∧ i = .int .i64 k ∧ b' = .slice A m.length cap ∧ m = l ++ leb xs.length ++ (xs.take k).flatMap inum ∧ OwnB wr base 5 (.slice A m.length cap) m ∧ BStep b w (.slice A m.length cap) wr

end Go.Proofs.YtffdaohmalmkfaaGreat
