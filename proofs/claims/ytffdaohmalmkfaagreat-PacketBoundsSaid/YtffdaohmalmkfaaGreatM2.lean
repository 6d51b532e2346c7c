/-
  Contracts and plain laws that the claim's theorem rests on, some texts in one file.
-/
import Derived.Test.YtffdaohmalmkfaaGreatM1
import Derived.Laws.IdiomStrings
import Derived.Lib.BufferRead
import Derived.Test.YtffdaohmalmkfaaGreatChecked
import Derived.Tactics
import Derived.Tactics2
import Derived.WalkKit
import Derived.WalkSpells
import Derived.WalkLawsBesides
import Derived.Deep.QuietTactic
import Derived.BigQuiet
import Derived.Deep.RegionHeld3
import Derived.Deep.RegionLaw
import Derived.Deep.DeepCutAuto
import Derived.Deep.DrawnRows
import Derived.Deep.LoopGhost
import Derived.LoopTactic
import Derived.IntWalk
import Derived.Lib.Hide
import Derived.Outline
import Derived.KernelRfl
/-
  More plain laws on memory: a row whose block is known whole, written inside its capacity. No program in sight.
-/
namespace Go.Proofs.YtffdaohmalmkfaaGreat
open Go.RowKit
set_option linter.unusedVariables false

section
variable {S : Nat → Prop} {a w : World} {g : Nat} {t : TypeId} {cs : Array Value}
theorem Kept.setRow (h : Kept S a w) (hp : g < a.heap.size → S g) (ds : Array Value) : Kept S a (w.setRow g ds) :=
  ⟨h.os, h.tape, h.output, by simpa using h.size, fun i hi hS => (setRow_other w g i ds (by rintro rfl; exact hS (hp hi))).trans (h.block i hi hS)⟩
theorem Blk.setRow (h : Blk w g t cs) (ds : Array Value) : Blk (w.setRow g ds) g t ds := setRow_heap w g cs ds t (0, 0) h
end

section
variable {P : Program} (w : World)
/-- 'append(s[:k], x...)' inside the row's own capacity, the row's block known whole. -/
theorem step_append_in {ops : Array Oper} {o : Oper} {a : Act} {K : Act → World → Prop} {Q : Exit → Act → World → Prop} {E : Prop} (hgd : o.guard = none) (s x : Operand) (t : TypeId)
    (ho : o.op = .call { callee := .builtin .append, args := #[s, x], argTypes := #[t, t] })
    (e : TypeId) (i : TypeInfo) (size : Nat) (ht : P.underlying t = some (.slice e)) (hi : P.info? e = some i) (hsize : i.size = size)
    (g sLen sCap : Nat) (cur : Array Value) (hs : a.eval s = .slice (some ⟨g, 0, none⟩) sLen sCap) (hg : w.heap[g]? = some (.cells cur e (0, 0)))
    (ad : Addr) (m c : Nat) (news : List Value) (hx : a.eval x = .slice (some ad) m c) (hl : news.length = m * size) (hnews : ∀ j u, news[j]? = some u → w.cell? (ad.add j) = some u) (h1 : ∀ u ∈ news, u.oneCell' = true)
    (hroom : sLen + m ≤ sCap) (hfit : sLen * size + news.length ≤ cur.size)
    (h : ∀ w', Blk w' g e (cur.toList.take (sLen * size) ++ news ++ cur.toList.drop (sLen * size + news.length)).toArray → Kept (Kone g) w w' → K (a.put o.dst (.slice (some ⟨g, 0, none⟩) (sLen + m) sCap)) w') :
    if Region.wanted o (yielded ops a.tmps) = true then Oper.wp P o a w K Q else E := by
  have hw : Region.wanted o (yielded ops a.tmps) = true := by simp [Region.wanted, hgd]
  rw [if_pos hw]
  subst hsize
  have hr := run_append_room (P := P) w t o.type e i ht hi g sLen sCap cur hg ad m c news hl hnews h1 hroom hfit
  unfold Oper.wp execOp
  simp only [ho, resolve, invoke, builtin, Sem.run_bind, Sem.run_pure, Result.andThen_ok, List.map_toArray, List.map_cons, List.map_nil, hs, hx, hr]
  exact h _ (Blk.setRow hg _) (Kept.setRow (S := Kone g) (Kept.refl _ _) (fun _ => rfl) _)

/-- 'clear(s)', s inside a row whose block is known whole. -/
theorem run_clear_row (t e ty : TypeId) (z : Value) (ht : P.underlying t = some (.slice e)) (hv : ∀ w, (zeroValue e).run P w = .ok z w) (g o n c : Nat) (cur : Array Value) (hg : w.heap[g]? = some (.cells cur e (0, 0))) (hn : 0 < n)
    (hfit : o + (Builtin.zeroCells z.cells n).toList.length ≤ cur.size) (h1 : ∀ u ∈ (Builtin.zeroCells z.cells n).toList, u.oneCell' = true) :
    (Builtin.clear_ #[t] ty #[.slice (some ⟨g, o, none⟩) n c]).run P w = .ok (.tuple #[]) (w.setRow g (cur.toList.take o ++ (Builtin.zeroCells z.cells n).toList ++ cur.toList.drop (o + (Builtin.zeroCells z.cells n).toList.length)).toArray) := by
  have hst := run_storeCells_at P g o e (Builtin.zeroCells z.cells n).toList 0 cur w hg (by simpa using hfit) h1
  simp only [Nat.add_zero] at hst
  obtain ⟨m, rfl⟩ : ∃ m, n = m + 1 := ⟨n - 1, by omega⟩
  simp [Builtin.clear_, run_underlying ht, hv, hst]

theorem wpList_clear_row {ops : Array Oper} {rest : List Oper} {o : Oper} {a : Act} {Q : Exit → Act → World → Prop} (hgd : o.guard = none) (s : Operand) (t : TypeId)
    (ho : o.op = .call { callee := .builtin .clear, args := #[s], argTypes := #[t] })
    (e : TypeId) (z : Value) (ht : P.underlying t = some (.slice e)) (hv : ∀ w, (zeroValue e).run P w = .ok z w) (g off n c : Nat) (cur : Array Value) (hs : a.eval s = .slice (some ⟨g, off, none⟩) n c)
    (hg : w.heap[g]? = some (.cells cur e (0, 0))) (hn : 0 < n)
    (hfit : off + (Builtin.zeroCells z.cells n).toList.length ≤ cur.size) (h1 : ∀ u ∈ (Builtin.zeroCells z.cells n).toList, u.oneCell' = true)
    (h : ∀ w', Blk w' g e (cur.toList.take off ++ (Builtin.zeroCells z.cells n).toList ++ cur.toList.drop (off + (Builtin.zeroCells z.cells n).toList.length)).toArray → Kept (Kone g) w w' → wpList P ops Q rest (a.put o.dst (.tuple #[])) w') : wpList P ops Q (o :: rest) a w := by
  refine wpList_plain hgd fun K hK => ?_
  have hr := run_clear_row (P := P) w t e o.type z ht hv g off n c cur hg hn hfit h1
  unfold Oper.wp execOp
  simp only [ho, resolve, invoke, builtin, Sem.run_bind, Sem.run_pure, Result.andThen_ok, List.map_toArray, List.map_cons, List.map_nil, hs, hr]
  exact hK _ _ (h _ (Blk.setRow hg _) (Kept.setRow (S := Kone g) (Kept.refl _ _) (fun _ => rfl) _))
end

end Go.Proofs.YtffdaohmalmkfaaGreat
/-
  'string(b)' of a slice that reads as bytes; a minimum as a natural number; a slice cut. No program in sight.
-/
namespace Go.Proofs.YtffdaohmalmkfaaGreat
open Go.RowKit
set_option linter.unusedVariables false

def strOf (l : List UInt8) : Value := .string ⟨l.toArray⟩

theorem run_string_bs {P : Program} {w : World} {v : Value} {l : List UInt8} (src dst e : TypeId) (h : Bs w v l) (hs : P.underlying src = some (.slice e)) (he : P.underlying e = some (.int .u8)) (hd : P.underlying dst = some .string) :
    (convert src dst v).run P w = .ok (.string ⟨l.toArray⟩) w := by
  obtain ⟨A, cap, rfl, hl, hx, hn, hc⟩ := h
  rcases A with _ | a
  · obtain ⟨h0, rfl⟩ := hn rfl
    have : l = [] := List.eq_nil_of_length_eq_zero h0
    subst this
    exact Go.Lib.run_convert_nil_bytes w src dst e 0 hs he hd
  · refine run_convert_bytes_back w src dst e a cap l hs he hd (fun j hj => ?_)
    exact hc a rfl j (bv l[j]) (by simp [List.getElem?_eq_getElem hj])

theorem min_natw (n b : Nat) : (if (b : Int) < (n : Int) then (b : Int) else (n : Int)) = ((min n b : Nat) : Int) := by
  by_cases h : (b : Int) < (n : Int)
  · rw [if_pos h]; omega
  · rw [if_neg h]; omega

theorem min_nat (n b : Nat) : ∃ m : Nat, (if (b : Int) < (n : Int) then (b : Int) else (n : Int)) = (m : Int) ∧ m ≤ n ∧ m ≤ b :=
  ⟨min n b, min_natw n b, Nat.min_le_left _ _, Nat.min_le_right _ _⟩

theorem Bs.cut {w : World} {A : Option Addr} {cap m : Nat} {l : List UInt8} (h : Bs w (.slice A l.length cap) l) (hm : m ≤ l.length) : Bs w (.slice A m cap) (l.take m) := by
  obtain ⟨A', cap', hv, h1, h2, h3, h4⟩ := h
  have e : (l.take m).length = m := by rw [List.length_take]; omega
  injection hv with hA hn hc
  subst hA hc
  refine ⟨A, cap, by rw [e], by rw [e]; omega, by rw [List.length_map]; omega, fun hA => ?_, fun ad hA j u hj => h4 ad hA j u ?_⟩
  · have := h3 hA; rw [e]; omega
  · rw [List.map_take, List.getElem?_take] at hj
    split at hj
    · exact hj
    · cases hj
end Go.Proofs.YtffdaohmalmkfaaGreat
/-
  Codec: numbers as bytes (LEB128): the writer's contracts.
-/
namespace Go.Proofs.YtffdaohmalmkfaaGreat
open Go.RowKit
set_option linter.unusedVariables false

theorem info_byte : (Tryz.prog.info? 5).map (fun i => (i.zero, i.size, i.bytes)) = some (some (.int .u8 0), 1, 1) := by kernel_rfl

/-- A call that changes nothing that was there. -/
def RetNew (v : Value) (w : World) (e : Ending) (w' : World) : Prop := e = .returned v ∧ Kept Kno w w'

/-- A number as bytes: seven bits each, the lowest first. -/
def lebF : Nat → Nat → List UInt8
  | 0, n => [UInt8.ofNat n]
  | f + 1, n => if n < 128 then [UInt8.ofNat n] else UInt8.ofNat (n % 128 + 128) :: lebF f (n / 128)
def leb (n : Nat) : List UInt8 := lebF 10 n
theorem lebF_small (f n : Nat) (h : n < 128) : lebF f n = [UInt8.ofNat n] := by
  cases f with
  | zero => rfl
  | succ f => simp [lebF, h]
theorem lebF_more (f n : Nat) (h : n < 128 ^ (f + 1)) : lebF (f + 1) n = lebF f n := by
  induction f generalizing n with
  | zero => simp only [lebF]; rw [if_pos (by simpa using h)]
  | succ f ih =>
    show (if n < 128 then [UInt8.ofNat n] else UInt8.ofNat (n % 128 + 128) :: lebF (f + 1) (n / 128)) = (if n < 128 then [UInt8.ofNat n] else UInt8.ofNat (n % 128 + 128) :: lebF f (n / 128))
    rw [ih (n / 128) (by rw [Nat.div_lt_iff_lt_mul (by decide)]; rw [Nat.pow_succ] at h; exact h)]
theorem leb_step (n : Nat) (h : 128 ≤ n) (h2 : n < 18446744073709551616) : leb n = UInt8.ofNat (n % 128 + 128) :: leb (n / 128) := by
  unfold leb
  rw [lebF_more 9 (n / 128) (by omega)]
  show (if n < 128 then [UInt8.ofNat n] else UInt8.ofNat (n % 128 + 128) :: lebF 9 (n / 128)) = _
  rw [if_neg (by omega)]
theorem leb_small (n : Nat) (h : n < 128) : leb n = [UInt8.ofNat n] := lebF_small 10 n h
theorem lebF_length (f n : Nat) : 1 ≤ (lebF f n).length ∧ (lebF f n).length ≤ f + 1 := by
  induction f generalizing n with
  | zero => simp [lebF]
  | succ f ih =>
    simp only [lebF]
    split
    · simp
    · have := ih (n / 128); simp; omega
theorem leb_length (n : Nat) : 1 ≤ (leb n).length ∧ (leb n).length ≤ 11 := lebF_length 10 n

/-- A row of the caller's own has become another: m. -/
def PutOk (base : Nat) (b : Value) (m : List UInt8) (w : World) (e : Ending) (w' : World) : Prop :=
  ∃ A cap, e = .returned (.slice A m.length cap) ∧ OwnB w' base 5 (.slice A m.length cap) m ∧ Kept (Kown b) w w' ∧ ∀ k, (Value.slice A m.length cap).ownBlock = some k → b.ownBlock = some k ∨ w.heap.size ≤ k

def PutRel (base : Nat) (b0 : Value) (l : List UInt8) (n : Nat) (w : World) (b nv : Value) (wr : World) : Prop :=
  ∃ (A : Option Addr) (cap : Nat) (l' : List UInt8) (n' : Nat), b = .slice A l'.length cap ∧ nv = .int .u64 n' ∧ n' < 18446744073709551616 ∧ OwnB wr base 5 (.slice A l'.length cap) l' ∧ l' ++ leb n' = l ++ leb n ∧ Kept (Kown b0) w wr ∧ ∀ k, (Value.slice A l'.length cap).ownBlock = some k → b0.ownBlock = some k ∨ w.heap.size ≤ k

/-- A row that was appended to, from any source. -/
theorem grow_put {base m : Nat} {b0 : Value} {w wr wa w2 : World} {A A2 : Option Addr} {cap cap2 : Nat} {l' news : List UInt8} (hk : Kept (Kown b0) w wr) (hat : ∀ k, (Value.slice A l'.length cap).ownBlock = some k → b0.ownBlock = some k ∨ w.heap.size ≤ k) (hwa : Kept Kno wr wa)
    (hm : news.length = m) (hown2 : w2.ownsRow base 5 1 (.slice A2 (l'.length + m) cap2) (l'.length + m) (l'.map bv ++ news.map bv)) (hg2 : wa.grownBy w2 (Value.slice A l'.length cap).ownBlock)
    (hat2 : (Value.slice A2 (l'.length + m) cap2).ownBlock = (Value.slice A l'.length cap).ownBlock ∨ (Value.slice A2 (l'.length + m) cap2).ownBlock = some wa.heap.size) :
    OwnB w2 base 5 (.slice A2 (l' ++ news).length cap2) (l' ++ news) ∧ Kept (Kown b0) w w2 ∧ (∀ k, (Value.slice A2 (l' ++ news).length cap2).ownBlock = some k → b0.ownBlock = some k ∨ w.heap.size ≤ k) := by
  have e : (l' ++ news).length = l'.length + m := by rw [List.length_append, hm]
  have hs := hk.size
  have hs2 := hwa.size
  refine ⟨?_, (hk.then0 hwa).grown hg2 (fun k hk' he => ?_), fun k hk' => ?_⟩
  · unfold OwnB; rw [e, List.map_append]; exact hown2
  · rcases hat k he with h | h
    · exact h
    · omega
  · rw [e] at hk'
    rcases hat2 with h | h
    · rw [h] at hk'; exact hat k hk'
    · rw [h] at hk'; injection hk' with hk'; exact .inr (by omega)

theorem or_low (n : Nat) : bits BinOp.or IntKind.u8 ((n : Int) % 256) 128 = (((UInt8.ofNat (n % 128 + 128)).toNat : Nat) : Int) := by
  have h1 : ∀ x : Fin 256, bits BinOp.or IntKind.u8 ((x.val : Nat) : Int) 128 = ((x.val % 128 + 128 : Nat) : Int) := by decide +kernel
  have h2 := h1 ⟨n % 256, Nat.mod_lt _ (by decide)⟩
  simp only at h2
  have e : ((n : Int) % 256) = ((n % 256 : Nat) : Int) := by omega
  rw [e, h2, UInt8.toNat_ofNat']
  omega
theorem mod_low (n : Nat) (h : n < 128) : ((n : Int) % 256) = (((UInt8.ofNat n).toNat : Nat) : Int) := by
  rw [UInt8.toNat_ofNat']
  omega

set_option maxHeartbeats 1000000 in
theorem putUint_any (base : Nat) (b : Value) (l : List UInt8) (n : Nat) (w : World) (h : OwnB w base 5 b l) (hn : n < 18446744073709551616) (hl : l.length ≤ 140737488355000) (hb : base ≤ w.heap.size) :
    Calls Tryz.prog 239 #[b, .int .u64 n] w (PutOk base b (l ++ leb n) w) := by
  obtain ⟨i0, hi, hz0, hz1, hz2⟩ := info_parts info_byte
  have H := Lib.hid h
  obtain ⟨A0, cap0, rfl⟩ := own_form h
  clear h
  go_enter Tryz.func239, Tryz.ntmps239
  go_wp2_with fail
  go_loopw [0, 1] (fun b nv wr => PutRel base (.slice A0 l.length cap0) l n w b nv wr) (fun _ nv _ => (intOf nv).toNat)
  case atStart => exact ⟨A0, cap0, l, n, rfl, rfl, hn, H.out, rfl, Kept.refl _ _, fun k hk => .inl hk⟩
  case round =>
    obtain ⟨A, cap, l', n', rfl, rfl, hn', hown, heq, hk, hat⟩ := hrel
    have HO := Lib.hid hown
    have HE := Lib.hid heq
    have HAT := Lib.hid hat
    have hll : l'.length + 1 ≤ l.length + 11 := by
      have h1 := congrArg List.length heq
      have h2 := (leb_length n).2
      have h3 := (leb_length n').1
      simp only [List.length_append] at h1
      omega
    clear hown heq hat
    by_cases hge : 128 ≤ n'
    · have hge2 : (128 : Int) ≤ (n' : Int) := by omega
      have hor := or_low n'
      have hst := leb_step n' hge hn'
      have HST := Lib.hid hst
      generalize UInt8.ofNat (n' % 128 + 128) = c at hor HST
      have m1 : l'.length + 1 ≤ maxLen := by simp only [maxLen]; omega
      have hbw : base ≤ wr.heap.size := Nat.le_trans hb hk.size
      clear hst
      go_wp2_with (at_builtin; go_must (refine wpList_append_rd _ rfl _ _ 22 rfl base 5 i0 _ 1 1 Tryz.underlying22 hi hz0 hz1 hz2 rfl (by decide) (.slice A l'.length cap) l'.length (l'.map bv) rfl (World.ownsRow.alloc HO.out _) _ 1 [bv c] rfl (Rd.one _ _ _ rfl) (by simp [Value.oneCell', bv]) m1 (by omega) (by simp; omega) ?_); intro A2 cap2 w2 hown2 hg2 hat2)
      refine ⟨?_, by simp only [intOf]; omega⟩
      obtain ⟨p1, p2, p3⟩ := grow_put (news := [c]) hk HAT.out ((Kept.refl _ _).alloc _) rfl hown2 hg2 hat2
      refine ⟨A2, cap2, l' ++ [c], n' / 128, by simp, by go_num, by omega, p1, ?_, p2, p3⟩
      rw [← HE.out, HST.out]
      simp
    · have hge2 : ¬ (128 : Int) ≤ (n' : Int) := by omega
      obtain ⟨c, rfl⟩ : ∃ c : UInt8, n' = c.toNat := ⟨UInt8.ofNat n', by rw [UInt8.toNat_ofNat']; omega⟩
      have hst : leb c.toNat = [c] := by rw [leb_small c.toNat (by omega), UInt8.ofNat_toNat]
      have HST := Lib.hid hst
      have m1 : l'.length + 1 ≤ maxLen := by simp only [maxLen]; omega
      have hbw : base ≤ wr.heap.size := Nat.le_trans hb hk.size
      clear hst
      go_wp2_with (at_builtin; go_must (refine wpList_append_rd _ rfl _ _ 22 rfl base 5 i0 _ 1 1 Tryz.underlying22 hi hz0 hz1 hz2 rfl (by decide) (.slice A l'.length cap) l'.length (l'.map bv) rfl (World.ownsRow.alloc HO.out _) _ 1 [bv c] rfl (Rd.one _ _ _ rfl) (by simp [Value.oneCell', bv]) m1 (by omega) (by simp; omega) ?_); intro A2 cap2 w2 hown2 hg2 hat2)
      go_ret
      obtain ⟨p1, p2, p3⟩ := grow_put (news := [c]) hk HAT.out ((Kept.refl _ _).alloc _) rfl hown2 hg2 hat2
      have e : l' ++ [c] = l ++ leb n := by rw [← HE.out, HST.out]
      rw [e] at p1 p3
      have el : l'.length + 1 = (l ++ leb n).length := by rw [← e]; simp
      exact ⟨A2, cap2, by rw [← el]; rfl, p1, p2, p3⟩

end Go.Proofs.YtffdaohmalmkfaaGreat
